/- Part 4 of the proof: contracts of functions that the statement reaches, and plain lemmas. -/
import Derived.Test.YtafonmnfeibaiaaAll2
import Derived.StillTailTactics
import Derived.Laws.Rows
import Derived.Laws.CopyRow
import Derived.Deep.MidRow
import Derived.Deep.RegionHeld3
import Derived.Deep.Cut
namespace Go.Proofs.Ytafonmnfeibaiaa
open Go.RowKit

theorem row_of_owns {W : World} {base : Nat} {v : Value} {l : List ByteArray} (h : W.ownsRow base 9 1 v l.length (l.map .string)) : ∃ a cap, v = .slice a l.length cap ∧ Row W a l ∧ l.length ≤ maxLen ∧ (∀ b o s, a = some ⟨b, o, s⟩ → base ≤ b) := by
  obtain ⟨_, ⟨rfl, h0⟩ | ⟨g, cap, cur, rfl, hb, hg, hc1, hc2, hc3, hc4⟩⟩ := h
  · refine ⟨none, 0, by rw [h0], fun j hj => by omega, by rw [h0]; exact Nat.zero_le _, fun b o s e => by cases e⟩
  · refine ⟨some ⟨g, 0, none⟩, cap, rfl, fun j hj => ⟨g, 0, rfl, lt_of_heap hg, ?_⟩, by omega, fun b o s e => by cases e; exact hb⟩
    rw [cell_of hg, Nat.zero_add]
    have h1 : (cur.toList.take (l.length * 1))[j]? = (l.map Value.string)[j]? := by rw [hc4]
    rw [List.getElem?_take, if_pos (by omega), List.getElem?_map, List.getElem?_eq_getElem hj] at h1
    rw [← Array.getElem?_toList]; exact h1
theorem Row.below {w w' : World} {a : Option Addr} {l : List ByteArray} (h : Row w a l) (hb : Below w.heap.size w w') : Row w' a l := fun j hj => by
  obtain ⟨b, off, e, hlt, hc⟩ := h j hj
  exact ⟨b, off, e, Nat.lt_of_lt_of_le hlt hb.size, by rw [hb.cell (p := ⟨b, off + j, none⟩) hlt]; exact hc⟩
def FindPost (T : IT.Tr) (c : Cr) (cwd : Int) (s : ByteArray) (w : World) (e : Ending) (w' : World) : Prop :=
  ∃ v : Value, e = .returned (.tuple #[v, .int .i64 (findT T c cwd (bs s)).2]) ∧ v = (if (findT T c cwd (bs s)).2 = 0 then statV T (findT T c cwd (bs s)).1 else noInfo) ∧ Below w.heap.size w w'
theorem findPost_err {T : IT.Tr} {c : Cr} {cwd : Int} {s : ByteArray} {w w' : World} {k : Nat} {r : Int} (h : findT T c cwd (bs s) = (k, r)) (hr : r ≠ 0) (hb : Below w.heap.size w w') : FindPost T c cwd s w (.returned (.tuple #[noInfo, .int .i64 r])) w' := by
  unfold FindPost
  rw [h]
  exact ⟨_, rfl, by rw [if_neg hr], hb⟩
theorem findPost_ok {T : IT.Tr} {c : Cr} {cwd : Int} {s : ByteArray} {w w' : World} {k : Nat} {v : Value} (h : findT T c cwd (bs s) = (k, 0)) (hv : v = statV T k) (hb : Below w.heap.size w w') : FindPost T c cwd s w (.returned (.tuple #[v, .int .i64 0])) w' := by
  unfold FindPost
  rw [h]
  exact ⟨_, rfl, by rw [if_pos rfl]; exact hv, hb⟩
theorem split_of {s : ByteArray} {abs dir : Bool} {l : List ByteArray} {err : Int} (h : Pp.splitS s.data.toList = (abs, dir, l.map (fun x : ByteArray => x.data.toList), err)) : Pp.splitS (bs s) = (abs, dir, l.map bs, err) := h
/-- Two blocks of the beginning, behind more. -/
theorem two_blocks {w w1 : World} {A B : Array Value} {TA TB : TypeId} (hb : Below (w.heap.size + 1 + 1) ((w.alloc (.cells A TA)).alloc (.cells B TB)) w1) : w1.heap[w.heap.size]? = some (.cells A TA (0, 0)) ∧ w1.heap[w.heap.size + 1]? = some (.cells B TB (0, 0)) ∧ w.heap.size + 1 < w1.heap.size ∧ Below w.heap.size w w1 := by
  have hs := hb.size
  rw [alloc_size, alloc_size] at hs
  refine ⟨?_, ?_, by omega, (((Below.refl _ _).alloc (Nat.le_refl _) _).alloc (by rw [alloc_size]; omega) _).trans (hb.mono (by omega))⟩
  · rw [hb.block _ (by omega), alloc_heap_old _ _ (by rw [alloc_size]; omega), alloc_heap]
  · have := alloc_heap (w.alloc (Obj.cells A TA)) (Obj.cells B TB)
    rw [alloc_size] at this
    rw [hb.block _ (by omega)]; exact this
set_option maxRecDepth 100000 in
set_option maxHeartbeats 4000000 in
theorem wfind_any {w : World} {t : Nat} {S : Tab} {T : IT.Tr} (h : Tre w t S T) (cwd : Int) (c : Cr) (s : ByteArray) :
    Calls Try.prog 40 #[ask t cwd c, .string s] w (FindPost T c cwd s w) := by
  have H := Lib.hid h
  clear h
  have HF := Lib.hid (rfl : findT T c cwd (bs s) = findT T c cwd (bs s))
  unfold ask
  go_enter Try.func40, Try.ntmps40
  go_wp2_with fail
  refine (Pp.split_any s _).mono ?_
  rintro e w1 ⟨abs, dir, v, l, err, rfl, hown, hb, hsp⟩
  obtain ⟨a, cap, rfl, hrow, hlen, _⟩ := row_of_owns hown
  have HSP := Lib.hid (split_of hsp)
  rw [alloc_size, alloc_size] at hb
  obtain ⟨b0, b1, hlt, hbb⟩ := two_blocks hb
  have HROW := Lib.hid hrow
  have HLEN := Lib.hid hlen
  have HBB := Lib.hid hbb
  have HLT := Lib.hid hlt
  have HB0 := Lib.hid b0
  have HB1 := Lib.hid b1
  by_cases he : err = 0
  · subst he
    have HX := Lib.hid (rfl : goT T c cwd abs (l.map bs) = goT T c cwd abs (l.map bs))
    have ho : w1.heap[w.heap.size]? = some (.cells (askC t cwd c) 74 (0, 0)) := b0
    have a0 : w1.cell? ⟨w.heap.size, 0, none⟩ = some (.pointer (some ⟨t, 0, none⟩)) := cell_of ho 0
    have a1 : w1.cell? ⟨w.heap.size, 1, none⟩ = some (.int .i64 cwd) := cell_of ho 1
    have a2 : w1.cell? ⟨w.heap.size, 2, none⟩ = some (.int .i64 c.real) := cell_of ho 2
    have a3 : w1.cell? ⟨w.heap.size, 3, none⟩ = some (.int .i64 c.eff) := cell_of ho 3
    have a4 : w1.cell? ⟨w.heap.size, 4, none⟩ = some (.int .i64 c.saved) := cell_of ho 4
    have a5 : w1.cell? ⟨w.heap.size, 5, none⟩ = some (.int .i64 c.group) := cell_of ho 5
    have a6 : w1.cell? ⟨w.heap.size, 6, none⟩ = some (.int .i64 c.eg) := cell_of ho 6
    have hlt2 : w.heap.size < w1.heap.size := by omega
    clear hown hb hsp b0 b1 hbb hrow hlen ho
    go_wp2_with fail
    have hbp := belowA HBB.out (.cells #[.bool abs, .slice a l.length cap, .bool dir] 115)
    refine (wdown_any (H.out.mv ((Mv.refl H.out.rep).below hbp)) cwd c abs a cap l (HROW.out.below ((Below.refl _ _).alloc (Nat.le_refl _) _)) HLEN.out).mono ?_
    rintro e w2 ⟨v, rfl, hv, hb2⟩
    have hgo := go_there (c := c) (cwd := cwd) (abs := abs) (l := l.map bs) H.out.snd
    obtain ⟨⟨k, r⟩, hg⟩ : ∃ g, goT T c cwd abs (l.map bs) = g := ⟨_, rfl⟩
    rw [hg] at hv hgo ⊢
    dsimp only at hv hgo
    have HG := Lib.hid hg
    have q0 := (hb2.block _ (by rw [alloc_size]; omega)).trans ((alloc_heap_old _ _ (by omega)).trans HB1.out)
    have qp := (hb2.block _ (by rw [alloc_size]; omega)).trans (alloc_heap w1 (.cells #[.bool abs, .slice a l.length cap, .bool dir] 115))
    have p2 : w2.cell? ⟨w1.heap.size, 2, none⟩ = some (.bool dir) := cell_of qp 2
    have r0 : w2.cell? ⟨w.heap.size + 1, 0, none⟩ = some (.int .i64 0) := cell_of q0 0
    have f0 : w2.frozen? ⟨w.heap.size + 1, 0, none⟩ = false := frozen_of q0 0
    have r1 : w2.cell? ⟨w.heap.size + 1, 1, none⟩ = some (.int .i64 0) := cell_of q0 1
    have f1 : w2.frozen? ⟨w.heap.size + 1, 1, none⟩ = false := frozen_of q0 1
    have r2 : w2.cell? ⟨w.heap.size + 1, 2, none⟩ = some (.int .i64 0) := cell_of q0 2
    have f2 : w2.frozen? ⟨w.heap.size + 1, 2, none⟩ = false := frozen_of q0 2
    have r3 : w2.cell? ⟨w.heap.size + 1, 3, none⟩ = some (.int .i64 0) := cell_of q0 3
    have f3 : w2.frozen? ⟨w.heap.size + 1, 3, none⟩ = false := frozen_of q0 3
    have r4 : w2.cell? ⟨w.heap.size + 1, 4, none⟩ = some (.int .i64 0) := cell_of q0 4
    have f4 : w2.frozen? ⟨w.heap.size + 1, 4, none⟩ = false := frozen_of q0 4
    have r5 : w2.cell? ⟨w.heap.size + 1, 5, none⟩ = some (.int .i64 0) := cell_of q0 5
    have f5 : w2.frozen? ⟨w.heap.size + 1, 5, none⟩ = false := frozen_of q0 5
    have r6 : w2.cell? ⟨w.heap.size + 1, 6, none⟩ = some (.int .i64 0) := cell_of q0 6
    have f6 : w2.frozen? ⟨w.heap.size + 1, 6, none⟩ = false := frozen_of q0 6
    have r7 : w2.cell? ⟨w.heap.size + 1, 7, none⟩ = some (.int .i64 0) := cell_of q0 7
    have f7 : w2.frozen? ⟨w.heap.size + 1, 7, none⟩ = false := frozen_of q0 7
    have HQ0 := Lib.hid q0
    have hlt3 : w1.heap.size < w2.heap.size := by have := hb2.size; rw [alloc_size] at this; omega
    have hlt4 : w.heap.size + 1 < w2.heap.size := by omega
    have hlt5 : w.heap.size < w2.heap.size := by omega
    have HLT4 := Lib.hid hlt4
    have HB2 : Hid (Below w.heap.size w w2) := Lib.hid (hbp.trans (hb2.mono (by rw [alloc_size]; omega)))
    clear hg hb2 hbp q0 qp a0 a1 a2 a3 a4 a5 a6
    by_cases hr : r = 0
    · subst hr
      obtain ⟨m, hm⟩ := hgo rfl
      have hv2 : v = .agg (infC T k m) := by rw [hv, if_pos rfl, ← stat_eq hm]
      unfold infC at hv2
      subst hv2
      have HM := Lib.hid hm
      clear hm hgo hv
      cases dir with
      | false =>
        have HE : Hid (findT T c cwd (bs s) = (k, 0)) := Lib.hid (by
          unfold findT
          rw [HSP.out]
          dsimp only
          rw [if_neg (by decide), HG.out, if_neg (fun hh => hh rfl), if_neg (by simp)])
        go_wp2
        refine bodyPost_ret (ret_info rfl rfl ((alloc_heap_old _ _ (by simpa [World.setCell] using HLT4.out)).trans (heap_set8 HQ0.out))) rfl ?_
        exact findPost_ok HE.out (stat_eq HM.out) (belowA (below_set8 HB2.out (by omega)) _)
      | true =>
        by_cases hk : m.kind = 1
        · have hk1 : (m.kind != 1) = false := by simpa using hk
          have HE : Hid (findT T c cwd (bs s) = (k, 0)) := Lib.hid (by
            unfold findT
            rw [HSP.out]
            dsimp only
            rw [if_neg (by decide), HG.out, if_neg (fun hh => hh rfl), if_neg (by
              rintro ⟨_, h2⟩
              unfold kindT at h2
              rw [HM.out] at h2
              exact h2 hk)])
          clear hk
          go_wp2
          refine bodyPost_ret (ret_info rfl rfl ((alloc_heap_old _ _ (by simpa [World.setCell] using HLT4.out)).trans (heap_set8 HQ0.out))) rfl ?_
          exact findPost_ok HE.out (stat_eq HM.out) (belowA (below_set8 HB2.out (by omega)) _)
        · have hk1 : (m.kind != 1) = true := by simpa using hk
          have HE : Hid (findT T c cwd (bs s) = (0, 6)) := Lib.hid (by
            unfold findT
            rw [HSP.out]
            dsimp only
            rw [if_neg (by decide), HG.out, if_neg (fun hh => hh rfl), if_pos]
            refine ⟨rfl, ?_⟩
            unfold kindT
            rw [HM.out]
            exact hk)
          clear hk
          go_wp2
          refine bodyPost_ret (ret_info rfl rfl ((alloc_heap_old _ _ (by simpa [World.setCell] using HLT4.out)).trans (heap_set8 HQ0.out))) rfl ?_
          exact findPost_err HE.out (by decide) (belowA (below_set8 HB2.out (by omega)) _)
    · have hr1 : (r == 0) = false := by simpa using hr
      have hv2 : v = noInfo := by rw [hv, if_neg hr]
      unfold noInfo at hv2
      subst hv2
      have HE : Hid (findT T c cwd (bs s) = (0, r)) := Lib.hid (by
        unfold findT
        rw [HSP.out]
        dsimp only
        rw [if_neg (by decide), HG.out, if_pos hr])
      have HR := Lib.hid hr
      clear hgo hv hr
      go_wp2
      refine bodyPost_ret (ret_info rfl rfl ((alloc_heap_old _ _ (by simpa [World.setCell] using HLT4.out)).trans (heap_set8 HQ0.out))) rfl ?_
      exact findPost_err HE.out HR.out (belowA (below_set8 HB2.out (by omega)) _)
  · have he1 : (err != 0) = true := by simpa using he
    have r0 : w1.cell? ⟨w.heap.size + 1, 0, none⟩ = some (.int .i64 0) := cell_of b1 0
    have f0 : w1.frozen? ⟨w.heap.size + 1, 0, none⟩ = false := frozen_of b1 0
    have r1 : w1.cell? ⟨w.heap.size + 1, 1, none⟩ = some (.int .i64 0) := cell_of b1 1
    have f1 : w1.frozen? ⟨w.heap.size + 1, 1, none⟩ = false := frozen_of b1 1
    have r2 : w1.cell? ⟨w.heap.size + 1, 2, none⟩ = some (.int .i64 0) := cell_of b1 2
    have f2 : w1.frozen? ⟨w.heap.size + 1, 2, none⟩ = false := frozen_of b1 2
    have r3 : w1.cell? ⟨w.heap.size + 1, 3, none⟩ = some (.int .i64 0) := cell_of b1 3
    have f3 : w1.frozen? ⟨w.heap.size + 1, 3, none⟩ = false := frozen_of b1 3
    have r4 : w1.cell? ⟨w.heap.size + 1, 4, none⟩ = some (.int .i64 0) := cell_of b1 4
    have f4 : w1.frozen? ⟨w.heap.size + 1, 4, none⟩ = false := frozen_of b1 4
    have r5 : w1.cell? ⟨w.heap.size + 1, 5, none⟩ = some (.int .i64 0) := cell_of b1 5
    have f5 : w1.frozen? ⟨w.heap.size + 1, 5, none⟩ = false := frozen_of b1 5
    have r6 : w1.cell? ⟨w.heap.size + 1, 6, none⟩ = some (.int .i64 0) := cell_of b1 6
    have f6 : w1.frozen? ⟨w.heap.size + 1, 6, none⟩ = false := frozen_of b1 6
    have r7 : w1.cell? ⟨w.heap.size + 1, 7, none⟩ = some (.int .i64 0) := cell_of b1 7
    have f7 : w1.frozen? ⟨w.heap.size + 1, 7, none⟩ = false := frozen_of b1 7
    have HE := Lib.hid he
    have hlt2 : w.heap.size < w1.heap.size := by omega
    clear hown hb hsp b0 b1 hbb hrow hlen he
    go_wp2
    refine bodyPost_ret (ret_info rfl rfl ((alloc_heap_old _ _ (by simpa [World.setCell] using HLT.out)).trans (heap_set8 HB1.out))) rfl ?_
    refine findPost_err (k := 0) ?_ HE.out (belowA (below_set8 HBB.out (by omega)) _)
    unfold findT
    rw [HSP.out]
    dsimp only
    rw [if_pos HE.out]
end Go.Proofs.Ytafonmnfeibaiaa
namespace Go.Proofs.Ytafonmnfeibaiaa
open Go.RowKit

/-! A whole block read and written. -/
section
variable {P : Program} {W : World} {R : Nat} {T : TypeId} {f : Nat × Nat} {C C' : Array Value}
theorem heap_setRow_same (h : W.heap[R]? = some (.cells C T f)) : (W.setRow R C').heap[R]? = some (.cells C' T f) := by
  simp [World.setRow, Array.getElem?_modify, h]
theorem heap_setRow_other {b : Nat} (hb : b ≠ R) : (W.setRow R C').heap[b]? = W.heap[b]? := by
  simp only [World.setRow, Array.getElem?_modify]
  rw [if_neg (Ne.symm hb)]
theorem setRow_size : (W.setRow R C').heap.size = W.heap.size := by simp [World.setRow]
theorem below_setRow {n : Nat} {w : World} (h : Below n w W) (hn : n ≤ R) : Below n w (W.setRow R C') :=
  h.trans ⟨rfl, rfl, rfl, by rw [setRow_size]; exact Nat.le_refl _, fun b hb => heap_setRow_other (by omega)⟩
theorem lc_blk (h : W.heap[R]? = some (.cells C T f)) {n : Nat} (hn : C.size = n) : (loadCellsFrom ⟨R, 0, none⟩ 0 n #[]).run P W = .ok C W := by
  subst hn
  have := run_loadCells_list (P := P) W ⟨R, 0, none⟩ C.toList (fun j v hv => by
    have hadd : (⟨R, 0, none⟩ : Addr).add j = ⟨R, j, none⟩ := by unfold Addr.add; split <;> simp_all
    rw [hadd, cell_of h j]
    simpa using hv)
  simpa [loadCells] using this
theorem sc_blk (h : W.heap[R]? = some (.cells C T (0, 0))) (o : Nat) (vs : List Value) (hC' : (C.toList.take o ++ vs ++ C.toList.drop (o + vs.length)).toArray = C') (hle : o + vs.length ≤ C.size) (h1 : ∀ v ∈ vs, v.oneCell' = true) : (storeCells ⟨R, o, none⟩ vs 0).run P W = .ok () (W.setRow R C') := by
  have := run_storeCells_at (P := P) R o T vs 0 C W h (by omega) h1
  rw [Nat.add_zero, hC'] at this
  exact this
theorem ret_blk {fn : Func} {tmps : Array Value} {ty : TypeId} {p u : Tmp} {d : TypeDesc} (hres : fn.results = #[.cell p ty, .tmp u]) (hp : tmps.getD p undef = .pointer (some ⟨R, 0, none⟩))
    (hR : W.heap[R]? = some (.cells C T f)) (hu : P.underlying ty = some d) (hd : (match d with | .struct _ | .array _ _ => true | _ => false) = true) (hi : (P.info? ty).map (·.size) = some C.size) : (results fn tmps).run P W = .ok (.tuple #[.agg C, tmps.getD u undef]) W := by
  rw [results_cell_tmp hres, hp]
  have h1 := run_loadVar_row W R T ty C f d hR hu hd hi
  show ((loadVar ty ⟨R, 0, none⟩).run P W).andThen (fun v w₂ => Result.ok (Value.tuple #[v, tmps.getD u undef]) w₂) = _
  rw [h1]; rfl
end
/-- Some cells of an array, written. -/
def putA : Array Value → Nat → List Value → Array Value
  | C, _, [] => C
  | C, o, v :: r => putA (C.setIfInBounds o v) (o + 1) r
theorem heap_setCells {R : Nat} {T : TypeId} {f : Nat × Nat} : ∀ (vs : List Value) (o : Nat) (C : Array Value) (W : World), W.heap[R]? = some (.cells C T f) → (W.setCells R o vs).heap[R]? = some (.cells (putA C o vs) T f)
  | [], _, _, _, h => h
  | v :: r, o, C, W, h => heap_setCells r (o + 1) _ _ (heap_setCell_same h v)
theorem setCells_size {R : Nat} : ∀ (vs : List Value) (o : Nat) (W : World), (W.setCells R o vs).heap.size = W.heap.size
  | [], _, _ => rfl
  | v :: r, o, W => by rw [World.setCells, setCells_size r]; simp [World.setCell]
theorem below_setCells {R n : Nat} {w : World} (hn : n ≤ R) : ∀ (vs : List Value) (o : Nat) (W : World), Below n w W → Below n w (W.setCells R o vs)
  | [], _, _, h => h
  | v :: r, o, W, h => below_setCells hn r (o + 1) _ (h.setCell hn _)
theorem heap_setCells_other {R b : Nat} (hb : b ≠ R) : ∀ (vs : List Value) (o : Nat) (W : World), (W.setCells R o vs).heap[b]? = W.heap[b]?
  | [], _, _ => rfl
  | v :: r, o, W => by rw [World.setCells, heap_setCells_other hb r, Below.heap_setCell _ _ _ _ hb]
theorem range_of {W : World} {R : Nat} {C : Array Value} {T : TypeId} {f : Nat × Nat} (h : W.heap[R]? = some (.cells C T f)) : W.rangeAt R 0 C.toList := fun j v hv => by
  rw [Nat.zero_add, cell_of h j]; simpa using hv
theorem there_of {W : World} {R : Nat} {C : Array Value} {T : TypeId} (h : W.heap[R]? = some (.cells C T (0, 0))) : W.there R 0 C.size := fun j hj => by
  refine ⟨?_, frozen_of h _⟩
  rw [Nat.zero_add, cell_of h j]; simp [hj]
def zeroE : Array Value := #[.int .i64 0, .int .i64 0, .int .i64 0, .int .i64 0, .int .i64 0, .int .i64 0, .int .i64 0, .int .i64 0, .string ⟨#[]⟩, .bool false, .int .i64 0, .int .i64 0, .int .i64 0, .int .i64 0, .int .i64 0, .int .i64 0, .int .i64 0, .int .i64 0, .bool false]
def entC0 (d0 d1 d2 d3 d4 d5 d6 d7 : Int) (name : ByteArray) (must : Bool) : Array Value := #[.int .i64 d0, .int .i64 d1, .int .i64 d2, .int .i64 d3, .int .i64 d4, .int .i64 d5, .int .i64 d6, .int .i64 d7, .string name, .bool must, .int .i64 0, .int .i64 0, .int .i64 0, .int .i64 0, .int .i64 0, .int .i64 0, .int .i64 0, .int .i64 0, .bool false]
theorem entC0_one {d0 d1 d2 d3 d4 d5 d6 d7 : Int} {name : ByteArray} {must : Bool} : (entC0 d0 d1 d2 d3 d4 d5 d6 d7 name must).all (·.oneCell') = true := by
  simp [entC0, Value.oneCell']
def entC1 (d0 d1 d2 d3 d4 d5 d6 d7 : Int) (name : ByteArray) (must : Bool) (g0 g1 g2 g3 g4 g5 g6 g7 : Int) : Array Value := #[.int .i64 d0, .int .i64 d1, .int .i64 d2, .int .i64 d3, .int .i64 d4, .int .i64 d5, .int .i64 d6, .int .i64 d7, .string name, .bool must, .int .i64 g0, .int .i64 g1, .int .i64 g2, .int .i64 g3, .int .i64 g4, .int .i64 g5, .int .i64 g6, .int .i64 g7, .bool true]
theorem entC1_one {d0 d1 d2 d3 d4 d5 d6 d7 g0 g1 g2 g3 g4 g5 g6 g7 : Int} {name : ByteArray} {must : Bool} : ∀ v ∈ (entC1 d0 d1 d2 d3 d4 d5 d6 d7 name must g0 g1 g2 g3 g4 g5 g6 g7).toList, v.oneCell' = true := by
  simp [entC1, Value.oneCell']
theorem entC0_one' {d0 d1 d2 d3 d4 d5 d6 d7 : Int} {name : ByteArray} {must : Bool} : ∀ v ∈ (entC0 d0 d1 d2 d3 d4 d5 d6 d7 name must).toList, v.oneCell' = true := by
  simp [entC0, Value.oneCell']
theorem put_all {d0 d1 d2 d3 d4 d5 d6 d7 : Int} {name : ByteArray} {must : Bool} : putA zeroE 0 (entC0 d0 d1 d2 d3 d4 d5 d6 d7 name must).toList = entC0 d0 d1 d2 d3 d4 d5 d6 d7 name must := by
  apply Array.ext'
  simp [putA, zeroE, entC0]
theorem put18 {d0 d1 d2 d3 d4 d5 d6 d7 : Int} {name : ByteArray} {must : Bool} : (entC0 d0 d1 d2 d3 d4 d5 d6 d7 name must).setIfInBounds 18 (.bool true) = entC1 d0 d1 d2 d3 d4 d5 d6 d7 name must 0 0 0 0 0 0 0 0 := by
  apply Array.ext'
  simp [entC0, entC1]
theorem put8 {d0 d1 d2 d3 d4 d5 d6 d7 g0 g1 g2 g3 g4 g5 g6 g7 : Int} {name : ByteArray} {must : Bool} : putA (entC1 d0 d1 d2 d3 d4 d5 d6 d7 name must 0 0 0 0 0 0 0 0) 10 [.int .i64 g0, .int .i64 g1, .int .i64 g2, .int .i64 g3, .int .i64 g4, .int .i64 g5, .int .i64 g6, .int .i64 g7] = entC1 d0 d1 d2 d3 d4 d5 d6 d7 name must g0 g1 g2 g3 g4 g5 g6 g7 := by
  apply Array.ext'
  simp [putA, entC1]
theorem nest8 {W : World} {R : Nat} {g0 g1 g2 g3 g4 g5 g6 g7 : Int} : ((((((((W.setCell ⟨R, 10, none⟩ (.int .i64 g0)).setCell ⟨R, 11, none⟩ (.int .i64 g1)).setCell ⟨R, 12, none⟩ (.int .i64 g2)).setCell ⟨R, 13, none⟩ (.int .i64 g3)).setCell ⟨R, 14, none⟩ (.int .i64 g4)).setCell ⟨R, 15, none⟩ (.int .i64 g5)).setCell ⟨R, 16, none⟩ (.int .i64 g6)).setCell ⟨R, 17, none⟩ (.int .i64 g7)) = W.setCells R 10 [.int .i64 g0, .int .i64 g1, .int .i64 g2, .int .i64 g3, .int .i64 g4, .int .i64 g5, .int .i64 g6, .int .i64 g7] := rfl
theorem heap_e8 {W : World} {R : Nat} {T : TypeId} {d0 d1 d2 d3 d4 d5 d6 d7 g0 g1 g2 g3 g4 g5 g6 g7 : Int} {name : ByteArray} {must : Bool} (h : W.heap[R]? = some (.cells (entC1 d0 d1 d2 d3 d4 d5 d6 d7 name must 0 0 0 0 0 0 0 0) T (0, 0))) : ((((((((W.setCell ⟨R, 10, none⟩ (.int .i64 g0)).setCell ⟨R, 11, none⟩ (.int .i64 g1)).setCell ⟨R, 12, none⟩ (.int .i64 g2)).setCell ⟨R, 13, none⟩ (.int .i64 g3)).setCell ⟨R, 14, none⟩ (.int .i64 g4)).setCell ⟨R, 15, none⟩ (.int .i64 g5)).setCell ⟨R, 16, none⟩ (.int .i64 g6)).setCell ⟨R, 17, none⟩ (.int .i64 g7)).heap[R]? = some (.cells (entC1 d0 d1 d2 d3 d4 d5 d6 d7 name must g0 g1 g2 g3 g4 g5 g6 g7) T (0, 0)) := by
  rw [nest8]
  exact (heap_setCells _ 10 _ W h).trans (by rw [put8])
theorem below_e8 {W w : World} {R n : Nat} {g0 g1 g2 g3 g4 g5 g6 g7 : Int} (hn : n ≤ R) (h : Below n w W) : Below n w ((((((((W.setCell ⟨R, 10, none⟩ (.int .i64 g0)).setCell ⟨R, 11, none⟩ (.int .i64 g1)).setCell ⟨R, 12, none⟩ (.int .i64 g2)).setCell ⟨R, 13, none⟩ (.int .i64 g3)).setCell ⟨R, 14, none⟩ (.int .i64 g4)).setCell ⟨R, 15, none⟩ (.int .i64 g5)).setCell ⟨R, 16, none⟩ (.int .i64 g6)).setCell ⟨R, 17, none⟩ (.int .i64 g7)) := by
  rw [nest8]
  exact below_setCells hn _ 10 _ h
/-- An entry, as it is told: what it leads to, if it is there. -/
def entC (T : IT.Tr) (dir : Nat) (m : IT.Nd) (name : ByteArray) (must : Bool) (to : Option (Nat × IT.Nd)) : Array Value := match to with
  | none => #[.int .i64 (dir : Nat), .int .i64 m.kind, .int .i64 m.mode, .int .i64 m.owner, .int .i64 m.group, .int .i64 (IT.lnk T dir : Nat), .int .i64 (m.data.length + m.names.length : Nat), .int .i64 m.tty, .string name, .bool must, .int .i64 0, .int .i64 0, .int .i64 0, .int .i64 0, .int .i64 0, .int .i64 0, .int .i64 0, .int .i64 0, .bool false]
  | some (k, q) => #[.int .i64 (dir : Nat), .int .i64 m.kind, .int .i64 m.mode, .int .i64 m.owner, .int .i64 m.group, .int .i64 (IT.lnk T dir : Nat), .int .i64 (m.data.length + m.names.length : Nat), .int .i64 m.tty, .string name, .bool must, .int .i64 (k : Nat), .int .i64 q.kind, .int .i64 q.mode, .int .i64 q.owner, .int .i64 q.group, .int .i64 (IT.lnk T k : Nat), .int .i64 (q.data.length + q.names.length : Nat), .int .i64 q.tty, .bool true]
def EntPost (T : IT.Tr) (c : Cr) (cwd : Int) (s : ByteArray) (w : World) (e : Ending) (w' : World) : Prop :=
  Below w.heap.size w w' ∧ match entryT T c cwd (bs s) with
    | .error r => e = .returned (.tuple #[.agg zeroE, .int .i64 r])
    | .ok x => ∃ m to, T x.dir = some m ∧ (match x.to with
        | none => to = none
        | some k => ∃ q, T k = some q ∧ to = some (k, q)) ∧ e = .returned (.tuple #[.agg (entC T x.dir m (tx x.name) x.must to), .int .i64 0])
theorem entPost_err {T : IT.Tr} {c : Cr} {cwd : Int} {s : ByteArray} {w w' : World} {r : Int} (h : entryT T c cwd (bs s) = .error r) (hb : Below w.heap.size w w') : EntPost T c cwd s w (.returned (.tuple #[.agg zeroE, .int .i64 r])) w' := by
  unfold EntPost
  rw [h]
  exact ⟨hb, rfl⟩
theorem entPost_ok {T : IT.Tr} {c : Cr} {cwd : Int} {s : ByteArray} {w w' : World} {x : Ent} {m : IT.Nd} {to : Option (Nat × IT.Nd)} {v : Value} (h : entryT T c cwd (bs s) = .ok x) (hm : T x.dir = some m) (ht : match x.to with
        | none => to = none
        | some k => ∃ q, T k = some q ∧ to = some (k, q)) (hv : v = .agg (entC T x.dir m (tx x.name) x.must to)) (hb : Below w.heap.size w w') : EntPost T c cwd s w (.returned (.tuple #[v, .int .i64 0])) w' := by
  unfold EntPost
  rw [h]
  exact ⟨hb, m, to, hm, ht, by rw [hv]⟩
end Go.Proofs.Ytafonmnfeibaiaa
namespace Go.Proofs.Ytafonmnfeibaiaa
open Go.RowKit

theorem row_of_owns2 {W : World} {base : Nat} {v : Value} {l : List ByteArray} (h : W.ownsRow base 9 1 v l.length (l.map .string)) : ∃ a cap, v = .slice a l.length cap ∧ Row W a l ∧ l.length ≤ cap ∧ cap ≤ maxLen := by
  obtain ⟨a, cap, e, hr, hl, _⟩ := row_of_owns h
  refine ⟨a, cap, e, hr, ?_⟩
  obtain ⟨_, ⟨h1, h2⟩ | ⟨g, cap2, cur, h1, h3, h4, h5, h6, h7, h8⟩⟩ := h
  · rw [e] at h1
    injection h1 with x1 x2 x3
    exact ⟨by omega, by rw [x3]; exact Nat.zero_le _⟩
  · rw [e] at h1
    injection h1 with x1 x2 x3
    exact ⟨by omega, by omega⟩
theorem snoc {α : Type} (l : List α) : l = [] ∨ ∃ m x, l = m ++ [x] := by
  rcases List.eq_nil_or_concat l with h | ⟨m, x, h⟩
  · exact .inl h
  · exact .inr ⟨m, x, by rw [h, List.concat_eq_append]⟩
theorem last_of {l : List ByteArray} {x : ByteArray} : ((l ++ [x]).map bs).getLast? = some (bs x) := by simp
theorem init_of {l : List ByteArray} {x : ByteArray} : ((l ++ [x]).map bs).dropLast = l.map bs := by simp
theorem Row.init {w : World} {a : Option Addr} {l : List ByteArray} {x : ByteArray} (h : Row w a (l ++ [x])) : Row w a l := fun j hj => by
  obtain ⟨b, off, e, hlt, hc⟩ := h j (by simp; omega)
  exact ⟨b, off, e, hlt, by rw [hc, List.getElem_append_left hj]⟩
theorem Row.last {w : World} {a : Option Addr} {l : List ByteArray} {x : ByteArray} (h : Row w a (l ++ [x])) : ∃ b off, a = some ⟨b, off, none⟩ ∧ b < w.heap.size ∧ w.cell? ⟨b, off + l.length, none⟩ = some (.string x) := by
  obtain ⟨b, off, e, hlt, hc⟩ := h l.length (by simp)
  exact ⟨b, off, e, hlt, by rw [hc]; simp⟩
theorem infC_inj {T : IT.Tr} {k : Nat} {m : IT.Nd} {d0 d1 d2 d3 d4 d5 d6 d7 : Int} (h : infC T k m = #[.int .i64 d0, .int .i64 d1, .int .i64 d2, .int .i64 d3, .int .i64 d4, .int .i64 d5, .int .i64 d6, .int .i64 d7]) : (k : Int) = d0 ∧ m.kind = d1 ∧ m.mode = d2 ∧ m.owner = d3 ∧ m.group = d4 ∧ (IT.lnk T k : Int) = d5 ∧ ((m.data.length + m.names.length : Nat) : Int) = d6 ∧ m.tty = d7 := by
  unfold infC at h
  simpa using h
/-- down, its answer as eight numbers. -/
theorem wdown_ints {w : World} {t : Nat} {S : Tab} {T : IT.Tr} (h : Tre w t S T) (cwd : Int) (c : Cr) (abs : Bool) (a : Option Addr) (cap : Nat) (l : List ByteArray) (hrow : Row w a l) (hl : l.length ≤ maxLen) {k : Nat} {r : Int} (hg : goT T c cwd abs (l.map bs) = (k, r)) :
    ∃ d0 d1 d2 d3 d4 d5 d6 d7 : Int, (r = 0 → ∃ m, T k = some m ∧ infC T k m = #[.int .i64 d0, .int .i64 d1, .int .i64 d2, .int .i64 d3, .int .i64 d4, .int .i64 d5, .int .i64 d6, .int .i64 d7]) ∧ ∀ W', Below w.heap.size w W' → Calls Try.prog 75 #[ask t cwd c, .bool abs, .slice a l.length cap] W' fun e w' => e = .returned (.tuple #[.agg #[.int .i64 d0, .int .i64 d1, .int .i64 d2, .int .i64 d3, .int .i64 d4, .int .i64 d5, .int .i64 d6, .int .i64 d7], .int .i64 r]) ∧ Below W'.heap.size W' w' := by
  have HD : ∀ W', Below w.heap.size w W' → Calls Try.prog 75 #[ask t cwd c, .bool abs, .slice a l.length cap] W' (DownPost T c cwd abs l W') := fun W' hb => wdown_any (h.mv ((Mv.refl h.rep).below hb)) cwd c abs a cap l (hrow.below hb) hl
  by_cases hr : r = 0
  · subst hr
    have hgo := go_there (c := c) (cwd := cwd) (abs := abs) (l := l.map bs) h.snd
    rw [hg] at hgo
    obtain ⟨m, hm⟩ := hgo rfl
    refine ⟨k, m.kind, m.mode, m.owner, m.group, (IT.lnk T k : Nat), (m.data.length + m.names.length : Nat), m.tty, fun _ => ⟨m, hm, rfl⟩, fun W' hb => (HD W' hb).mono ?_⟩
    rintro e w' ⟨v, rfl, hv, hb2⟩
    rw [hg] at hv ⊢
    refine ⟨?_, hb2⟩
    rw [hv, if_pos rfl, ← stat_eq hm]
    rfl
  · refine ⟨0, 0, 0, 0, 0, 0, 0, 0, fun h0 => absurd h0 hr, fun W' hb => (HD W' hb).mono ?_⟩
    rintro e w' ⟨v, rfl, hv, hb2⟩
    rw [hg] at hv ⊢
    refine ⟨?_, hb2⟩
    rw [hv, if_neg hr]
    rfl
set_option maxRecDepth 100000 in
set_option maxHeartbeats 8000000 in
theorem wentry_any {w : World} {t : Nat} {S : Tab} {T : IT.Tr} (h : Tre w t S T) (cwd : Int) (c : Cr) (s : ByteArray) :
    Calls Try.prog 37 #[ask t cwd c, .string s] w (EntPost T c cwd s w) := by
  have H := Lib.hid h
  clear h
  unfold ask
  go_enter Try.func37, Try.ntmps37
  go_wp2_with fail
  refine (Pp.split_any s _).mono ?_
  rintro e w1 ⟨abs, dir, v, l, err, rfl, hown, hb, hsp⟩
  obtain ⟨a, cap, rfl, hrow, hlc, hcm⟩ := row_of_owns2 hown
  have hlen : l.length ≤ maxLen := Nat.le_trans hlc hcm
  have HSP := Lib.hid (split_of hsp)
  rw [alloc_size, alloc_size] at hb
  obtain ⟨b0, b1, hlt, hbb⟩ := two_blocks hb
  have HROW := Lib.hid hrow
  have HLEN := Lib.hid hlen
  have HBB := Lib.hid hbb
  have HLT := Lib.hid hlt
  have HB0 := Lib.hid b0
  have HB1 := Lib.hid b1
  by_cases he : err = 0
  · subst he
    rcases snoc l with rfl | ⟨l, x0, rfl⟩
    · have hs1 : w.heap.size + 1 < w1.heap.size := hlt
      have hs2 : w.heap.size < w1.heap.size := by omega
      have HE : Hid (entryT T c cwd (bs s) = .error 1) := Lib.hid (by
        unfold entryT
        rw [HSP.out]
        dsimp only
        rw [if_neg (by decide), if_pos (.inl rfl)])
      have hR : (w1.alloc (.cells #[.bool abs, .slice a 0 cap, .bool dir] 115)).heap[w.heap.size + 1]? = some (.cells zeroE 77 (0, 0)) := (alloc_heap_old w1 _ (by omega)).trans b1
      have hL := range_of hR
      have l2 := sc_blk (P := Try.prog) hR 0 zeroE.toList (C' := zeroE) rfl (Nat.le_refl _) (by decide)
      have HRR := Lib.hid hR
      clear hown hb hsp b0 b1 hbb hrow hlen hlt hR
      go_wp2_with (refine wpList_load_mid rfl 77 _ rfl (w.heap.size + 1) 0 rfl zeroE.toList _ hL rfl rfl rfl ?_)
      refine bodyPost_ret (ret_blk rfl rfl (heap_setRow_same HRR.out) rfl rfl rfl) rfl ?_
      exact entPost_err HE.out (below_setRow (belowA HBB.out _) (by omega))
    · have hN : (l ++ [x0]).length = l.length + 1 := by simp
      rw [hN]
      have hs1 : w.heap.size + 1 < w1.heap.size := hlt
      have hs2 : w.heap.size < w1.heap.size := by omega
      have hp0 : w.heap.size + 1 < w1.heap.size + 1 := by omega
      obtain ⟨bn, on, rfl, hbn, hcn⟩ := hrow.last
      rw [hN] at hlen hlc
      have hR : (w1.alloc (.cells #[.bool abs, .slice (some ⟨bn, on, none⟩) (l.length + 1) cap, .bool dir] 115)).heap[w.heap.size + 1]? = some (.cells zeroE 77 (0, 0)) := (alloc_heap_old w1 _ (by omega)).trans b1
      have hL := range_of hR
      have l2 := sc_blk (P := Try.prog) hR 0 zeroE.toList (C' := zeroE) rfl (Nat.le_refl _) (by decide)
      have HRR := Lib.hid hR
      have hw1 : wrap64 ((l.length : Nat) : Int) = (l.length : Nat) := by unfold maxLen at hlen; unfold wrap64; omega
      have hi1 : ((l.length : Nat) : Int) < 0 ↔ False := ⟨fun hh => absurd hh (by omega), False.elim⟩
      have hcn2 : (w1.alloc (.cells #[.bool abs, .slice (some ⟨bn, on, none⟩) (l.length + 1) cap, .bool dir] 115)).cell? ⟨bn, on + l.length, none⟩ = some (.string x0) := by rw [World.cell?_alloc_lt _ _ _ hbn]; exact hcn
      have hi2 : l.length < l.length + 1 := by omega
      clear hown hb hsp b0 b1 hbb hrow hlt hR hcn
      by_cases hd : x0 = ⟨#[46, 46]⟩
      · subst hd
        have HE : Hid (entryT T c cwd (bs s) = .error 1) := Lib.hid (by
          unfold entryT
          rw [HSP.out]
          dsimp only
          rw [if_neg (by decide), if_pos (.inr last_of)])
        go_wp2_with (refine wpList_load_mid rfl 77 _ rfl (w.heap.size + 1) 0 rfl zeroE.toList _ hL rfl rfl rfl ?_)
        refine bodyPost_ret (ret_blk rfl rfl (heap_setRow_same HRR.out) rfl rfl rfl) rfl ?_
        exact entPost_err HE.out (below_setRow (belowA HBB.out _) (by omega))
      · have hd1 : (x0.toList == [46, 46]) = false := by rw [ByteArray.toList_eq]; exact beq_eq_false_iff_ne.2 (fun hh => hd (ByteArray.ext (Array.ext' hh)))
        have ho : (w1.alloc (.cells #[.bool abs, .slice (some ⟨bn, on, none⟩) (l.length + 1) cap, .bool dir] 115)).heap[w.heap.size]? = some (.cells (askC t cwd c) 74 (0, 0)) := (alloc_heap_old w1 _ (by omega)).trans HB0.out
        obtain ⟨⟨k, r⟩, hg⟩ : ∃ g, goT T c cwd abs (l.map bs) = g := ⟨_, rfl⟩
        have hpb : (w1.alloc (.cells #[.bool abs, .slice (some ⟨bn, on, none⟩) (l.length + 1) cap, .bool dir] 115)).heap[w1.heap.size]? = some (.cells #[.bool abs, .slice (some ⟨bn, on, none⟩) (l.length + 1) cap, .bool dir] 115 (0, 0)) := alloc_heap _ _
        have hbp : Below w.heap.size w (w1.alloc (.cells #[.bool abs, .slice (some ⟨bn, on, none⟩) (l.length + 1) cap, .bool dir] 115)) := belowA HBB.out _
        have hrow0 : Row (w1.alloc (.cells #[.bool abs, .slice (some ⟨bn, on, none⟩) (l.length + 1) cap, .bool dir] 115)) (some ⟨bn, on, none⟩) l := HROW.out.init.below ((Below.refl _ _).alloc (Nat.le_refl _) _)
        have hsz : w1.heap.size < (w1.alloc (.cells #[.bool abs, .slice (some ⟨bn, on, none⟩) (l.length + 1) cap, .bool dir] 115)).heap.size := by rw [alloc_size]; omega
        have hi3 : (0 : Int) ≤ (l.length : Nat) := by omega
        have hi4 : ((l.length : Nat) : Int) ≤ (cap : Nat) := by omega
        have hi5 : ((l.length : Nat) : Int) ≤ (l.length + 1 : Nat) := by omega
        have hi6 : l.length ≤ cap := by omega
        go_upto_region 7 with fail
        generalize w1.alloc (.cells #[.bool abs, .slice (some ⟨bn, on, none⟩) (l.length + 1) cap, .bool dir] 115) = W0 at *
        have hBP : w.heap.size < w1.heap.size := hs2
        have hbn2 : bn < W0.heap.size := by have := hsz; omega
        have hRP : w.heap.size + 1 < w1.heap.size := hs1
        generalize hP : w1.heap.size = P at *
        generalize hB : w.heap.size = B at *
        have hBW : B < W0.heap.size := by omega
        obtain ⟨d0, d1, d2, d3, d4, d5, d6, d7, hm0, HD⟩ := wdown_ints (H.out.mv ((Mv.refl H.out.rep).below (by rw [hB]; exact hbp))) cwd c abs _ cap l hrow0 (by omega) hg
        have KP : ∀ W', Below W0.heap.size W0 W' → (Below W0.heap.size W0 W' ∧ W'.cell? ⟨B, 0, none⟩ = some (.pointer (some ⟨t, 0, none⟩)) ∧ W'.cell? ⟨B, 1, none⟩ = some (.int .i64 cwd) ∧ W'.cell? ⟨B, 2, none⟩ = some (.int .i64 c.real) ∧ W'.cell? ⟨B, 3, none⟩ = some (.int .i64 c.eff) ∧ W'.cell? ⟨B, 4, none⟩ = some (.int .i64 c.saved) ∧ W'.cell? ⟨B, 5, none⟩ = some (.int .i64 c.group) ∧ W'.cell? ⟨B, 6, none⟩ = some (.int .i64 c.eg) ∧ W'.cell? ⟨P, 0, none⟩ = some (.bool abs) ∧ W'.cell? ⟨P, 1, none⟩ = some (.slice (some ⟨bn, on, none⟩) (l.length + 1) cap)) := fun W' hb => by
          have h1 : W'.heap[B]? = some (.cells (askC t cwd c) 74 (0, 0)) := (hb.block _ hBW).trans ho
          have h2 : W'.heap[P]? = some (.cells #[.bool abs, .slice (some ⟨bn, on, none⟩) (l.length + 1) cap, .bool dir] 115 (0, 0)) := (hb.block _ hsz).trans hpb
          exact ⟨hb, cell_of h1 0, cell_of h1 1, cell_of h1 2, cell_of h1 3, cell_of h1 4, cell_of h1 5, cell_of h1 6, cell_of h2 0, cell_of h2 1⟩
        have HHO := Lib.hid ho
        have HPB := Lib.hid hpb
        have HM0 := Lib.hid hm0
        have HRW := Lib.hid hrow0
        have HDD : Hid (bs x0 ≠ [46, 46]) := Lib.hid (fun hh => hd (ByteArray.ext (Array.ext' hh)))
        clear ho hd hpb hrow0 hm0
        unfold ask at HD
        have HFK : ∀ (W : World) (D : Nat), Below W0.heap.size W0 W → W.heap[D]? = some (.cells #[.int .i64 d0, .int .i64 d1, .int .i64 d2, .int .i64 d3, .int .i64 d4, .int .i64 d5, .int .i64 d6, .int .i64 d7] 35 (0, 0)) → Hid (Below B w W ∧ W.heap[B]? = some (.cells (askC t cwd c) 74 (0, 0)) ∧ W.heap[B + 1]? = some (.cells zeroE 77 (0, 0)) ∧ W.heap[P]? = some (.cells #[.bool abs, .slice (some ⟨bn, on, none⟩) (l.length + 1) cap, .bool dir] 115 (0, 0)) ∧ W.heap[D]? = some (.cells #[.int .i64 d0, .int .i64 d1, .int .i64 d2, .int .i64 d3, .int .i64 d4, .int .i64 d5, .int .i64 d6, .int .i64 d7] 35 (0, 0)) ∧ W.cell? ⟨bn, on + l.length, none⟩ = some (.string x0)) := fun W D hb hd => Lib.hid ⟨hbp.trans (hb.mono (by omega)), (hb.block _ hBW).trans HHO.out, (hb.block _ (by omega)).trans HRR.out, (hb.block _ hsz).trans HPB.out, hd, by rw [hb.cell (p := ⟨bn, on + l.length, none⟩) hbn2]; exact hcn2⟩
        have HAD : ∀ w2, Below (W0.alloc (.cells #[.int .i64 0, .int .i64 0, .int .i64 0, .int .i64 0, .int .i64 0, .int .i64 0, .int .i64 0, .int .i64 0] 35)).drew.heap.size (W0.alloc (.cells #[.int .i64 0, .int .i64 0, .int .i64 0, .int .i64 0, .int .i64 0, .int .i64 0, .int .i64 0, .int .i64 0] 35)).drew w2 → w2.heap[W0.heap.size]? = some (.cells #[.int .i64 0, .int .i64 0, .int .i64 0, .int .i64 0, .int .i64 0, .int .i64 0, .int .i64 0, .int .i64 0] 35 (0, 0)) ∧ W0.heap.size < w2.heap.size := fun w2 hb => by
          have hs : (W0.alloc (.cells #[.int .i64 0, .int .i64 0, .int .i64 0, .int .i64 0, .int .i64 0, .int .i64 0, .int .i64 0, .int .i64 0] 35)).drew.heap.size = W0.heap.size + 1 := alloc_size _ _
          have h1 := (hb.block W0.heap.size (by omega)).trans (alloc_heap W0 _)
          exact ⟨h1, lt_of_heap h1⟩
        go_region_held3 (fun W' => Below W0.heap.size W0 W' ∧ W'.cell? ⟨B, 0, none⟩ = some (.pointer (some ⟨t, 0, none⟩)) ∧ W'.cell? ⟨B, 1, none⟩ = some (.int .i64 cwd) ∧ W'.cell? ⟨B, 2, none⟩ = some (.int .i64 c.real) ∧ W'.cell? ⟨B, 3, none⟩ = some (.int .i64 c.eff) ∧ W'.cell? ⟨B, 4, none⟩ = some (.int .i64 c.saved) ∧ W'.cell? ⟨B, 5, none⟩ = some (.int .i64 c.group) ∧ W'.cell? ⟨B, 6, none⟩ = some (.int .i64 c.eg) ∧ W'.cell? ⟨P, 0, none⟩ = some (.bool abs) ∧ W'.cell? ⟨P, 1, none⟩ = some (.slice (some ⟨bn, on, none⟩) (l.length + 1) cap))
          (first | (refine KP _ ?_; first
            | with_reducible exact (Below.refl _ _).drew
            | with_reducible exact Below.refl _ _
            | with_reducible exact ((Below.refl _ _).alloc (Nat.le_refl _) _).drew
            | with_reducible exact (‹Below W0.heap.size W0 _ ∧ _›).1
            | with_reducible exact hbz
            | with_reducible exact hbz.alloc hbz.size _
            | with_reducible exact below_set8 hbz (Nat.le_refl _)
            | with_reducible exact (‹Below W0.heap.size W0 _ ∧ _›).1.alloc (‹Below W0.heap.size W0 _ ∧ _›).1.size _))
          (first
            | (go_at_call 75; refine (HD _ (‹Below W0.heap.size W0 _ ∧ _›).1).mono ?_; rintro e w2 ⟨rfl, hb1⟩; have hbz : Below W0.heap.size W0 w2 := (‹Below W0.heap.size W0 _ ∧ _›).1.trans (hb1.mono (‹Below W0.heap.size W0 _ ∧ _›).1.size); have hb2 : Below W0.drew.heap.size W0.drew w2 := hb1; clear hb2)
            | (go_at_call 75; refine (HD _ (‹Below W0.heap.size W0 _ ∧ _›).1).mono ?_; rintro e w2 ⟨rfl, hb1⟩; have hbz : Below W0.heap.size W0 w2 := (‹Below W0.heap.size W0 _ ∧ _›).1.trans (hb1.mono (‹Below W0.heap.size W0 _ ∧ _›).1.size); obtain ⟨qD, hDlt⟩ := HAD _ hb1; have z0 : w2.cell? ⟨W0.heap.size, 0, none⟩ = some (.int .i64 0) := cell_of qD 0; have y0 : w2.frozen? ⟨W0.heap.size, 0, none⟩ = false := frozen_of qD 0; have z1 : w2.cell? ⟨W0.heap.size, 1, none⟩ = some (.int .i64 0) := cell_of qD 1; have y1 : w2.frozen? ⟨W0.heap.size, 1, none⟩ = false := frozen_of qD 1; have z2 : w2.cell? ⟨W0.heap.size, 2, none⟩ = some (.int .i64 0) := cell_of qD 2; have y2 : w2.frozen? ⟨W0.heap.size, 2, none⟩ = false := frozen_of qD 2; have z3 : w2.cell? ⟨W0.heap.size, 3, none⟩ = some (.int .i64 0) := cell_of qD 3; have y3 : w2.frozen? ⟨W0.heap.size, 3, none⟩ = false := frozen_of qD 3; have z4 : w2.cell? ⟨W0.heap.size, 4, none⟩ = some (.int .i64 0) := cell_of qD 4; have y4 : w2.frozen? ⟨W0.heap.size, 4, none⟩ = false := frozen_of qD 4; have z5 : w2.cell? ⟨W0.heap.size, 5, none⟩ = some (.int .i64 0) := cell_of qD 5; have y5 : w2.frozen? ⟨W0.heap.size, 5, none⟩ = false := frozen_of qD 5; have z6 : w2.cell? ⟨W0.heap.size, 6, none⟩ = some (.int .i64 0) := cell_of qD 6; have y6 : w2.frozen? ⟨W0.heap.size, 6, none⟩ = false := frozen_of qD 6; have z7 : w2.cell? ⟨W0.heap.size, 7, none⟩ = some (.int .i64 0) := cell_of qD 7; have y7 : w2.frozen? ⟨W0.heap.size, 7, none⟩ = false := frozen_of qD 7; have HQD := Lib.hid qD; clear qD))
        · have HF := HFK _ _ (hbz.alloc hbz.size _) (alloc_heap w2 (.cells #[.int .i64 d0, .int .i64 d1, .int .i64 d2, .int .i64 d3, .int .i64 d4, .int .i64 d5, .int .i64 d6, .int .i64 d7] 35))
          have HDS := Lib.hid hbz.size
          have HB0W := Lib.hid (hbz.alloc hbz.size (.cells #[.int .i64 d0, .int .i64 d1, .int .i64 d2, .int .i64 d3, .int .i64 d4, .int .i64 d5, .int .i64 d6, .int .i64 d7] 35))
          clear hb1 hbz 
          generalize (w2.alloc (.cells #[.int .i64 d0, .int .i64 d1, .int .i64 d2, .int .i64 d3, .int .i64 d4, .int .i64 d5, .int .i64 d6, .int .i64 d7] 35)) = W at *
          generalize w2.heap.size = D at HF HDS ⊢
          by_cases hr : r = 0
          · subst hr
            obtain ⟨m, hm, hmv⟩ := HM0.out rfl
            have hW := HF.out
            have a0 : W.cell? ⟨B, 0, none⟩ = some (.pointer (some ⟨t, 0, none⟩)) := cell_of hW.2.1 0
            have a1 : W.cell? ⟨B, 1, none⟩ = some (.int .i64 cwd) := cell_of hW.2.1 1
            have a2 : W.cell? ⟨B, 2, none⟩ = some (.int .i64 c.real) := cell_of hW.2.1 2
            have a3 : W.cell? ⟨B, 3, none⟩ = some (.int .i64 c.eff) := cell_of hW.2.1 3
            have a4 : W.cell? ⟨B, 4, none⟩ = some (.int .i64 c.saved) := cell_of hW.2.1 4
            have a5 : W.cell? ⟨B, 5, none⟩ = some (.int .i64 c.group) := cell_of hW.2.1 5
            have a6 : W.cell? ⟨B, 6, none⟩ = some (.int .i64 c.eg) := cell_of hW.2.1 6
            have q0 : W.cell? ⟨D, 0, none⟩ = some (.int .i64 d0) := cell_of hW.2.2.2.2.1 0
            have q1 : W.cell? ⟨D, 1, none⟩ = some (.int .i64 d1) := cell_of hW.2.2.2.2.1 1
            have q2 : W.cell? ⟨D, 2, none⟩ = some (.int .i64 d2) := cell_of hW.2.2.2.2.1 2
            have q3 : W.cell? ⟨D, 3, none⟩ = some (.int .i64 d3) := cell_of hW.2.2.2.2.1 3
            have q4 : W.cell? ⟨D, 4, none⟩ = some (.int .i64 d4) := cell_of hW.2.2.2.2.1 4
            have q5 : W.cell? ⟨D, 5, none⟩ = some (.int .i64 d5) := cell_of hW.2.2.2.2.1 5
            have q6 : W.cell? ⟨D, 6, none⟩ = some (.int .i64 d6) := cell_of hW.2.2.2.2.1 6
            have q7 : W.cell? ⟨D, 7, none⟩ = some (.int .i64 d7) := cell_of hW.2.2.2.2.1 7
            clear hW
            go_wp2_with fail
            refine (wenters_any t cwd c _ _ _ _ _ _ _ _ _).mono ?_
            rintro e w3 ⟨r2, rfl, hr2, hb⟩
            have HF3 := HFK w3 D (HB0W.out.trans (hb.mono HB0W.out.size)) ((hb.block _ (lt_of_heap HF.out.2.2.2.2.1)).trans HF.out.2.2.2.2.1)
            have HB3 := Lib.hid (HB0W.out.trans (hb.mono HB0W.out.size))
            have HMV := Lib.hid (infC_inj hmv)
            have HR2 : Hid (r2 = entersE m c) := Lib.hid (by
              rw [hr2]
              obtain ⟨e0, e1, e2, e3, e4, _, _, _⟩ := HMV.out
              rw [← e1, ← e2, ← e3, ← e4]
              rfl)
            have HM := Lib.hid hm
            clear a0 a1 a2 a3 a4 a5 a6 q0 q1 q2 q3 q4 q5 q6 q7 hr2 hmv hm hb
            by_cases hz : r2 = 0
            · subst hz
              have hW := HF3.out
              have a0 : w3.cell? ⟨B, 0, none⟩ = some (.pointer (some ⟨t, 0, none⟩)) := cell_of hW.2.1 0
              have q0 : w3.cell? ⟨D, 0, none⟩ = some (.int .i64 d0) := cell_of hW.2.2.2.2.1 0
              have q1 : w3.cell? ⟨D, 1, none⟩ = some (.int .i64 d1) := cell_of hW.2.2.2.2.1 1
              have q2 : w3.cell? ⟨D, 2, none⟩ = some (.int .i64 d2) := cell_of hW.2.2.2.2.1 2
              have q3 : w3.cell? ⟨D, 3, none⟩ = some (.int .i64 d3) := cell_of hW.2.2.2.2.1 3
              have q4 : w3.cell? ⟨D, 4, none⟩ = some (.int .i64 d4) := cell_of hW.2.2.2.2.1 4
              have q5 : w3.cell? ⟨D, 5, none⟩ = some (.int .i64 d5) := cell_of hW.2.2.2.2.1 5
              have q6 : w3.cell? ⟨D, 6, none⟩ = some (.int .i64 d6) := cell_of hW.2.2.2.2.1 6
              have q7 : w3.cell? ⟨D, 7, none⟩ = some (.int .i64 d7) := cell_of hW.2.2.2.2.1 7
              have p1 : w3.cell? ⟨P, 1, none⟩ = some (.slice (some ⟨bn, on, none⟩) (l.length + 1) cap) := cell_of hW.2.2.2.1 1
              have p2 : w3.cell? ⟨P, 2, none⟩ = some (.bool dir) := cell_of hW.2.2.2.1 2
              have hcn3 := hW.2.2.2.2.2
              clear hW
              have hT : w3.there (B + 1) 0 19 := there_of HF3.out.2.2.1
              have hi7 : ((l.length : Nat) : Int) < ((l.length : Nat) : Int) + 1 := by omega
              go_wp2_with fail
              go_still_tail 9, (by kernel_rfl)
              refine wpList_store_mid rfl 77 _ _ rfl (B + 1) 0 (entC0 d0 d1 d2 d3 d4 d5 d6 d7 x0 dir) rfl rfl hT rfl entC0_one ?_
              have HF4 : Hid (Below B w (World.setCells { w3 with drawn := w3.drawn + 1 } (B + 1) 0 (entC0 d0 d1 d2 d3 d4 d5 d6 d7 x0 dir).toList) ∧ (World.setCells { w3 with drawn := w3.drawn + 1 } (B + 1) 0 (entC0 d0 d1 d2 d3 d4 d5 d6 d7 x0 dir).toList).heap[B]? = some (.cells (askC t cwd c) 74 (0, 0)) ∧ (World.setCells { w3 with drawn := w3.drawn + 1 } (B + 1) 0 (entC0 d0 d1 d2 d3 d4 d5 d6 d7 x0 dir).toList).heap[B + 1]? = some (.cells (entC0 d0 d1 d2 d3 d4 d5 d6 d7 x0 dir) 77 (0, 0)) ∧ (World.setCells { w3 with drawn := w3.drawn + 1 } (B + 1) 0 (entC0 d0 d1 d2 d3 d4 d5 d6 d7 x0 dir).toList).heap[D]? = some (.cells #[.int .i64 d0, .int .i64 d1, .int .i64 d2, .int .i64 d3, .int .i64 d4, .int .i64 d5, .int .i64 d6, .int .i64 d7] 35 (0, 0))) := Lib.hid ⟨below_setCells (by omega) _ _ _ HF3.out.1.drew, (heap_setCells_other (by omega) _ _ _).trans HF3.out.2.1, (heap_setCells _ 0 _ { w3 with drawn := w3.drawn + 1 } HF3.out.2.2.1).trans (by rw [put_all]), (heap_setCells_other (by have := HDS.out; omega) _ _ _).trans HF3.out.2.2.2.2.1⟩
              generalize World.setCells { w3 with drawn := w3.drawn + 1 } (B + 1) 0 (entC0 d0 d1 d2 d3 d4 d5 d6 d7 x0 dir).toList = W4 at *
              have hW := HF4.out
              clear a0 q0 q1 q2 q3 q4 q5 q6 q7 p1 p2 hcn3 hT hcn2 HD HAD
              have a0 : W4.cell? ⟨B, 0, none⟩ = some (.pointer (some ⟨t, 0, none⟩)) := cell_of hW.2.1 0
              have q0 : W4.cell? ⟨D, 0, none⟩ = some (.int .i64 d0) := cell_of hW.2.2.2 0
              have r8 : W4.cell? ⟨B + 1, 8, none⟩ = some (.string x0) := cell_of hW.2.2.1 8
              have HB4 : Hid (Below w.heap.size w W4) := Lib.hid (by rw [hB]; exact hW.1)
              have HT4 := Lib.hid (H.out.mv ((Mv.refl H.out.rep).below HB4.out))
              have HOK : Hid (entryT T c cwd (bs s) = .ok ⟨k, bs x0, dir, lookT T k (bs x0)⟩) := Lib.hid (by
                unfold entryT
                rw [HSP.out]
                dsimp only
                rw [if_neg (by decide), if_neg (by
                  rintro (h1 | h1)
                  · simp at h1
                  · rw [last_of] at h1
                    exact HDD.out (Option.some.inj h1)), init_of, hg, if_neg (fun hh => hh rfl)]
                dsimp only
                rw [HM.out]
                dsimp only
                rw [if_neg (by rw [← HR2.out]; exact fun hh => hh rfl), last_of]
                rfl)
              clear hW
              cases hlk : lookT T k (bs x0) with
              | none =>
                have HC : Hid (Calls Try.prog 26 #[.pointer (some ⟨t, 0, none⟩), .int .i64 d0, .string x0] W4 fun e w' => e = .returned (.tuple #[.int .i64 0, .bool false]) ∧ W4 = w') := Lib.hid ((look_any HT4.out d0 x0).mono (by
                  rintro e w' ⟨rfl, hw⟩
                  refine ⟨?_, hw⟩
                  rw [← HMV.out.1, show lookT T (k : Int).toNat (bs x0) = none from hlk]; rfl))
                rw [hlk] at HOK
                have hq := HF4.out.2.2.1
                have r18 : W4.cell? ⟨B + 1, 18, none⟩ = some (.bool false) := cell_of hq 18
                have f18 : W4.frozen? ⟨B + 1, 18, none⟩ = false := frozen_of hq 18
                have h5 : (W4.setCell ⟨B + 1, 18, none⟩ (.bool false)).heap[B + 1]? = some (.cells (entC0 d0 d1 d2 d3 d4 d5 d6 d7 x0 dir) 77 (0, 0)) := heap_setCell_same hq (.bool false)
                have H5 := Lib.hid h5
                have HB5 : Hid (Below B w (W4.setCell ⟨B + 1, 18, none⟩ (.bool false))) := Lib.hid (HF4.out.1.setCell (Nat.le_succ B) _)
                clear hlk hq h5
                go_wp2_with fail
                refine HC.out.mono ?_
                rintro e wl ⟨rfl, rfl⟩
                go_upto_region 17 with fail
                clear a0 q0 r8 r18 f18
                generalize W4.setCell ⟨B + 1, 18, none⟩ (.bool false) = W8 at H5 HB5 ⊢
                have hL := range_of H5.out
                have l2 := sc_blk (P := Try.prog) H5.out 0 (entC0 d0 d1 d2 d3 d4 d5 d6 d7 x0 dir).toList (C' := (entC0 d0 d1 d2 d3 d4 d5 d6 d7 x0 dir)) rfl (Nat.le_refl _) entC0_one'
                go_wp2_with (refine wpList_load_mid rfl 77 _ rfl (B + 1) 0 rfl (entC0 d0 d1 d2 d3 d4 d5 d6 d7 x0 dir).toList _ hL rfl rfl rfl ?_)
                refine bodyPost_ret (ret_blk rfl rfl (heap_setRow_same H5.out) rfl rfl rfl) rfl ?_
                refine entPost_ok (to := none) HOK.out HM.out rfl ?_ (by rw [hB]; exact below_setRow HB5.out (by omega))
                obtain ⟨e0, e1, e2, e3, e4, e5, e6, e7⟩ := HMV.out
                rw [tx_bs, ← e0, ← e1, ← e2, ← e3, ← e4, ← e5, ← e6, ← e7]
                rfl
              | some j2 =>
                obtain ⟨m2, hm2⟩ := look_there H.out.snd hlk
                have HC : Hid (Calls Try.prog 26 #[.pointer (some ⟨t, 0, none⟩), .int .i64 d0, .string x0] W4 fun e w' => e = .returned (.tuple #[.int .i64 (j2 : Int), .bool true]) ∧ W4 = w') := Lib.hid ((look_any HT4.out d0 x0).mono (by
                  rintro e w' ⟨rfl, hw⟩
                  refine ⟨?_, hw⟩
                  rw [← HMV.out.1, show lookT T (k : Int).toNat (bs x0) = some j2 from hlk]; rfl))
                obtain ⟨g0, g1, g2, g3, g4, g5, g6, g7, hg2⟩ : ∃ g0 g1 g2 g3 g4 g5 g6 g7 : Int, infC T j2 m2 = #[.int .i64 g0, .int .i64 g1, .int .i64 g2, .int .i64 g3, .int .i64 g4, .int .i64 g5, .int .i64 g6, .int .i64 g7] := ⟨_, _, _, _, _, _, _, _, rfl⟩
                have hq := HF4.out.2.2.1
                have r18 : W4.cell? ⟨B + 1, 18, none⟩ = some (.bool false) := cell_of hq 18
                have f18 : W4.frozen? ⟨B + 1, 18, none⟩ = false := frozen_of hq 18
                have h5 : (W4.setCell ⟨B + 1, 18, none⟩ (.bool true)).heap[B + 1]? = some (.cells (entC1 d0 d1 d2 d3 d4 d5 d6 d7 x0 dir 0 0 0 0 0 0 0 0) 77 (0, 0)) := (heap_setCell_same hq (.bool true)).trans (by rw [put18])
                have HB5 : Hid (Below B w (W4.setCell ⟨B + 1, 18, none⟩ (.bool true))) := Lib.hid (HF4.out.1.setCell (Nat.le_succ B) _)
                have HT5 := Lib.hid (H.out.mv ((Mv.refl H.out.rep).below (by rw [hB]; exact HB5.out)))
                have HC2 : Hid (Calls Try.prog 14 #[.pointer (some ⟨t, 0, none⟩), .int .i64 (j2 : Int)] (W4.setCell ⟨B + 1, 18, none⟩ (.bool true)) fun e w' => e = .returned (.tuple #[.agg #[.int .i64 g0, .int .i64 g1, .int .i64 g2, .int .i64 g3, .int .i64 g4, .int .i64 g5, .int .i64 g6, .int .i64 g7], .bool true]) ∧ Below (W4.setCell ⟨B + 1, 18, none⟩ (.bool true)).heap.size (W4.setCell ⟨B + 1, 18, none⟩ (.bool true)) w') := Lib.hid ((stat_any HT5.out j2).mono (by
                  rintro e w' ⟨rfl, hbb⟩
                  have hT' : T (j2 : Int).toNat = some m2 := hm2
                  refine ⟨?_, hbb⟩
                  rw [hT', show statV T (j2 : Int).toNat = statV T j2 from rfl, ← stat_eq hm2, hg2]
                  rfl))
                have H5 := Lib.hid h5
                have HG2 := Lib.hid (infC_inj hg2)
                have HM2 := Lib.hid hm2
                rw [hlk] at HOK
                clear hlk hq h5 hm2 hg2
                go_wp2_with fail
                refine HC.out.mono ?_
                rintro e wl ⟨rfl, rfl⟩
                go_wp2_with fail
                refine HC2.out.mono ?_
                rintro e w6 ⟨rfl, hb6⟩
                have h6 : w6.heap[B + 1]? = some (.cells (entC1 d0 d1 d2 d3 d4 d5 d6 d7 x0 dir 0 0 0 0 0 0 0 0) 77 (0, 0)) := (hb6.block _ (lt_of_heap H5.out)).trans H5.out
                have HB6 : Hid (Below B w w6) := Lib.hid (HB5.out.trans (hb6.mono (by have := HB5.out.size; omega)))
                have r10 : w6.cell? ⟨B + 1, 10, none⟩ = some (.int .i64 0) := cell_of h6 10
                have f10 : w6.frozen? ⟨B + 1, 10, none⟩ = false := frozen_of h6 10
                have r11 : w6.cell? ⟨B + 1, 11, none⟩ = some (.int .i64 0) := cell_of h6 11
                have f11 : w6.frozen? ⟨B + 1, 11, none⟩ = false := frozen_of h6 11
                have r12 : w6.cell? ⟨B + 1, 12, none⟩ = some (.int .i64 0) := cell_of h6 12
                have f12 : w6.frozen? ⟨B + 1, 12, none⟩ = false := frozen_of h6 12
                have r13 : w6.cell? ⟨B + 1, 13, none⟩ = some (.int .i64 0) := cell_of h6 13
                have f13 : w6.frozen? ⟨B + 1, 13, none⟩ = false := frozen_of h6 13
                have r14 : w6.cell? ⟨B + 1, 14, none⟩ = some (.int .i64 0) := cell_of h6 14
                have f14 : w6.frozen? ⟨B + 1, 14, none⟩ = false := frozen_of h6 14
                have r15 : w6.cell? ⟨B + 1, 15, none⟩ = some (.int .i64 0) := cell_of h6 15
                have f15 : w6.frozen? ⟨B + 1, 15, none⟩ = false := frozen_of h6 15
                have r16 : w6.cell? ⟨B + 1, 16, none⟩ = some (.int .i64 0) := cell_of h6 16
                have f16 : w6.frozen? ⟨B + 1, 16, none⟩ = false := frozen_of h6 16
                have r17 : w6.cell? ⟨B + 1, 17, none⟩ = some (.int .i64 0) := cell_of h6 17
                have f17 : w6.frozen? ⟨B + 1, 17, none⟩ = false := frozen_of h6 17
                have h7 : ((((((((w6.setCell ⟨B + 1, 10, none⟩ (.int .i64 g0)).setCell ⟨B + 1, 11, none⟩ (.int .i64 g1)).setCell ⟨B + 1, 12, none⟩ (.int .i64 g2)).setCell ⟨B + 1, 13, none⟩ (.int .i64 g3)).setCell ⟨B + 1, 14, none⟩ (.int .i64 g4)).setCell ⟨B + 1, 15, none⟩ (.int .i64 g5)).setCell ⟨B + 1, 16, none⟩ (.int .i64 g6)).setCell ⟨B + 1, 17, none⟩ (.int .i64 g7)).heap[B + 1]? = some (.cells (entC1 d0 d1 d2 d3 d4 d5 d6 d7 x0 dir g0 g1 g2 g3 g4 g5 g6 g7) 77 (0, 0)) := heap_e8 h6
                have H7 := Lib.hid h7
                have HB7 := Lib.hid (below_e8 (g0 := g0) (g1 := g1) (g2 := g2) (g3 := g3) (g4 := g4) (g5 := g5) (g6 := g6) (g7 := g7) (Nat.le_succ B) HB6.out)
                clear hb6 h6 h7 a0 q0 r8 r18 f18
                go_upto_region 17 with fail
                clear r10 f10 r11 f11 r12 f12 r13 f13 r14 f14 r15 f15 r16 f16 r17 f17
                generalize ((((((((w6.setCell ⟨B + 1, 10, none⟩ (.int .i64 g0)).setCell ⟨B + 1, 11, none⟩ (.int .i64 g1)).setCell ⟨B + 1, 12, none⟩ (.int .i64 g2)).setCell ⟨B + 1, 13, none⟩ (.int .i64 g3)).setCell ⟨B + 1, 14, none⟩ (.int .i64 g4)).setCell ⟨B + 1, 15, none⟩ (.int .i64 g5)).setCell ⟨B + 1, 16, none⟩ (.int .i64 g6)).setCell ⟨B + 1, 17, none⟩ (.int .i64 g7)) = W8 at H7 HB7 ⊢
                have hL := range_of H7.out
                have l2 := sc_blk (P := Try.prog) H7.out 0 (entC1 d0 d1 d2 d3 d4 d5 d6 d7 x0 dir g0 g1 g2 g3 g4 g5 g6 g7).toList (C' := (entC1 d0 d1 d2 d3 d4 d5 d6 d7 x0 dir g0 g1 g2 g3 g4 g5 g6 g7)) rfl (Nat.le_refl _) entC1_one
                go_wp2_with (refine wpList_load_mid rfl 77 _ rfl (B + 1) 0 rfl (entC1 d0 d1 d2 d3 d4 d5 d6 d7 x0 dir g0 g1 g2 g3 g4 g5 g6 g7).toList _ hL rfl rfl rfl ?_)
                refine bodyPost_ret (ret_blk rfl rfl (heap_setRow_same H7.out) rfl rfl rfl) rfl ?_
                refine entPost_ok (to := some (j2, m2)) HOK.out HM.out ⟨m2, HM2.out, rfl⟩ ?_ (by rw [hB]; exact below_setRow HB7.out (by omega))
                obtain ⟨e0, e1, e2, e3, e4, e5, e6, e7⟩ := HMV.out
                obtain ⟨i0, i1, i2, i3, i4, i5, i6, i7⟩ := HG2.out
                rw [tx_bs, ← e0, ← e1, ← e2, ← e3, ← e4, ← e5, ← e6, ← e7, ← i0, ← i1, ← i2, ← i3, ← i4, ← i5, ← i6, ← i7]
                rfl
            · have hz1 : (r2 != 0) = true := by simpa using hz
              have HE : Hid (entryT T c cwd (bs s) = .error r2) := Lib.hid (by
                unfold entryT
                rw [HSP.out]
                dsimp only
                rw [if_neg (by decide), if_neg (by
                  rintro (h1 | h1)
                  · simp at h1
                  · rw [last_of] at h1
                    exact HDD.out (Option.some.inj h1)), init_of, hg, if_neg (fun hh => hh rfl)]
                dsimp only
                rw [HM.out]
                dsimp only
                rw [if_pos (by rw [← HR2.out]; exact hz), HR2.out])
              have hL := range_of HF3.out.2.2.1
              have l2 := sc_blk (P := Try.prog) HF3.out.2.2.1 0 zeroE.toList (C' := zeroE) rfl (Nat.le_refl _) (by decide)
              go_wp2_with (refine wpList_load_mid rfl 77 _ rfl (B + 1) 0 rfl zeroE.toList _ hL rfl rfl rfl ?_)
              refine bodyPost_ret (ret_blk rfl rfl (heap_setRow_same HF3.out.2.2.1) rfl rfl rfl) rfl ?_
              exact entPost_err HE.out (by rw [hB]; exact below_setRow HF3.out.1 (by omega))
          · have hr1 : (r == 0) = false := by simpa using hr
            have hr2 : (r != 0) = true := by simpa using hr
            have HE : Hid (entryT T c cwd (bs s) = .error r) := Lib.hid (by
              unfold entryT
              rw [HSP.out]
              dsimp only
              rw [if_neg (by decide), if_neg (by
                rintro (h1 | h1)
                · simp at h1
                · rw [last_of] at h1
                  exact HDD.out (Option.some.inj h1)), init_of, hg, if_pos hr])
            have hL := range_of HF.out.2.2.1
            have l2 := sc_blk (P := Try.prog) HF.out.2.2.1 0 zeroE.toList (C' := zeroE) rfl (Nat.le_refl _) (by decide)
            go_wp2_with (refine wpList_load_mid rfl 77 _ rfl (B + 1) 0 rfl zeroE.toList _ hL rfl rfl rfl ?_)
            refine bodyPost_ret (ret_blk rfl rfl (heap_setRow_same HF.out.2.2.1) rfl rfl rfl) rfl ?_
            exact entPost_err HE.out (by rw [hB]; exact below_setRow HF.out.1 (by omega))
        · have HF := HFK _ _ (below_set8 (v0 := .int .i64 d0) (v1 := .int .i64 d1) (v2 := .int .i64 d2) (v3 := .int .i64 d3) (v4 := .int .i64 d4) (v5 := .int .i64 d5) (v6 := .int .i64 d6) (v7 := .int .i64 d7) hbz (Nat.le_refl W0.heap.size)) (heap_set8 HQD.out)
          have HDS : Hid (W0.heap.size ≤ W0.heap.size) := Lib.hid (Nat.le_refl W0.heap.size)
          have HB0W := Lib.hid (below_set8 (v0 := .int .i64 d0) (v1 := .int .i64 d1) (v2 := .int .i64 d2) (v3 := .int .i64 d3) (v4 := .int .i64 d4) (v5 := .int .i64 d5) (v6 := .int .i64 d6) (v7 := .int .i64 d7) hbz (Nat.le_refl W0.heap.size))
          clear hb1 hbz hDlt HQD z0 y0 z1 y1 z2 y2 z3 y3 z4 y4 z5 y5 z6 y6 z7 y7
          generalize ((((((((w2.setCell ⟨W0.heap.size, 0, none⟩ (.int .i64 d0)).setCell ⟨W0.heap.size, 1, none⟩ (.int .i64 d1)).setCell ⟨W0.heap.size, 2, none⟩ (.int .i64 d2)).setCell ⟨W0.heap.size, 3, none⟩ (.int .i64 d3)).setCell ⟨W0.heap.size, 4, none⟩ (.int .i64 d4)).setCell ⟨W0.heap.size, 5, none⟩ (.int .i64 d5)).setCell ⟨W0.heap.size, 6, none⟩ (.int .i64 d6)).setCell ⟨W0.heap.size, 7, none⟩ (.int .i64 d7)) = W at *
          generalize hDW : W0.heap.size = D at HF HDS ⊢
          by_cases hr : r = 0
          · subst hr
            obtain ⟨m, hm, hmv⟩ := HM0.out rfl
            have hW := HF.out
            have a0 : W.cell? ⟨B, 0, none⟩ = some (.pointer (some ⟨t, 0, none⟩)) := cell_of hW.2.1 0
            have a1 : W.cell? ⟨B, 1, none⟩ = some (.int .i64 cwd) := cell_of hW.2.1 1
            have a2 : W.cell? ⟨B, 2, none⟩ = some (.int .i64 c.real) := cell_of hW.2.1 2
            have a3 : W.cell? ⟨B, 3, none⟩ = some (.int .i64 c.eff) := cell_of hW.2.1 3
            have a4 : W.cell? ⟨B, 4, none⟩ = some (.int .i64 c.saved) := cell_of hW.2.1 4
            have a5 : W.cell? ⟨B, 5, none⟩ = some (.int .i64 c.group) := cell_of hW.2.1 5
            have a6 : W.cell? ⟨B, 6, none⟩ = some (.int .i64 c.eg) := cell_of hW.2.1 6
            have q0 : W.cell? ⟨D, 0, none⟩ = some (.int .i64 d0) := cell_of hW.2.2.2.2.1 0
            have q1 : W.cell? ⟨D, 1, none⟩ = some (.int .i64 d1) := cell_of hW.2.2.2.2.1 1
            have q2 : W.cell? ⟨D, 2, none⟩ = some (.int .i64 d2) := cell_of hW.2.2.2.2.1 2
            have q3 : W.cell? ⟨D, 3, none⟩ = some (.int .i64 d3) := cell_of hW.2.2.2.2.1 3
            have q4 : W.cell? ⟨D, 4, none⟩ = some (.int .i64 d4) := cell_of hW.2.2.2.2.1 4
            have q5 : W.cell? ⟨D, 5, none⟩ = some (.int .i64 d5) := cell_of hW.2.2.2.2.1 5
            have q6 : W.cell? ⟨D, 6, none⟩ = some (.int .i64 d6) := cell_of hW.2.2.2.2.1 6
            have q7 : W.cell? ⟨D, 7, none⟩ = some (.int .i64 d7) := cell_of hW.2.2.2.2.1 7
            clear hW
            go_wp2_with fail
            refine (wenters_any t cwd c _ _ _ _ _ _ _ _ _).mono ?_
            rintro e w3 ⟨r2, rfl, hr2, hb⟩
            have HF3 := HFK w3 D (HB0W.out.trans (hb.mono HB0W.out.size)) ((hb.block _ (lt_of_heap HF.out.2.2.2.2.1)).trans HF.out.2.2.2.2.1)
            have HB3 := Lib.hid (HB0W.out.trans (hb.mono HB0W.out.size))
            have HMV := Lib.hid (infC_inj hmv)
            have HR2 : Hid (r2 = entersE m c) := Lib.hid (by
              rw [hr2]
              obtain ⟨e0, e1, e2, e3, e4, _, _, _⟩ := HMV.out
              rw [← e1, ← e2, ← e3, ← e4]
              rfl)
            have HM := Lib.hid hm
            clear a0 a1 a2 a3 a4 a5 a6 q0 q1 q2 q3 q4 q5 q6 q7 hr2 hmv hm hb
            by_cases hz : r2 = 0
            · subst hz
              have hW := HF3.out
              have a0 : w3.cell? ⟨B, 0, none⟩ = some (.pointer (some ⟨t, 0, none⟩)) := cell_of hW.2.1 0
              have q0 : w3.cell? ⟨D, 0, none⟩ = some (.int .i64 d0) := cell_of hW.2.2.2.2.1 0
              have q1 : w3.cell? ⟨D, 1, none⟩ = some (.int .i64 d1) := cell_of hW.2.2.2.2.1 1
              have q2 : w3.cell? ⟨D, 2, none⟩ = some (.int .i64 d2) := cell_of hW.2.2.2.2.1 2
              have q3 : w3.cell? ⟨D, 3, none⟩ = some (.int .i64 d3) := cell_of hW.2.2.2.2.1 3
              have q4 : w3.cell? ⟨D, 4, none⟩ = some (.int .i64 d4) := cell_of hW.2.2.2.2.1 4
              have q5 : w3.cell? ⟨D, 5, none⟩ = some (.int .i64 d5) := cell_of hW.2.2.2.2.1 5
              have q6 : w3.cell? ⟨D, 6, none⟩ = some (.int .i64 d6) := cell_of hW.2.2.2.2.1 6
              have q7 : w3.cell? ⟨D, 7, none⟩ = some (.int .i64 d7) := cell_of hW.2.2.2.2.1 7
              have p1 : w3.cell? ⟨P, 1, none⟩ = some (.slice (some ⟨bn, on, none⟩) (l.length + 1) cap) := cell_of hW.2.2.2.1 1
              have p2 : w3.cell? ⟨P, 2, none⟩ = some (.bool dir) := cell_of hW.2.2.2.1 2
              have hcn3 := hW.2.2.2.2.2
              clear hW
              have hT : w3.there (B + 1) 0 19 := there_of HF3.out.2.2.1
              have hi7 : ((l.length : Nat) : Int) < ((l.length : Nat) : Int) + 1 := by omega
              go_wp2_with fail
              go_still_tail 9, (by kernel_rfl)
              refine wpList_store_mid rfl 77 _ _ rfl (B + 1) 0 (entC0 d0 d1 d2 d3 d4 d5 d6 d7 x0 dir) rfl rfl hT rfl entC0_one ?_
              have HF4 : Hid (Below B w (World.setCells { w3 with drawn := w3.drawn + 1 } (B + 1) 0 (entC0 d0 d1 d2 d3 d4 d5 d6 d7 x0 dir).toList) ∧ (World.setCells { w3 with drawn := w3.drawn + 1 } (B + 1) 0 (entC0 d0 d1 d2 d3 d4 d5 d6 d7 x0 dir).toList).heap[B]? = some (.cells (askC t cwd c) 74 (0, 0)) ∧ (World.setCells { w3 with drawn := w3.drawn + 1 } (B + 1) 0 (entC0 d0 d1 d2 d3 d4 d5 d6 d7 x0 dir).toList).heap[B + 1]? = some (.cells (entC0 d0 d1 d2 d3 d4 d5 d6 d7 x0 dir) 77 (0, 0)) ∧ (World.setCells { w3 with drawn := w3.drawn + 1 } (B + 1) 0 (entC0 d0 d1 d2 d3 d4 d5 d6 d7 x0 dir).toList).heap[D]? = some (.cells #[.int .i64 d0, .int .i64 d1, .int .i64 d2, .int .i64 d3, .int .i64 d4, .int .i64 d5, .int .i64 d6, .int .i64 d7] 35 (0, 0))) := Lib.hid ⟨below_setCells (by omega) _ _ _ HF3.out.1.drew, (heap_setCells_other (by omega) _ _ _).trans HF3.out.2.1, (heap_setCells _ 0 _ { w3 with drawn := w3.drawn + 1 } HF3.out.2.2.1).trans (by rw [put_all]), (heap_setCells_other (by have := HDS.out; omega) _ _ _).trans HF3.out.2.2.2.2.1⟩
              generalize World.setCells { w3 with drawn := w3.drawn + 1 } (B + 1) 0 (entC0 d0 d1 d2 d3 d4 d5 d6 d7 x0 dir).toList = W4 at *
              have hW := HF4.out
              clear a0 q0 q1 q2 q3 q4 q5 q6 q7 p1 p2 hcn3 hT hcn2 HD HAD
              have a0 : W4.cell? ⟨B, 0, none⟩ = some (.pointer (some ⟨t, 0, none⟩)) := cell_of hW.2.1 0
              have q0 : W4.cell? ⟨D, 0, none⟩ = some (.int .i64 d0) := cell_of hW.2.2.2 0
              have r8 : W4.cell? ⟨B + 1, 8, none⟩ = some (.string x0) := cell_of hW.2.2.1 8
              have HB4 : Hid (Below w.heap.size w W4) := Lib.hid (by rw [hB]; exact hW.1)
              have HT4 := Lib.hid (H.out.mv ((Mv.refl H.out.rep).below HB4.out))
              have HOK : Hid (entryT T c cwd (bs s) = .ok ⟨k, bs x0, dir, lookT T k (bs x0)⟩) := Lib.hid (by
                unfold entryT
                rw [HSP.out]
                dsimp only
                rw [if_neg (by decide), if_neg (by
                  rintro (h1 | h1)
                  · simp at h1
                  · rw [last_of] at h1
                    exact HDD.out (Option.some.inj h1)), init_of, hg, if_neg (fun hh => hh rfl)]
                dsimp only
                rw [HM.out]
                dsimp only
                rw [if_neg (by rw [← HR2.out]; exact fun hh => hh rfl), last_of]
                rfl)
              clear hW
              cases hlk : lookT T k (bs x0) with
              | none =>
                have HC : Hid (Calls Try.prog 26 #[.pointer (some ⟨t, 0, none⟩), .int .i64 d0, .string x0] W4 fun e w' => e = .returned (.tuple #[.int .i64 0, .bool false]) ∧ W4 = w') := Lib.hid ((look_any HT4.out d0 x0).mono (by
                  rintro e w' ⟨rfl, hw⟩
                  refine ⟨?_, hw⟩
                  rw [← HMV.out.1, show lookT T (k : Int).toNat (bs x0) = none from hlk]; rfl))
                rw [hlk] at HOK
                have hq := HF4.out.2.2.1
                have r18 : W4.cell? ⟨B + 1, 18, none⟩ = some (.bool false) := cell_of hq 18
                have f18 : W4.frozen? ⟨B + 1, 18, none⟩ = false := frozen_of hq 18
                have h5 : (W4.setCell ⟨B + 1, 18, none⟩ (.bool false)).heap[B + 1]? = some (.cells (entC0 d0 d1 d2 d3 d4 d5 d6 d7 x0 dir) 77 (0, 0)) := heap_setCell_same hq (.bool false)
                have H5 := Lib.hid h5
                have HB5 : Hid (Below B w (W4.setCell ⟨B + 1, 18, none⟩ (.bool false))) := Lib.hid (HF4.out.1.setCell (Nat.le_succ B) _)
                clear hlk hq h5
                go_wp2_with fail
                refine HC.out.mono ?_
                rintro e wl ⟨rfl, rfl⟩
                go_upto_region 17 with fail
                clear a0 q0 r8 r18 f18
                generalize W4.setCell ⟨B + 1, 18, none⟩ (.bool false) = W8 at H5 HB5 ⊢
                have hL := range_of H5.out
                have l2 := sc_blk (P := Try.prog) H5.out 0 (entC0 d0 d1 d2 d3 d4 d5 d6 d7 x0 dir).toList (C' := (entC0 d0 d1 d2 d3 d4 d5 d6 d7 x0 dir)) rfl (Nat.le_refl _) entC0_one'
                go_wp2_with (refine wpList_load_mid rfl 77 _ rfl (B + 1) 0 rfl (entC0 d0 d1 d2 d3 d4 d5 d6 d7 x0 dir).toList _ hL rfl rfl rfl ?_)
                refine bodyPost_ret (ret_blk rfl rfl (heap_setRow_same H5.out) rfl rfl rfl) rfl ?_
                refine entPost_ok (to := none) HOK.out HM.out rfl ?_ (by rw [hB]; exact below_setRow HB5.out (by omega))
                obtain ⟨e0, e1, e2, e3, e4, e5, e6, e7⟩ := HMV.out
                rw [tx_bs, ← e0, ← e1, ← e2, ← e3, ← e4, ← e5, ← e6, ← e7]
                rfl
              | some j2 =>
                obtain ⟨m2, hm2⟩ := look_there H.out.snd hlk
                have HC : Hid (Calls Try.prog 26 #[.pointer (some ⟨t, 0, none⟩), .int .i64 d0, .string x0] W4 fun e w' => e = .returned (.tuple #[.int .i64 (j2 : Int), .bool true]) ∧ W4 = w') := Lib.hid ((look_any HT4.out d0 x0).mono (by
                  rintro e w' ⟨rfl, hw⟩
                  refine ⟨?_, hw⟩
                  rw [← HMV.out.1, show lookT T (k : Int).toNat (bs x0) = some j2 from hlk]; rfl))
                obtain ⟨g0, g1, g2, g3, g4, g5, g6, g7, hg2⟩ : ∃ g0 g1 g2 g3 g4 g5 g6 g7 : Int, infC T j2 m2 = #[.int .i64 g0, .int .i64 g1, .int .i64 g2, .int .i64 g3, .int .i64 g4, .int .i64 g5, .int .i64 g6, .int .i64 g7] := ⟨_, _, _, _, _, _, _, _, rfl⟩
                have hq := HF4.out.2.2.1
                have r18 : W4.cell? ⟨B + 1, 18, none⟩ = some (.bool false) := cell_of hq 18
                have f18 : W4.frozen? ⟨B + 1, 18, none⟩ = false := frozen_of hq 18
                have h5 : (W4.setCell ⟨B + 1, 18, none⟩ (.bool true)).heap[B + 1]? = some (.cells (entC1 d0 d1 d2 d3 d4 d5 d6 d7 x0 dir 0 0 0 0 0 0 0 0) 77 (0, 0)) := (heap_setCell_same hq (.bool true)).trans (by rw [put18])
                have HB5 : Hid (Below B w (W4.setCell ⟨B + 1, 18, none⟩ (.bool true))) := Lib.hid (HF4.out.1.setCell (Nat.le_succ B) _)
                have HT5 := Lib.hid (H.out.mv ((Mv.refl H.out.rep).below (by rw [hB]; exact HB5.out)))
                have HC2 : Hid (Calls Try.prog 14 #[.pointer (some ⟨t, 0, none⟩), .int .i64 (j2 : Int)] (W4.setCell ⟨B + 1, 18, none⟩ (.bool true)) fun e w' => e = .returned (.tuple #[.agg #[.int .i64 g0, .int .i64 g1, .int .i64 g2, .int .i64 g3, .int .i64 g4, .int .i64 g5, .int .i64 g6, .int .i64 g7], .bool true]) ∧ Below (W4.setCell ⟨B + 1, 18, none⟩ (.bool true)).heap.size (W4.setCell ⟨B + 1, 18, none⟩ (.bool true)) w') := Lib.hid ((stat_any HT5.out j2).mono (by
                  rintro e w' ⟨rfl, hbb⟩
                  have hT' : T (j2 : Int).toNat = some m2 := hm2
                  refine ⟨?_, hbb⟩
                  rw [hT', show statV T (j2 : Int).toNat = statV T j2 from rfl, ← stat_eq hm2, hg2]
                  rfl))
                have H5 := Lib.hid h5
                have HG2 := Lib.hid (infC_inj hg2)
                have HM2 := Lib.hid hm2
                rw [hlk] at HOK
                clear hlk hq h5 hm2 hg2
                go_wp2_with fail
                refine HC.out.mono ?_
                rintro e wl ⟨rfl, rfl⟩
                go_wp2_with fail
                refine HC2.out.mono ?_
                rintro e w6 ⟨rfl, hb6⟩
                have h6 : w6.heap[B + 1]? = some (.cells (entC1 d0 d1 d2 d3 d4 d5 d6 d7 x0 dir 0 0 0 0 0 0 0 0) 77 (0, 0)) := (hb6.block _ (lt_of_heap H5.out)).trans H5.out
                have HB6 : Hid (Below B w w6) := Lib.hid (HB5.out.trans (hb6.mono (by have := HB5.out.size; omega)))
                have r10 : w6.cell? ⟨B + 1, 10, none⟩ = some (.int .i64 0) := cell_of h6 10
                have f10 : w6.frozen? ⟨B + 1, 10, none⟩ = false := frozen_of h6 10
                have r11 : w6.cell? ⟨B + 1, 11, none⟩ = some (.int .i64 0) := cell_of h6 11
                have f11 : w6.frozen? ⟨B + 1, 11, none⟩ = false := frozen_of h6 11
                have r12 : w6.cell? ⟨B + 1, 12, none⟩ = some (.int .i64 0) := cell_of h6 12
                have f12 : w6.frozen? ⟨B + 1, 12, none⟩ = false := frozen_of h6 12
                have r13 : w6.cell? ⟨B + 1, 13, none⟩ = some (.int .i64 0) := cell_of h6 13
                have f13 : w6.frozen? ⟨B + 1, 13, none⟩ = false := frozen_of h6 13
                have r14 : w6.cell? ⟨B + 1, 14, none⟩ = some (.int .i64 0) := cell_of h6 14
                have f14 : w6.frozen? ⟨B + 1, 14, none⟩ = false := frozen_of h6 14
                have r15 : w6.cell? ⟨B + 1, 15, none⟩ = some (.int .i64 0) := cell_of h6 15
                have f15 : w6.frozen? ⟨B + 1, 15, none⟩ = false := frozen_of h6 15
                have r16 : w6.cell? ⟨B + 1, 16, none⟩ = some (.int .i64 0) := cell_of h6 16
                have f16 : w6.frozen? ⟨B + 1, 16, none⟩ = false := frozen_of h6 16
                have r17 : w6.cell? ⟨B + 1, 17, none⟩ = some (.int .i64 0) := cell_of h6 17
                have f17 : w6.frozen? ⟨B + 1, 17, none⟩ = false := frozen_of h6 17
                have h7 : ((((((((w6.setCell ⟨B + 1, 10, none⟩ (.int .i64 g0)).setCell ⟨B + 1, 11, none⟩ (.int .i64 g1)).setCell ⟨B + 1, 12, none⟩ (.int .i64 g2)).setCell ⟨B + 1, 13, none⟩ (.int .i64 g3)).setCell ⟨B + 1, 14, none⟩ (.int .i64 g4)).setCell ⟨B + 1, 15, none⟩ (.int .i64 g5)).setCell ⟨B + 1, 16, none⟩ (.int .i64 g6)).setCell ⟨B + 1, 17, none⟩ (.int .i64 g7)).heap[B + 1]? = some (.cells (entC1 d0 d1 d2 d3 d4 d5 d6 d7 x0 dir g0 g1 g2 g3 g4 g5 g6 g7) 77 (0, 0)) := heap_e8 h6
                have H7 := Lib.hid h7
                have HB7 := Lib.hid (below_e8 (g0 := g0) (g1 := g1) (g2 := g2) (g3 := g3) (g4 := g4) (g5 := g5) (g6 := g6) (g7 := g7) (Nat.le_succ B) HB6.out)
                clear hb6 h6 h7 a0 q0 r8 r18 f18
                go_upto_region 17 with fail
                clear r10 f10 r11 f11 r12 f12 r13 f13 r14 f14 r15 f15 r16 f16 r17 f17
                generalize ((((((((w6.setCell ⟨B + 1, 10, none⟩ (.int .i64 g0)).setCell ⟨B + 1, 11, none⟩ (.int .i64 g1)).setCell ⟨B + 1, 12, none⟩ (.int .i64 g2)).setCell ⟨B + 1, 13, none⟩ (.int .i64 g3)).setCell ⟨B + 1, 14, none⟩ (.int .i64 g4)).setCell ⟨B + 1, 15, none⟩ (.int .i64 g5)).setCell ⟨B + 1, 16, none⟩ (.int .i64 g6)).setCell ⟨B + 1, 17, none⟩ (.int .i64 g7)) = W8 at H7 HB7 ⊢
                have hL := range_of H7.out
                have l2 := sc_blk (P := Try.prog) H7.out 0 (entC1 d0 d1 d2 d3 d4 d5 d6 d7 x0 dir g0 g1 g2 g3 g4 g5 g6 g7).toList (C' := (entC1 d0 d1 d2 d3 d4 d5 d6 d7 x0 dir g0 g1 g2 g3 g4 g5 g6 g7)) rfl (Nat.le_refl _) entC1_one
                go_wp2_with (refine wpList_load_mid rfl 77 _ rfl (B + 1) 0 rfl (entC1 d0 d1 d2 d3 d4 d5 d6 d7 x0 dir g0 g1 g2 g3 g4 g5 g6 g7).toList _ hL rfl rfl rfl ?_)
                refine bodyPost_ret (ret_blk rfl rfl (heap_setRow_same H7.out) rfl rfl rfl) rfl ?_
                refine entPost_ok (to := some (j2, m2)) HOK.out HM.out ⟨m2, HM2.out, rfl⟩ ?_ (by rw [hB]; exact below_setRow HB7.out (by omega))
                obtain ⟨e0, e1, e2, e3, e4, e5, e6, e7⟩ := HMV.out
                obtain ⟨i0, i1, i2, i3, i4, i5, i6, i7⟩ := HG2.out
                rw [tx_bs, ← e0, ← e1, ← e2, ← e3, ← e4, ← e5, ← e6, ← e7, ← i0, ← i1, ← i2, ← i3, ← i4, ← i5, ← i6, ← i7]
                rfl
            · have hz1 : (r2 != 0) = true := by simpa using hz
              have HE : Hid (entryT T c cwd (bs s) = .error r2) := Lib.hid (by
                unfold entryT
                rw [HSP.out]
                dsimp only
                rw [if_neg (by decide), if_neg (by
                  rintro (h1 | h1)
                  · simp at h1
                  · rw [last_of] at h1
                    exact HDD.out (Option.some.inj h1)), init_of, hg, if_neg (fun hh => hh rfl)]
                dsimp only
                rw [HM.out]
                dsimp only
                rw [if_pos (by rw [← HR2.out]; exact hz), HR2.out])
              have hL := range_of HF3.out.2.2.1
              have l2 := sc_blk (P := Try.prog) HF3.out.2.2.1 0 zeroE.toList (C' := zeroE) rfl (Nat.le_refl _) (by decide)
              go_wp2_with (refine wpList_load_mid rfl 77 _ rfl (B + 1) 0 rfl zeroE.toList _ hL rfl rfl rfl ?_)
              refine bodyPost_ret (ret_blk rfl rfl (heap_setRow_same HF3.out.2.2.1) rfl rfl rfl) rfl ?_
              exact entPost_err HE.out (by rw [hB]; exact below_setRow HF3.out.1 (by omega))
          · have hr1 : (r == 0) = false := by simpa using hr
            have hr2 : (r != 0) = true := by simpa using hr
            have HE : Hid (entryT T c cwd (bs s) = .error r) := Lib.hid (by
              unfold entryT
              rw [HSP.out]
              dsimp only
              rw [if_neg (by decide), if_neg (by
                rintro (h1 | h1)
                · simp at h1
                · rw [last_of] at h1
                  exact HDD.out (Option.some.inj h1)), init_of, hg, if_pos hr])
            have hL := range_of HF.out.2.2.1
            have l2 := sc_blk (P := Try.prog) HF.out.2.2.1 0 zeroE.toList (C' := zeroE) rfl (Nat.le_refl _) (by decide)
            go_wp2_with (refine wpList_load_mid rfl 77 _ rfl (B + 1) 0 rfl zeroE.toList _ hL rfl rfl rfl ?_)
            refine bodyPost_ret (ret_blk rfl rfl (heap_setRow_same HF.out.2.2.1) rfl rfl rfl) rfl ?_
            exact entPost_err HE.out (by rw [hB]; exact below_setRow HF.out.1 (by omega))
  · have he1 : (err != 0) = true := by simpa using he
    have hs1 : w.heap.size + 1 < w1.heap.size := hlt
    have hs2 : w.heap.size < w1.heap.size := by omega
    have hR : (w1.alloc (.cells #[.bool abs, .slice a l.length cap, .bool dir] 115)).heap[w.heap.size + 1]? = some (.cells zeroE 77 (0, 0)) := (alloc_heap_old w1 _ (by omega)).trans b1
    have hL := range_of hR
    have l2 := sc_blk (P := Try.prog) hR 0 zeroE.toList (C' := zeroE) rfl (Nat.le_refl _) (by decide)
    have HRR := Lib.hid hR
    have HE := Lib.hid he
    clear hown hb hsp b0 b1 hbb hrow hlen hlt hR he
    go_wp2_with (refine wpList_load_mid rfl 77 _ rfl (w.heap.size + 1) 0 rfl zeroE.toList _ hL rfl rfl rfl ?_)
    refine bodyPost_ret (ret_blk rfl rfl (heap_setRow_same HRR.out) rfl rfl rfl) rfl ?_
    refine entPost_err ?_ (below_setRow (belowA HBB.out _) (by omega))
    unfold entryT
    rw [HSP.out]
    dsimp only
    rw [if_pos HE.out]
end Go.Proofs.Ytafonmnfeibaiaa
namespace Go.Proofs.Ytafonmnfeibaiaa
open Go.RowKit

/-! ### walk: find and entry, as numbers; Find and Parent -/
def cred (c : Cr) : Value := .agg #[.int .i64 c.real, .int .i64 c.eff, .int .i64 c.saved, .int .i64 c.group, .int .i64 c.eg]
theorem wfind_ints {w : World} {t : Nat} {S : Tab} {T : IT.Tr} (h : Tre w t S T) (cwd : Int) (c : Cr) (s : ByteArray) {k : Nat} {r : Int} (hg : findT T c cwd (bs s) = (k, r)) :
    ∃ d0 d1 d2 d3 d4 d5 d6 d7 : Int, (r = 0 → ∃ m, T k = some m ∧ infC T k m = #[.int .i64 d0, .int .i64 d1, .int .i64 d2, .int .i64 d3, .int .i64 d4, .int .i64 d5, .int .i64 d6, .int .i64 d7]) ∧ (r ≠ 0 → d0 = 0) ∧ ∀ W', Below w.heap.size w W' → Calls Try.prog 40 #[ask t cwd c, .string s] W' fun e w' => e = .returned (.tuple #[.agg #[.int .i64 d0, .int .i64 d1, .int .i64 d2, .int .i64 d3, .int .i64 d4, .int .i64 d5, .int .i64 d6, .int .i64 d7], .int .i64 r]) ∧ Below W'.heap.size W' w' := by
  have HD : ∀ W', Below w.heap.size w W' → Calls Try.prog 40 #[ask t cwd c, .string s] W' (FindPost T c cwd s W') := fun W' hb => wfind_any (h.mv ((Mv.refl h.rep).below hb)) cwd c s
  by_cases hr : r = 0
  · subst hr
    have hgo := find_there (c := c) (cwd := cwd) (s := bs s) h.snd
    rw [hg] at hgo
    obtain ⟨m, hm⟩ := hgo rfl
    refine ⟨k, m.kind, m.mode, m.owner, m.group, (IT.lnk T k : Nat), (m.data.length + m.names.length : Nat), m.tty, fun _ => ⟨m, hm, rfl⟩, fun hh => absurd rfl hh, fun W' hb => (HD W' hb).mono ?_⟩
    rintro e w' ⟨v, rfl, hv, hb2⟩
    rw [hg] at hv ⊢
    refine ⟨?_, hb2⟩
    rw [hv, if_pos rfl, ← stat_eq hm]
    rfl
  · refine ⟨0, 0, 0, 0, 0, 0, 0, 0, fun h0 => absurd h0 hr, fun _ => rfl, fun W' hb => (HD W' hb).mono ?_⟩
    rintro e w' ⟨v, rfl, hv, hb2⟩
    rw [hg] at hv ⊢
    refine ⟨?_, hb2⟩
    rw [hv, if_neg hr]
    rfl
theorem wentry_bad {w : World} {t : Nat} {S : Tab} {T : IT.Tr} (h : Tre w t S T) (cwd : Int) (c : Cr) (s : ByteArray) {r : Int} (hg : entryT T c cwd (bs s) = .error r) (W' : World) (hb : Below w.heap.size w W') :
    Calls Try.prog 37 #[ask t cwd c, .string s] W' fun e w' => e = .returned (.tuple #[.agg zeroE, .int .i64 r]) ∧ Below W'.heap.size W' w' :=
  (wentry_any (h.mv ((Mv.refl h.rep).below hb)) cwd c s).mono (by
    rintro e w' ⟨hb2, hp⟩
    rw [hg] at hp
    exact ⟨hp, hb2⟩)
theorem wentry_good {w : World} {t : Nat} {S : Tab} {T : IT.Tr} (h : Tre w t S T) (cwd : Int) (c : Cr) (s : ByteArray) {x : Ent} (hg : entryT T c cwd (bs s) = .ok x) (W' : World) (hb : Below w.heap.size w W') :
    Calls Try.prog 37 #[ask t cwd c, .string s] W' fun e w' => (∃ m to, T x.dir = some m ∧ (match x.to with
        | none => to = none
        | some k => ∃ q, T k = some q ∧ to = some (k, q)) ∧ e = .returned (.tuple #[.agg (entC T x.dir m (tx x.name) x.must to), .int .i64 0])) ∧ Below W'.heap.size W' w' :=
  (wentry_any (h.mv ((Mv.refl h.rep).below hb)) cwd c s).mono (by
    rintro e w' ⟨hb2, hp⟩
    rw [hg] at hp
    exact ⟨hp, hb2⟩)
set_option maxRecDepth 100000 in
set_option maxHeartbeats 4000000 in
theorem walkFind_any {w : World} {t : Nat} {S : Tab} {T : IT.Tr} (h : Tre w t S T) (cwd : Int) (c : Cr) (s : ByteArray) {k : Nat} {r : Int} (hg : findT T c cwd (bs s) = (k, r)) :
    Calls Try.prog 13 #[.pointer (some ⟨t, 0, none⟩), .int .i64 cwd, cred c, .string s] w fun e w' => e = .returned (.tuple #[.int .i64 (if r = 0 then k else 0 : Nat), .int .i64 r]) ∧ Below w.heap.size w w' := by
  obtain ⟨d0, d1, d2, d3, d4, d5, d6, d7, h0, h1, HF⟩ := wfind_ints h cwd c s hg
  have hd : d0 = ((if r = 0 then k else 0 : Nat) : Int) := by
    by_cases hr : r = 0
    · obtain ⟨m, _, hm⟩ := h0 hr
      rw [if_pos hr]
      exact ((infC_inj hm).1).symm
    · rw [if_neg hr]
      exact h1 hr
  rw [← hd]
  clear h0 h1 hd
  have HC := Lib.hid HF
  clear HF h
  unfold cred
  go_enter Try.func13, Try.ntmps13
  go_wp2_with fail
  refine (HC.out _ ((Below.refl _ _).alloc (Nat.le_refl _) _)).mono ?_
  rintro e w2 ⟨rfl, hb⟩
  have HB : Hid (Below w.heap.size w w2) := Lib.hid (((Below.refl _ _).alloc (Nat.le_refl _) _).trans (hb.mono (by rw [alloc_size]; omega)))
  clear hb HC
  go_wp2
  go_ret2
  exact ⟨rfl, belowA HB.out _⟩
end Go.Proofs.Ytafonmnfeibaiaa
namespace Go.Proofs.Ytafonmnfeibaiaa
open Go.RowKit

/-! ### walk: plainer, takes -/
theorem Stp.pre {w w1 w' : World} {t : Nat} {S S1 : Tab} {R : IT.Tr → Prop} (g : Mv w t S w1 S1) (s : Stp w1 t S1 R w') : Stp w t S R w' := by
  obtain ⟨S', T', h1, h2, h3⟩ := s
  exact ⟨S', T', g.trans h1, h2, h3⟩
theorem Stp.imp {w w' : World} {t : Nat} {S : Tab} {R R' : IT.Tr → Prop} (s : Stp w t S R w') (f : ∀ T', R T' → R' T') : Stp w t S R' w' := by
  obtain ⟨S', T', h1, h2, h3⟩ := s
  exact ⟨S', T', h1, h2, f T' h3⟩
theorem Stp.below {w w1 w' : World} {t : Nat} {S : Tab} {R : IT.Tr → Prop} (s : Stp w t S R w1) (hb : Below w1.heap.size w1 w') : Stp w t S R w' := by
  obtain ⟨S', T', h1, h2, h3⟩ := s
  exact ⟨S', T', h1.below hb, h2, h3⟩
/-- A mode without set-user-id. -/
def clr (m : Int) : Int := bits .andNot .i64 m 2048
def isPlainer (T : IT.Tr) (k : Nat) (T' : IT.Tr) : Prop := match T k with
  | none => T' = T
  | some m => ∃ r, IT.isSet rt T k (clr m.mode) m.owner m.group r T'
theorem isPlainer.sound {T T' : IT.Tr} {k : Nat} (h : isPlainer T k T') (hs : IT.Sound okN T) : IT.Sound okN T' := by
  unfold isPlainer at h
  split at h
  · exact h ▸ hs
  · obtain ⟨r, h⟩ := h
    exact h.sound hs
set_option maxRecDepth 100000 in
set_option maxHeartbeats 4000000 in
theorem plainer_any {w : World} {t : Nat} {S : Tab} {T : IT.Tr} (h : Tre w t S T) (ki : Int) :
    Calls Try.prog 45 #[.pointer (some ⟨t, 0, none⟩), .int .i64 ki] w fun e w' => e = .returned (.tuple #[]) ∧ Stp w t S (fun T' => isPlainer T ki.toNat T') w' := by
  have H := Lib.hid h
  cases hk : T ki.toNat with
  | none =>
    have HC : Hid (Calls Try.prog 14 #[.pointer (some ⟨t, 0, none⟩), .int .i64 ki] w fun e w' => e = .returned (.tuple #[noInfo, .bool false]) ∧ Below w.heap.size w w') := Lib.hid ((stat_any h ki).mono (by
      rintro e w' ⟨rfl, hb⟩
      refine ⟨?_, hb⟩
      rw [hk]; unfold statV; rw [hk]; rfl))
    have HK := Lib.hid hk
    clear h hk
    unfold noInfo at HC
    go_enter Try.func45, Try.ntmps45
    go_wp2_with fail
    refine HC.out.mono ?_
    rintro e w2 ⟨rfl, hb⟩
    have HB := Lib.hid hb
    clear hb
    go_wp2
    refine bodyPost_end (results_none rfl _ _ _) rfl ⟨rfl, Stp.keepB H.out (belowA HB.out _) ?_⟩
    unfold isPlainer
    rw [HK.out]
  | some m =>
    obtain ⟨d0, d1, d2, d3, d4, d5, d6, d7, hd⟩ : ∃ d0 d1 d2 d3 d4 d5 d6 d7 : Int, infC T ki.toNat m = #[.int .i64 d0, .int .i64 d1, .int .i64 d2, .int .i64 d3, .int .i64 d4, .int .i64 d5, .int .i64 d6, .int .i64 d7] := ⟨_, _, _, _, _, _, _, _, rfl⟩
    have HC : Hid (Calls Try.prog 14 #[.pointer (some ⟨t, 0, none⟩), .int .i64 ki] w fun e w' => e = .returned (.tuple #[.agg #[.int .i64 d0, .int .i64 d1, .int .i64 d2, .int .i64 d3, .int .i64 d4, .int .i64 d5, .int .i64 d6, .int .i64 d7], .bool true]) ∧ Below w.heap.size w w') := Lib.hid ((stat_any h ki).mono (by
      rintro e w' ⟨rfl, hb⟩
      refine ⟨?_, hb⟩
      rw [hk, ← stat_eq hk, hd]; rfl))
    have HK := Lib.hid hk
    have HI := Lib.hid (infC_inj hd)
    clear h hk hd
    go_enter Try.func45, Try.ntmps45
    go_wp2_with fail
    refine HC.out.mono ?_
    rintro e w2 ⟨rfl, hb⟩
    have HB := Lib.hid (belowA hb (.cells #[.int .i64 d0, .int .i64 d1, .int .i64 d2, .int .i64 d3, .int .i64 d4, .int .i64 d5, .int .i64 d6, .int .i64 d7] 35))
    clear hb HC
    go_wp2_with fail
    refine (set_any (H.out.mv ((Mv.refl H.out.rep).below HB.out)) _ _ _ _).mono ?_
    rintro e w3 ⟨r, rfl, hs⟩
    have HS := Lib.hid (Stp.pre ((Mv.refl H.out.rep).below HB.out) hs)
    clear hs
    go_wp2
    refine bodyPost_end (results_none rfl _ _ _) rfl ⟨rfl, HS.out.imp fun T' hT' => ?_⟩
    unfold isPlainer
    rw [HK.out]
    obtain ⟨e0, e1, e2, e3, e4, _, _, _⟩ := HI.out
    refine ⟨r, ?_⟩
    rw [e2, e3, e4]
    exact hT'
end Go.Proofs.Ytafonmnfeibaiaa
/- How far the holds of a tree go: a bound that each call keeps, or makes greater by one. Plain. -/
namespace Go.Proofs.Ytafonmnfeibaiaa
open Go.RowKit

theorem HB.mono {T : IT.Tr} {B B' : Nat} (h : HB T B) (hB : B ≤ B') : HB T B' := fun k m hk => Nat.le_trans (h k m hk) hB
theorem HB.upd {T : IT.Tr} {B : Nat} (h : HB T B) (k : Nat) {o : Option IT.Nd} (ho : ∀ m, o = some m → m.holds ≤ B) : HB (IT.upd T k o) B := fun j m hj => by
  by_cases e : j = k
  · subst e; rw [IT.upd_same] at hj; exact ho m hj
  · rw [IT.upd_other T o e] at hj; exact h j m hj
theorem alone_holds (j : Nat) (m : IT.Nd) : (IT.alone j m).holds = m.holds := by unfold IT.alone; split <;> rfl
theorem HB.rem {T : IT.Tr} {B : Nat} (h : HB T B) (i : Nat) : HB (IT.rem T i) B := fun j m hj => by
  unfold IT.rem at hj
  split at hj
  · cases hj
  · split at hj
    · exact h j m hj
    · obtain ⟨m0, h0, rfl⟩ := Option.map_eq_some_iff.1 hj
      rw [alone_holds]
      exact h j m0 h0
theorem HB.nf {T A : IT.Tr} (h : IT.NF T A) : ∀ {B : Nat}, HB T B → HB A B := by
  induction h with
  | done _ => exact fun hb => hb
  | step _ _ ih => exact fun hb => ih (hb.rem _)
theorem HB.make {T T' : IT.Tr} {B i : Nat} {kind m o g tty e : Int} (h : HB T B) (hB : 1 ≤ B) (hm : IT.isMake rt T kind m o g tty i e T') : HB T' B := by
  unfold IT.isMake at hm
  split at hm
  · exact hm.2.2 ▸ h
  · split at hm
    · exact hm.2.2 ▸ h
    · split at hm
      · exact hm.2.2 ▸ h
      · obtain ⟨_, _, _, _, _, rfl⟩ := hm
        exact h.upd _ (fun m hm => by cases hm; exact hB)
theorem HB.ent {T : IT.Tr} {B d x : Nat} {nm : IT.Bytes} {n m : IT.Nd} (h : HB T B) (hd : T d = some n) (hx : T x = some m) : HB (IT.entT T d x nm n m) B := by
  unfold IT.entT
  refine (h.upd _ (fun q hq => ?_)).upd _ (fun q hq => ?_)
  · cases hq; rw [IT.under_holds]; exact h x m hx
  · cases hq; exact h d n hd
theorem HB.enter {T T' : IT.Tr} {B d x : Nat} {nm : IT.Bytes} {e : Int} (h : HB T B) (hm : IT.isEnter okN T d nm x e T') : HB T' B := by
  unfold IT.isEnter at hm
  cases hd : T d with
  | none => rw [hd] at hm; exact hm.2 ▸ h
  | some n =>
    cases hx : T x with
    | none => rw [hd, hx] at hm; exact hm.2 ▸ h
    | some m =>
      rw [hd, hx] at hm
      dsimp only at hm
      repeat' split at hm
      all_goals first | exact hm.2 ▸ h | (rw [hm.2]; exact h.ent hd hx)
theorem HB.hold {T T' : IT.Tr} {B k : Nat} {r : Bool} (h : HB T B) (hm : IT.isHold T k r T') : HB T' (B + 1) := by
  unfold IT.isHold at hm
  cases hk : T k with
  | none => rw [hk] at hm; exact (hm.2 ▸ h).mono (Nat.le_succ B)
  | some n =>
    rw [hk] at hm
    dsimp only at hm
    rw [hm.2]
    exact (h.mono (Nat.le_succ B)).upd _ (fun q hq => by cases hq; exact Nat.succ_le_succ (h k n hk))
theorem HB.drop {T T' : IT.Tr} {B k : Nat} {r : Bool} (h : HB T B) (hm : IT.isDrop T k r T') : HB T' B := by
  unfold IT.isDrop at hm
  cases hk : T k with
  | none => rw [hk] at hm; exact hm.2 ▸ h
  | some n =>
    rw [hk] at hm
    dsimp only at hm
    split at hm
    · exact hm.2 ▸ h
    · exact HB.nf hm.2 (h.upd _ (fun q hq => by cases hq; exact Nat.le_trans (Nat.sub_le _ _) (h k n hk)))
theorem HB.set {T T' : IT.Tr} {B k : Nat} {m o g e : Int} (h : HB T B) (hm : IT.isSet rt T k m o g e T') : HB T' B := by
  unfold IT.isSet at hm
  cases hk : T k with
  | none => rw [hk] at hm; exact hm.2 ▸ h
  | some n =>
    rw [hk] at hm
    dsimp only at hm
    split at hm
    · exact hm.2 ▸ h
    · rw [hm.2]; exact h.upd _ (fun q hq => by cases hq; exact h k n hk)
theorem HB.put {T T' : IT.Tr} {B k : Nat} {a e : Int} {s : IT.Bytes} (h : HB T B) (hm : IT.isPut T k a s e T') : HB T' B := by
  unfold IT.isPut at hm
  cases hk : T k with
  | none => rw [hk] at hm; exact hm.2 ▸ h
  | some n =>
    rw [hk] at hm
    dsimp only at hm
    repeat' split at hm
    all_goals first | exact hm.2 ▸ h | (rw [hm.2]; exact h.upd _ (fun q hq => by cases hq; exact h k n hk))
theorem HB.cut {T T' : IT.Tr} {B k : Nat} {e : Int} (h : HB T B) (hm : IT.isCut T k e T') : HB T' B := by
  unfold IT.isCut at hm
  cases hk : T k with
  | none => rw [hk] at hm; exact hm.2 ▸ h
  | some n =>
    rw [hk] at hm
    dsimp only at hm
    repeat' split at hm
    all_goals first | exact hm.2 ▸ h | (rw [hm.2]; exact h.upd _ (fun q hq => by cases hq; exact h k n hk))
theorem HB.del' {T : IT.Tr} {B d x : Nat} {nm : IT.Bytes} {n m : IT.Nd} (h : HB T B) (hd : T d = some n) (hm : m.holds ≤ B) : HB (IT.delT T d x nm n m) B := by
  unfold IT.delT
  refine (h.upd _ (fun q hq => ?_)).upd _ (fun q hq => ?_)
  · cases hq; rw [alone_holds]; exact hm
  · cases hq; exact h d n hd
theorem HB.del {T : IT.Tr} {B d x : Nat} {nm : IT.Bytes} {n m : IT.Nd} (h : HB T B) (hd : T d = some n) (hx : T x = some m) : HB (IT.delT T d x nm n m) B := by
  unfold IT.delT
  refine (h.upd _ (fun q hq => ?_)).upd _ (fun q hq => ?_)
  · cases hq; rw [alone_holds]; exact h x m hx
  · cases hq; exact h d n hd
theorem HB.remove {T T' : IT.Tr} {B d : Nat} {nm : IT.Bytes} {e : Int} (h : HB T B) (hm : IT.isRemove T d nm e T') : HB T' B := by
  unfold IT.isRemove at hm
  cases hd : T d with
  | none => rw [hd] at hm; exact hm.2 ▸ h
  | some n =>
    rw [hd] at hm
    dsimp only at hm
    split at hm
    · exact hm.2 ▸ h
    · split at hm
      · exact hm.2 ▸ h
      · obtain ⟨m, hx, hm⟩ := hm
        split at hm
        · exact hm.2 ▸ h
        · exact HB.nf hm.2 (h.del hd hx)
theorem HB.move {T T' : IT.Tr} {B d b : Nat} {nm ar : IT.Bytes} {e : Int} (h : HB T B) (hm : IT.isMove okN T d nm b ar e T') : HB T' B := by
  unfold IT.isMove at hm
  cases hd : T d with
  | none => rw [hd] at hm; exact hm.2 ▸ h
  | some n =>
    cases hb : T b with
    | none => rw [hd, hb] at hm; exact hm.2 ▸ h
    | some q =>
      rw [hd, hb] at hm
      dsimp only at hm
      split at hm
      · exact hm.2 ▸ h
      · split at hm
        · exact hm.2 ▸ h
        · obtain ⟨m, hx, hm⟩ := hm
          split at hm
          · exact hm.2 ▸ h
          · split at hm
            · exact hm.2 ▸ h
            · split at hm
              · split at hm
                · exact hm.2 ▸ h
                · obtain ⟨_, q1, m1, h1, h2, rfl⟩ := hm
                  exact (h.del hd hx).ent h1 h2
              · split at hm
                · exact hm.2 ▸ h
                · obtain ⟨mw, hw, hm⟩ := hm
                  split at hm
                  · exact hm.2 ▸ h
                  · split at hm
                    · exact hm.2 ▸ h
                    · obtain ⟨_, q1, q2, m2, h1, h2, h3, hnf⟩ := hm
                      refine HB.nf hnf (HB.ent ?_ h2 h3)
                      exact HB.del' (h.del hd hx) h1 (h _ mw hw)
theorem HB.plainer {T T' : IT.Tr} {B k : Nat} (h : HB T B) (hm : isPlainer T k T') : HB T' B := by
  unfold isPlainer at hm
  split at hm
  · exact hm ▸ h
  · obtain ⟨r, hm⟩ := hm
    exact h.set hm
end Go.Proofs.Ytafonmnfeibaiaa
namespace Go.Proofs.Ytafonmnfeibaiaa
open Go.RowKit

/-! ### walk: takes, makes -/
def entG (d0 d1 d2 d3 d4 d5 d6 d7 : Int) (name : ByteArray) (must : Bool) (g0 g1 g2 g3 g4 g5 g6 g7 : Int) (is : Bool) : Array Value := #[.int .i64 d0, .int .i64 d1, .int .i64 d2, .int .i64 d3, .int .i64 d4, .int .i64 d5, .int .i64 d6, .int .i64 d7, .string name, .bool must, .int .i64 g0, .int .i64 g1, .int .i64 g2, .int .i64 g3, .int .i64 g4, .int .i64 g5, .int .i64 g6, .int .i64 g7, .bool is]
def takesB (eff mode owner to : Int) : Bool := bits .and .i64 mode 512 == 0 || (eff == 0 || (eff == owner || eff == to))
set_option maxRecDepth 100000 in
set_option maxHeartbeats 4000000 in
theorem takes_any (t : Nat) (cwd : Int) (c : Cr) (d0 d1 d2 d3 d4 d5 d6 d7 : Int) (name : ByteArray) (must : Bool) (g0 g1 g2 g3 g4 g5 g6 g7 : Int) (is : Bool) (w : World) :
    Calls Try.prog 46 #[ask t cwd c, .agg (entG d0 d1 d2 d3 d4 d5 d6 d7 name must g0 g1 g2 g3 g4 g5 g6 g7 is)] w fun e w' => e = .returned (.bool (takesB c.eff d2 d3 g3)) ∧ Below w.heap.size w w' := by
  obtain ⟨real, eff, saved, group, eg⟩ := c
  unfold ask entG takesB
  dsimp only
  generalize hq : (bits BinOp.and .i64 d2 512 == 0) = q
  cases q <;> cases h1 : (eff == 0) <;> cases h2 : (eff == d3) <;> cases h3 : (eff == g3) <;>
  · go_enter Try.func46, Try.ntmps46
    go_wp2
    go_ret
    exact ⟨rfl, belowA (belowA (Below.refl _ _) _) _⟩
/-- A block that is no part of the tree. -/
def Fr (w : World) (t : Nat) (S : Tab) (b : Nat) : Prop := b < w.heap.size ∧ ¬ foot S t b
theorem Fr.new {w w' : World} {t b : Nat} {S : Tab} (h : Rep w t S) (hb : w.heap.size ≤ b) (hlt : b < w'.heap.size) : Fr w' t S b := ⟨hlt, fun hf => by have := h.foot_lt hf; omega⟩
theorem Fr.mv {w w' : World} {t b : Nat} {S S' : Tab} (h : Fr w t S b) (g : Mv w t S w' S') : Fr w' t S' b := ⟨Nat.lt_of_lt_of_le h.1 g.size, fun hf => by
  rcases g.grow b hf with h1 | h1
  · exact h.2 h1
  · have := h.1; omega⟩
theorem Fr.heap {w w' : World} {t b : Nat} {S S' : Tab} (h : Fr w t S b) (g : Mv w t S w' S') : w'.heap[b]? = w.heap[b]? := g.block b h.1 h.2
theorem Fr.below {w w' : World} {t b : Nat} {S : Tab} (h : Fr w t S b) (g : Below w.heap.size w w') : Fr w' t S b := ⟨Nat.lt_of_lt_of_le h.1 g.size, h.2⟩
/-- An inode made, entered and held. -/
def isMakes (may : Bool) (T : IT.Tr) (c : Cr) (k : Nat) (nm : IT.Bytes) (kind mode : Int) (i : Nat) (r : Int) (T' : IT.Tr) : Prop :=
  if may = false then i = 0 ∧ r = 4 ∧ T' = T
  else ∃ i1 r1 T1, IT.isMake rt T kind mode c.eff c.eg 0 i1 r1 T1 ∧
    if r1 ≠ 0 then i = 0 ∧ r = r1 ∧ T' = T1
    else ∃ r2 T2, IT.isEnter okN T1 k nm i1 r2 T2 ∧ if r2 ≠ 0 then i = 0 ∧ r = r2 ∧ ∃ b, IT.isDrop T2 i1 b T' else i = i1 ∧ r = 0 ∧ T' = T2
set_option maxRecDepth 100000 in
set_option maxHeartbeats 8000000 in
theorem makes_any {w : World} {t : Nat} {S : Tab} {T : IT.Tr} (h : Tre w t S T) (hb : HB T 1000000) (cwd : Int) (c : Cr) (d0 d1 d2 d3 d4 d5 d6 d7 : Int) (name : ByteArray) (must : Bool) (g0 g1 g2 g3 g4 g5 g6 g7 : Int) (is : Bool) (kind mode : Int) :
    Calls Try.prog 38 #[ask t cwd c, .agg (entG d0 d1 d2 d3 d4 d5 d6 d7 name must g0 g1 g2 g3 g4 g5 g6 g7 is), .int .i64 kind, .int .i64 mode] w fun e w' => ∃ (i : Nat) (r : Int), e = .returned (.tuple #[.int .i64 i, .int .i64 r]) ∧ Stp w t S (fun T' => isMakes (Md.mayS d2 d3 d4 (decide (d1 = 1)) c.eff c.eg 2) T c d0.toNat (bs name) kind mode i r T') w' := by
  have H := Lib.hid h
  have HH := Lib.hid hb
  clear h hb
  have HM := Lib.hid (fun W' => wmay_any t cwd c d0 d1 d2 d3 d4 d5 d6 d7 2 W')
  generalize hq : Md.mayS d2 d3 d4 (decide (d1 = 1)) c.eff c.eg 2 = q at *
  clear hq
  unfold ask infoV at HM
  unfold ask entG
  go_enter Try.func38, Try.ntmps38
  go_wp2_with fail
  refine (HM.out _).mono ?_
  rintro e w2 ⟨rfl, hb⟩
  rw [alloc_size, alloc_size] at hb
  obtain ⟨b0, b1, hlt, hbb⟩ := two_blocks hb
  have HS2 := Lib.hid hbb
  cases q with
  | false =>
    clear b0 b1 hlt hbb hb HM
    go_wp2
    go_ret2
    refine ⟨0, 4, rfl, Stp.keepB H.out HS2.out ?_⟩
    unfold isMakes
    rw [if_pos rfl]
    exact ⟨rfl, rfl, rfl⟩
  | true =>
    have HT2 := Lib.hid (H.out.mv ((Mv.refl H.out.rep).below hbb))
    have HF0 := Lib.hid (Fr.new (w' := w2) H.out.rep (Nat.le_refl w.heap.size) (by omega))
    have HF1 := Lib.hid (Fr.new (w' := w2) H.out.rep (Nat.le_succ w.heap.size) hlt)
    have HB0 := Lib.hid b0
    have HB1 := Lib.hid b1
    have a0 : w2.cell? ⟨w.heap.size, 0, none⟩ = some (.pointer (some ⟨t, 0, none⟩)) := cell_of b0 0
    have a3 : w2.cell? ⟨w.heap.size, 3, none⟩ = some (.int .i64 c.eff) := cell_of b0 3
    have a6 : w2.cell? ⟨w.heap.size, 6, none⟩ = some (.int .i64 c.eg) := cell_of b0 6
    have hl0 : w.heap.size < w2.heap.size := by omega
    clear b0 b1 hbb hb HM
    go_wp2_with fail
    refine (make_any HT2.out kind mode c.eff c.eg 0).mono ?_
    rintro e w3 ⟨i1, r1, rfl, hs⟩
    obtain ⟨S1, T1, g1, ht1, hr1⟩ := hs.tre fun T' hT' => hT'.sound H.out.snd
    have HT3 := Lib.hid ht1
    have HM1 := Lib.hid g1
    have HR1 := Lib.hid hr1
    have c0 := (HF0.out.heap g1).trans HB0.out
    have c1 := (HF1.out.heap g1).trans HB1.out
    have HF2 := Lib.hid (HF0.out.mv g1)
    have HF3 := Lib.hid (HF1.out.mv g1)
    have HC0 := Lib.hid c0
    have hl3 : w.heap.size < w3.heap.size := HF2.out.1
    have hl4 : w.heap.size + 1 < w3.heap.size := HF3.out.1
    clear hs g1 ht1 hr1 a0 a3 a6 hlt hl0
    by_cases hz : r1 = 0
    · subst hz
      have a0 : w3.cell? ⟨w.heap.size, 0, none⟩ = some (.pointer (some ⟨t, 0, none⟩)) := cell_of c0 0
      have x0 : w3.cell? ⟨w.heap.size + 1, 0, none⟩ = some (.int .i64 d0) := cell_of c1 0
      have x8 : w3.cell? ⟨w.heap.size + 1, 8, none⟩ = some (.string name) := cell_of c1 8
      clear c0 c1
      go_wp2_with fail
      refine (enter_any HT3.out d0 i1 name).mono ?_
      rintro e w4 ⟨r2, rfl, hs⟩
      obtain ⟨S2, T2, g2, ht2, hr2⟩ := hs.tre fun T' hT' => hT'.sound HT3.out.snd
      have HT4 := Lib.hid ht2
      have HM2 := Lib.hid g2
      have HR2 := Lib.hid hr2
      have c0 := (HF2.out.heap g2).trans HC0.out
      have hl5 : w.heap.size < w4.heap.size := (HF2.out.mv g2).1
      clear hs g2 ht2 hr2 a0 x0 x8 hl3 hl4
      by_cases hz : r2 = 0
      · subst hz
        clear c0
        go_wp2
        go_ret2
        refine ⟨i1, 0, rfl, S2, T2, (((Mv.refl H.out.rep).below HS2.out).trans HM1.out).trans HM2.out, HT4.out.ties, ?_⟩
        show isMakes _ _ _ _ _ _ _ _ _ _
        unfold isMakes
        rw [if_neg (by simp)]
        refine ⟨i1, 0, T1, HR1.out, ?_⟩
        rw [if_neg (fun hh => hh rfl)]
        refine ⟨0, T2, HR2.out, ?_⟩
        rw [if_neg (fun hh => hh rfl)]
        exact ⟨rfl, rfl, rfl⟩
      · have a0 : w4.cell? ⟨w.heap.size, 0, none⟩ = some (.pointer (some ⟨t, 0, none⟩)) := cell_of c0 0
        have hz1 : (r2 != 0) = true := by simpa using hz
        have HNZ := Lib.hid hz
        clear c0 hz
        go_wp2_with fail
        refine (drop_any HT4.out ((HH.out.make (by decide) HR1.out).enter HR2.out) i1).mono ?_
        rintro e w5 ⟨b, rfl, hs⟩
        have HS5 := Lib.hid (Stp.pre ((((Mv.refl H.out.rep).below HS2.out).trans HM1.out).trans HM2.out) hs)
        clear hs a0
        go_wp2
        go_ret2
        refine ⟨0, r2, rfl, HS5.out.imp fun T' hT' => ?_⟩
        unfold isMakes
        rw [if_neg (by simp)]
        refine ⟨i1, 0, T1, HR1.out, ?_⟩
        rw [if_neg (fun hh => hh rfl)]
        refine ⟨r2, T2, HR2.out, ?_⟩
        rw [if_pos HNZ.out]
        exact ⟨rfl, rfl, b, hT'⟩
    · have hz1 : (r1 != 0) = true := by simpa using hz
      have HNZ := Lib.hid hz
      clear c0 c1 hz
      go_wp2
      go_ret2
      refine ⟨0, r1, rfl, S1, T1, ((Mv.refl H.out.rep).below HS2.out).trans HM1.out, HT3.out.ties, ?_⟩
      show isMakes _ _ _ _ _ _ _ _ _ _
      unfold isMakes
      rw [if_neg (by simp)]
      refine ⟨i1, r1, T1, HR1.out, ?_⟩
      rw [if_pos HNZ.out]
      exact ⟨rfl, rfl, rfl⟩
end Go.Proofs.Ytafonmnfeibaiaa
namespace Go.Proofs.Ytafonmnfeibaiaa
open Go.RowKit

/-! ### a whole block stored -/
theorem putA_list : ∀ (vs : List Value) (o : Nat) (C : Array Value), o + vs.length ≤ C.size → (putA C o vs).toList = C.toList.take o ++ (vs ++ C.toList.drop (o + vs.length))
  | [], o, C, _ => by simp [putA]
  | v :: r, o, C, h => by
    have h1 : o < C.toList.length := by simp at h ⊢; omega
    rw [putA, putA_list r (o + 1) _ (by simp at h ⊢; omega)]
    rw [Array.toList_setIfInBounds, List.take_set, List.drop_set, if_pos (by omega)]
    have e1 : (C.toList.take (o + 1)).set o v = C.toList.take o ++ [v] := by
      rw [List.take_succ_eq_append_getElem h1, List.set_append_right _ _ (by simp; omega)]
      have e2 : o - min o C.size = 0 := by simp at h1; omega
      simp [e2]
    rw [e1]
    simp [Nat.add_assoc, Nat.add_comm 1]
theorem putA_whole {C D : Array Value} (h : D.size = C.size) : putA C 0 D.toList = D := by
  apply Array.ext'
  rw [putA_list _ _ _ (by simp [h])]
  simp [h]
theorem stored_whole {w3 : World} {Z C : Array Value} {TY : TypeId} (h : C.size = Z.size) : (World.setCells (w3.alloc (.cells Z TY)) w3.heap.size 0 C.toList).heap[w3.heap.size]? = some (.cells C TY (0, 0)) ∧ Below w3.heap.size w3 (World.setCells (w3.alloc (.cells Z TY)) w3.heap.size 0 C.toList) ∧ (World.setCells (w3.alloc (.cells Z TY)) w3.heap.size 0 C.toList).heap.size = w3.heap.size + 1 :=
  ⟨(heap_setCells _ 0 _ _ (alloc_heap w3 _)).trans (by rw [putA_whole h]), below_setCells (Nat.le_refl _) _ _ _ ((Below.refl _ _).alloc (Nat.le_refl _) _), by rw [setCells_size, alloc_size]⟩
/-! ### walk: an entry, as numbers -/
theorem entry_ok {T : IT.Tr} {c : Cr} {cwd : Int} {s : IT.Bytes} {x : Ent} (h : entryT T c cwd s = .ok x) : ∃ m, T x.dir = some m ∧ x.to = lookT T x.dir x.name ∧ entersE m c = 0 := by
  unfold entryT at h
  split at h
  · cases h
  · split at h
    · cases h
    · split at h
      · cases h
      · split at h
        · cases h
        · rename_i m hm
          split at h
          · cases h
          · rename_i he
            cases h
            exact ⟨m, hm, rfl, Decidable.not_not.1 he⟩
theorem entersE_ne {m : IT.Nd} {c : Cr} (h : entersE m c = 0) : m.kind = 1 ∧ mayN m c 1 = true := by
  unfold entersE at h
  split at h
  · cases h
  · rename_i hk
    split at h
    · cases h
    · rename_i hm
      exact ⟨Decidable.not_not.1 hk, by simpa using hm⟩
theorem go_err {T : IT.Tr} {c : Cr} {cwd : Int} {abs : Bool} {l : List IT.Bytes} : 0 ≤ (goT T c cwd abs l).2 := by
  have hd : ∀ (l : List IT.Bytes) (k : Nat), 0 ≤ (downT T c k l).2 := by
    intro l
    induction l with
    | nil => intro k; exact Int.le_refl 0
    | cons n l ih =>
      intro k
      unfold downT
      split
      · decide
      · split
        · dsimp only
          unfold entersE
          split
          · decide
          · split <;> decide
        · split
          · decide
          · exact ih _
  unfold goT
  split
  · decide
  · exact hd _ _
theorem entry_ne {T : IT.Tr} {c : Cr} {cwd : Int} {s : IT.Bytes} {r : Int} (h : entryT T c cwd s = .error r) : r ≠ 0 := by
  unfold entryT at h
  split at h
  · rename_i h1; cases h; exact h1
  · split at h
    · cases h; decide
    · split at h
      · rename_i h1; cases h; exact h1
      · split at h
        · cases h; decide
        · split at h
          · rename_i h1; cases h; exact h1
          · cases h
theorem wentry_none {w : World} {t : Nat} {S : Tab} {T : IT.Tr} (h : Tre w t S T) (cwd : Int) (c : Cr) (s : ByteArray) {k : Nat} {nm : IT.Bytes} {must : Bool} {m : IT.Nd} (hg : entryT T c cwd (bs s) = .ok ⟨k, nm, must, none⟩) (hm : T k = some m) :
    ∃ d0 d1 d2 d3 d4 d5 d6 d7 : Int, infC T k m = #[.int .i64 d0, .int .i64 d1, .int .i64 d2, .int .i64 d3, .int .i64 d4, .int .i64 d5, .int .i64 d6, .int .i64 d7] ∧ ∀ W', Below w.heap.size w W' → Calls Try.prog 37 #[ask t cwd c, .string s] W' fun e w' => e = .returned (.tuple #[.agg (entG d0 d1 d2 d3 d4 d5 d6 d7 (tx nm) must 0 0 0 0 0 0 0 0 false), .int .i64 0]) ∧ Below W'.heap.size W' w' := by
  refine ⟨_, _, _, _, _, _, _, _, rfl, fun W' hb => (wentry_good h cwd c s hg W' hb).mono ?_⟩
  rintro e w' ⟨⟨m2, to, h1, h2, rfl⟩, hb2⟩
  dsimp only at h1 h2
  subst h2
  obtain rfl : m = m2 := Option.some.inj (hm.symm.trans h1)
  exact ⟨rfl, hb2⟩
theorem wentry_some {w : World} {t : Nat} {S : Tab} {T : IT.Tr} (h : Tre w t S T) (cwd : Int) (c : Cr) (s : ByteArray) {k j : Nat} {nm : IT.Bytes} {must : Bool} {m q : IT.Nd} (hg : entryT T c cwd (bs s) = .ok ⟨k, nm, must, some j⟩) (hm : T k = some m) (hq : T j = some q) :
    ∃ d0 d1 d2 d3 d4 d5 d6 d7 g0 g1 g2 g3 g4 g5 g6 g7 : Int, infC T k m = #[.int .i64 d0, .int .i64 d1, .int .i64 d2, .int .i64 d3, .int .i64 d4, .int .i64 d5, .int .i64 d6, .int .i64 d7] ∧ infC T j q = #[.int .i64 g0, .int .i64 g1, .int .i64 g2, .int .i64 g3, .int .i64 g4, .int .i64 g5, .int .i64 g6, .int .i64 g7] ∧ ∀ W', Below w.heap.size w W' → Calls Try.prog 37 #[ask t cwd c, .string s] W' fun e w' => e = .returned (.tuple #[.agg (entG d0 d1 d2 d3 d4 d5 d6 d7 (tx nm) must g0 g1 g2 g3 g4 g5 g6 g7 true), .int .i64 0]) ∧ Below W'.heap.size W' w' := by
  refine ⟨_, _, _, _, _, _, _, _, _, _, _, _, _, _, _, _, rfl, rfl, fun W' hb => (wentry_good h cwd c s hg W' hb).mono ?_⟩
  rintro e w' ⟨⟨m2, to, h1, ⟨q2, h2, h3⟩, rfl⟩, hb2⟩
  subst h3
  obtain rfl : m = m2 := Option.some.inj (hm.symm.trans h1)
  obtain rfl : q = q2 := Option.some.inj (hq.symm.trans h2)
  exact ⟨rfl, hb2⟩
end Go.Proofs.Ytafonmnfeibaiaa
namespace Go.Proofs.Ytafonmnfeibaiaa
open Go.RowKit

theorem two_below {w w3 : World} {A B : Array Value} {TA TB : TypeId} (hb : Below ((w.alloc (.cells A TA)).alloc (.cells B TB)).heap.size ((w.alloc (.cells A TA)).alloc (.cells B TB)) w3) : Below w.heap.size w w3 :=
  (belowA (belowA (Below.refl _ _) _) _).trans (hb.mono (by rw [alloc_size, alloc_size]; omega))
theorem zeroE_one : zeroE.all (·.oneCell') = true := by simp [zeroE, Value.oneCell']
theorem entG_one {d0 d1 d2 d3 d4 d5 d6 d7 g0 g1 g2 g3 g4 g5 g6 g7 : Int} {name : ByteArray} {must is : Bool} : (entG d0 d1 d2 d3 d4 d5 d6 d7 name must g0 g1 g2 g3 g4 g5 g6 g7 is).all (·.oneCell') = true := by
  simp [entG, Value.oneCell']
theorem isMakes.sound {may : Bool} {T T' : IT.Tr} {c : Cr} {k i : Nat} {nm : IT.Bytes} {kind mode r : Int} (h : isMakes may T c k nm kind mode i r T') (hs : IT.Sound okN T) : IT.Sound okN T' := by
  unfold isMakes at h
  split at h
  · exact h.2.2 ▸ hs
  · obtain ⟨i1, r1, T1, h1, h⟩ := h
    split at h
    · exact h.2.2 ▸ h1.sound hs
    · obtain ⟨r2, T2, h2, h⟩ := h
      split at h
      · obtain ⟨_, _, b, h⟩ := h
        exact h.sound (h2.sound (h1.sound hs))
      · exact h.2.2 ▸ h2.sound (h1.sound hs)
theorem HB.makes {may : Bool} {T T' : IT.Tr} {c : Cr} {k i B : Nat} {nm : IT.Bytes} {kind mode r : Int} (hb : HB T B) (hB : 1 ≤ B) (h : isMakes may T c k nm kind mode i r T') : HB T' B := by
  unfold isMakes at h
  split at h
  · exact h.2.2 ▸ hb
  · obtain ⟨i1, r1, T1, h1, h⟩ := h
    have b1 := hb.make hB h1
    split at h
    · exact h.2.2 ▸ b1
    · obtain ⟨r2, T2, h2, h⟩ := h
      split at h
      · obtain ⟨_, _, b, h⟩ := h
        exact (b1.enter h2).drop h
      · exact h.2.2 ▸ b1.enter h2
theorem HBmakes {may : Bool} {T T' : IT.Tr} {c : Cr} {k i B : Nat} {nm : IT.Bytes} {kind mode r : Int} (hb : HB T B) (hB : 1 ≤ B) (h : isMakes may T c k nm kind mode i r T') : HB T' B := hb.makes hB h
/-! ### walk: Mkdir -/
def isMkdir (T : IT.Tr) (c : Cr) (cwd : Int) (s : IT.Bytes) (mode r : Int) (T' : IT.Tr) : Prop :=
  if Md.rightB mode = false then r = 1 ∧ T' = T
  else match entryT T c cwd s with
    | .error e => r = e ∧ T' = T
    | .ok x => if x.to.isSome then r = 5 ∧ T' = T
      else ∃ m i1 r1 T1, T x.dir = some m ∧ isMakes (mayN m c 2) T c x.dir x.name 1 mode i1 r1 T1 ∧ if r1 = 0 then r = 0 ∧ ∃ b, IT.isDrop T1 i1 b T' else r = r1 ∧ T' = T1
set_option maxRecDepth 100000 in
set_option maxHeartbeats 8000000 in
theorem walkMkdir_any {w : World} {t : Nat} {S : Tab} {T : IT.Tr} (h : Tre w t S T) (hb : HB T 999999) (cwd : Int) (c : Cr) (s : ByteArray) (mode : Int) :
    Calls Try.prog 12 #[.pointer (some ⟨t, 0, none⟩), .int .i64 cwd, cred c, .string s, .int .i64 mode] w fun e w' => ∃ r, e = .returned (.int .i64 r) ∧ Stp w t S (fun T' => isMkdir T c cwd (bs s) mode r T') w' := by
  have H := Lib.hid h
  have HH := Lib.hid hb
  clear h hb
  have HR : Hid (∀ W', Calls Try.prog 36 #[.int .i64 mode] W' fun e w' => e = .returned (.bool (Md.rightB mode)) ∧ w' = W') := Lib.hid (fun W' => Md.right_any mode W')
  cases hq : Md.rightB mode with
  | false =>
    rw [hq] at HR
    have HQ := Lib.hid hq
    clear hq
    unfold cred
    go_enter Try.func12, Try.ntmps12
    go_wp2_with fail
    refine (HR.out _).mono ?_
    rintro e w2 ⟨rfl, rfl⟩
    go_wp2
    go_ret
    refine ⟨1, rfl, Stp.keepB H.out (belowA (belowA (Below.refl _ _) _) _) ?_⟩
    unfold isMkdir
    rw [if_pos HQ.out]
    exact ⟨rfl, rfl⟩
  | true =>
    rw [hq] at HR
    have HQ : Hid (¬ Md.rightB mode = false) := Lib.hid (by rw [hq]; decide)
    clear hq
    cases he : entryT T c cwd (bs s) with
    | error r0 =>
      have HE := Lib.hid he
      have hz1 : (r0 != 0) = true := by simpa using entry_ne he
      obtain ⟨C, hC⟩ : ∃ C, C = zeroE := ⟨_, rfl⟩
      have HC := Lib.hid (wentry_bad H.out cwd c s he)
      rw [← hC] at HC
      have HCS : Hid (C.size = 19) := Lib.hid (by rw [hC]; rfl)
      have HC1 : Hid (C.all (·.oneCell') = true) := Lib.hid (by rw [hC]; exact zeroE_one)
      have HCX18 : Hid (C[18]? = some (.bool false)) := Lib.hid (by rw [hC]; rfl)
      clear he hC
      unfold cred
      unfold ask at HC
      go_enter Try.func12, Try.ntmps12
      go_wp2_with fail
      refine (HR.out _).mono ?_
      rintro e w2 ⟨rfl, rfl⟩
      go_wp2_with fail
      refine (HC.out _ (belowA (belowA (Below.refl _ _) _) _)).mono ?_
      rintro e w3 ⟨rfl, hb⟩
      have HB := Lib.hid (two_below hb)
      obtain ⟨s1, s2, s3⟩ := stored_whole (w3 := w3) (Z := #[.int .i64 0, .int .i64 0, .int .i64 0, .int .i64 0, .int .i64 0, .int .i64 0, .int .i64 0, .int .i64 0, .string ⟨#[]⟩, .bool false, .int .i64 0, .int .i64 0, .int .i64 0, .int .i64 0, .int .i64 0, .int .i64 0, .int .i64 0, .int .i64 0, .bool false]) (C := C) (TY := 77) HCS.out
      have hT : (w3.alloc (.cells #[.int .i64 0, .int .i64 0, .int .i64 0, .int .i64 0, .int .i64 0, .int .i64 0, .int .i64 0, .int .i64 0, .string ⟨#[]⟩, .bool false, .int .i64 0, .int .i64 0, .int .i64 0, .int .i64 0, .int .i64 0, .int .i64 0, .int .i64 0, .int .i64 0, .bool false] 77)).there w3.heap.size 0 C.size := by rw [HCS.out]; exact there_of (alloc_heap w3 _)
      have hI : (Try.prog.info? 77).map (·.size) = some C.size := by rw [HCS.out]; rfl
      have h1C := HC1.out
      have x18 : (World.setCells (w3.alloc (.cells #[.int .i64 0, .int .i64 0, .int .i64 0, .int .i64 0, .int .i64 0, .int .i64 0, .int .i64 0, .int .i64 0, .string ⟨#[]⟩, .bool false, .int .i64 0, .int .i64 0, .int .i64 0, .int .i64 0, .int .i64 0, .int .i64 0, .int .i64 0, .int .i64 0, .bool false] 77)) w3.heap.size 0 C.toList).cell? ⟨w3.heap.size, 18, none⟩ = some (.bool false) := (cell_of s1 18).trans HCX18.out
      clear hb HC HR
      go_wp2_with (refine wpList_store_mid rfl 77 _ _ rfl w3.heap.size 0 C rfl rfl hT hI h1C ?_; generalize World.setCells (w3.alloc (.cells #[.int .i64 0, .int .i64 0, .int .i64 0, .int .i64 0, .int .i64 0, .int .i64 0, .int .i64 0, .int .i64 0, .string ⟨#[]⟩, .bool false, .int .i64 0, .int .i64 0, .int .i64 0, .int .i64 0, .int .i64 0, .int .i64 0, .int .i64 0, .int .i64 0, .bool false] 77)) w3.heap.size 0 C.toList = W5 at s1 s2 s3 x18 ⊢)
      go_ret
      refine ⟨r0, rfl, Stp.keepB H.out (HB.out.trans (s2.mono HB.out.size)) ?_⟩
      unfold isMkdir
      rw [if_neg HQ.out, HE.out]
      exact ⟨rfl, rfl⟩
    | ok x =>
      obtain ⟨m, hm, hto, _⟩ := entry_ok he
      obtain ⟨k, nm, must, to⟩ := x
      dsimp only at hm hto
      cases to with
      | some j =>
        obtain ⟨q, hq⟩ := look_there H.out.snd hto.symm
        obtain ⟨d0, d1, d2, d3, d4, d5, d6, d7, g0, g1, g2, g3, g4, g5, g6, g7, hd, hg, hc⟩ := wentry_some H.out cwd c s he hm hq
        have HE := Lib.hid he
        obtain ⟨C, hC⟩ : ∃ C, C = entG d0 d1 d2 d3 d4 d5 d6 d7 (tx nm) must g0 g1 g2 g3 g4 g5 g6 g7 true := ⟨_, rfl⟩
        rw [← hC] at hc
        have HC := Lib.hid hc
        have HCS : Hid (C.size = 19) := Lib.hid (by rw [hC]; rfl)
        have HC1 : Hid (C.all (·.oneCell') = true) := Lib.hid (by rw [hC]; exact entG_one)
        have HCX18 : Hid (C[18]? = some (.bool true)) := Lib.hid (by rw [hC]; rfl)
        clear he hm hto hq hd hg hc hC
        unfold cred
        unfold ask at HC
        go_enter Try.func12, Try.ntmps12
        go_wp2_with fail
        refine (HR.out _).mono ?_
        rintro e w2 ⟨rfl, rfl⟩
        go_wp2_with fail
        refine (HC.out _ (belowA (belowA (Below.refl _ _) _) _)).mono ?_
        rintro e w3 ⟨rfl, hb⟩
        have HB := Lib.hid (two_below hb)
        obtain ⟨s1, s2, s3⟩ := stored_whole (w3 := w3) (Z := #[.int .i64 0, .int .i64 0, .int .i64 0, .int .i64 0, .int .i64 0, .int .i64 0, .int .i64 0, .int .i64 0, .string ⟨#[]⟩, .bool false, .int .i64 0, .int .i64 0, .int .i64 0, .int .i64 0, .int .i64 0, .int .i64 0, .int .i64 0, .int .i64 0, .bool false]) (C := C) (TY := 77) HCS.out
        have hT : (w3.alloc (.cells #[.int .i64 0, .int .i64 0, .int .i64 0, .int .i64 0, .int .i64 0, .int .i64 0, .int .i64 0, .int .i64 0, .string ⟨#[]⟩, .bool false, .int .i64 0, .int .i64 0, .int .i64 0, .int .i64 0, .int .i64 0, .int .i64 0, .int .i64 0, .int .i64 0, .bool false] 77)).there w3.heap.size 0 C.size := by rw [HCS.out]; exact there_of (alloc_heap w3 _)
        have hI : (Try.prog.info? 77).map (·.size) = some C.size := by rw [HCS.out]; rfl
        have h1C := HC1.out
        have x18 : (World.setCells (w3.alloc (.cells #[.int .i64 0, .int .i64 0, .int .i64 0, .int .i64 0, .int .i64 0, .int .i64 0, .int .i64 0, .int .i64 0, .string ⟨#[]⟩, .bool false, .int .i64 0, .int .i64 0, .int .i64 0, .int .i64 0, .int .i64 0, .int .i64 0, .int .i64 0, .int .i64 0, .bool false] 77)) w3.heap.size 0 C.toList).cell? ⟨w3.heap.size, 18, none⟩ = some (.bool true) := (cell_of s1 18).trans HCX18.out
        clear hb HC HR
        go_wp2_with (refine wpList_store_mid rfl 77 _ _ rfl w3.heap.size 0 C rfl rfl hT hI h1C ?_; generalize World.setCells (w3.alloc (.cells #[.int .i64 0, .int .i64 0, .int .i64 0, .int .i64 0, .int .i64 0, .int .i64 0, .int .i64 0, .int .i64 0, .string ⟨#[]⟩, .bool false, .int .i64 0, .int .i64 0, .int .i64 0, .int .i64 0, .int .i64 0, .int .i64 0, .int .i64 0, .int .i64 0, .bool false] 77)) w3.heap.size 0 C.toList = W5 at s1 s2 s3 x18 ⊢)
        go_ret
        refine ⟨5, rfl, Stp.keepB H.out (HB.out.trans (s2.mono HB.out.size)) ?_⟩
        unfold isMkdir
        rw [if_neg HQ.out, HE.out]
        exact ⟨rfl, rfl⟩
      | none =>
        obtain ⟨d0, d1, d2, d3, d4, d5, d6, d7, hd, hc⟩ := wentry_none H.out cwd c s he hm
        have HE := Lib.hid he
        obtain ⟨C, hC⟩ : ∃ C, C = entG d0 d1 d2 d3 d4 d5 d6 d7 (tx nm) must 0 0 0 0 0 0 0 0 false := ⟨_, rfl⟩
        rw [← hC] at hc
        have HC := Lib.hid hc
        have HD := Lib.hid (infC_inj hd)
        have HM := Lib.hid hm
        have HCE := Lib.hid hC
        have HCS : Hid (C.size = 19) := Lib.hid (by rw [hC]; rfl)
        have HC1 : Hid (C.all (·.oneCell') = true) := Lib.hid (by rw [hC]; exact entG_one)
        have HCX18 : Hid (C[18]? = some (.bool false)) := Lib.hid (by rw [hC]; rfl)
        clear he hm hto hd hc hC
        unfold cred
        unfold ask at HC
        go_enter Try.func12, Try.ntmps12
        go_wp2_with fail
        refine (HR.out _).mono ?_
        rintro e w2 ⟨rfl, rfl⟩
        go_wp2_with fail
        refine (HC.out _ (belowA (belowA (Below.refl _ _) _) _)).mono ?_
        rintro e w3 ⟨rfl, hb⟩
        have HB := Lib.hid (two_below hb)
        rw [alloc_size, alloc_size] at hb
        obtain ⟨_, b1, hlt, _⟩ := two_blocks hb
        have hlt2 : w.heap.size + 1 < w3.heap.size := hlt
        obtain ⟨s1, s2, s3⟩ := stored_whole (w3 := w3) (Z := #[.int .i64 0, .int .i64 0, .int .i64 0, .int .i64 0, .int .i64 0, .int .i64 0, .int .i64 0, .int .i64 0, .string ⟨#[]⟩, .bool false, .int .i64 0, .int .i64 0, .int .i64 0, .int .i64 0, .int .i64 0, .int .i64 0, .int .i64 0, .int .i64 0, .bool false]) (C := C) (TY := 77) HCS.out
        have hT : (w3.alloc (.cells #[.int .i64 0, .int .i64 0, .int .i64 0, .int .i64 0, .int .i64 0, .int .i64 0, .int .i64 0, .int .i64 0, .string ⟨#[]⟩, .bool false, .int .i64 0, .int .i64 0, .int .i64 0, .int .i64 0, .int .i64 0, .int .i64 0, .int .i64 0, .int .i64 0, .bool false] 77)).there w3.heap.size 0 C.size := by rw [HCS.out]; exact there_of (alloc_heap w3 _)
        have hI : (Try.prog.info? 77).map (·.size) = some C.size := by rw [HCS.out]; rfl
        have h1C := HC1.out
        have x18 : (World.setCells (w3.alloc (.cells #[.int .i64 0, .int .i64 0, .int .i64 0, .int .i64 0, .int .i64 0, .int .i64 0, .int .i64 0, .int .i64 0, .string ⟨#[]⟩, .bool false, .int .i64 0, .int .i64 0, .int .i64 0, .int .i64 0, .int .i64 0, .int .i64 0, .int .i64 0, .int .i64 0, .bool false] 77)) w3.heap.size 0 C.toList).cell? ⟨w3.heap.size, 18, none⟩ = some (.bool false) := (cell_of s1 18).trans HCX18.out
        have hB1 := (s2.block _ hlt2).trans b1
        have hl5 : w.heap.size + 1 < (World.setCells (w3.alloc (.cells #[.int .i64 0, .int .i64 0, .int .i64 0, .int .i64 0, .int .i64 0, .int .i64 0, .int .i64 0, .int .i64 0, .string ⟨#[]⟩, .bool false, .int .i64 0, .int .i64 0, .int .i64 0, .int .i64 0, .int .i64 0, .int .i64 0, .int .i64 0, .int .i64 0, .bool false] 77)) w3.heap.size 0 C.toList).heap.size := by omega
        have a0 : (World.setCells (w3.alloc (.cells #[.int .i64 0, .int .i64 0, .int .i64 0, .int .i64 0, .int .i64 0, .int .i64 0, .int .i64 0, .int .i64 0, .string ⟨#[]⟩, .bool false, .int .i64 0, .int .i64 0, .int .i64 0, .int .i64 0, .int .i64 0, .int .i64 0, .int .i64 0, .int .i64 0, .bool false] 77)) w3.heap.size 0 C.toList).cell? ⟨w.heap.size + 1, 0, none⟩ = some (.pointer (some ⟨t, 0, none⟩)) := cell_of hB1 0
        have a1 : (World.setCells (w3.alloc (.cells #[.int .i64 0, .int .i64 0, .int .i64 0, .int .i64 0, .int .i64 0, .int .i64 0, .int .i64 0, .int .i64 0, .string ⟨#[]⟩, .bool false, .int .i64 0, .int .i64 0, .int .i64 0, .int .i64 0, .int .i64 0, .int .i64 0, .int .i64 0, .int .i64 0, .bool false] 77)) w3.heap.size 0 C.toList).cell? ⟨w.heap.size + 1, 1, none⟩ = some (.int .i64 cwd) := cell_of hB1 1
        have a2 : (World.setCells (w3.alloc (.cells #[.int .i64 0, .int .i64 0, .int .i64 0, .int .i64 0, .int .i64 0, .int .i64 0, .int .i64 0, .int .i64 0, .string ⟨#[]⟩, .bool false, .int .i64 0, .int .i64 0, .int .i64 0, .int .i64 0, .int .i64 0, .int .i64 0, .int .i64 0, .int .i64 0, .bool false] 77)) w3.heap.size 0 C.toList).cell? ⟨w.heap.size + 1, 2, none⟩ = some (.int .i64 c.real) := cell_of hB1 2
        have a3 : (World.setCells (w3.alloc (.cells #[.int .i64 0, .int .i64 0, .int .i64 0, .int .i64 0, .int .i64 0, .int .i64 0, .int .i64 0, .int .i64 0, .string ⟨#[]⟩, .bool false, .int .i64 0, .int .i64 0, .int .i64 0, .int .i64 0, .int .i64 0, .int .i64 0, .int .i64 0, .int .i64 0, .bool false] 77)) w3.heap.size 0 C.toList).cell? ⟨w.heap.size + 1, 3, none⟩ = some (.int .i64 c.eff) := cell_of hB1 3
        have a4 : (World.setCells (w3.alloc (.cells #[.int .i64 0, .int .i64 0, .int .i64 0, .int .i64 0, .int .i64 0, .int .i64 0, .int .i64 0, .int .i64 0, .string ⟨#[]⟩, .bool false, .int .i64 0, .int .i64 0, .int .i64 0, .int .i64 0, .int .i64 0, .int .i64 0, .int .i64 0, .int .i64 0, .bool false] 77)) w3.heap.size 0 C.toList).cell? ⟨w.heap.size + 1, 4, none⟩ = some (.int .i64 c.saved) := cell_of hB1 4
        have a5 : (World.setCells (w3.alloc (.cells #[.int .i64 0, .int .i64 0, .int .i64 0, .int .i64 0, .int .i64 0, .int .i64 0, .int .i64 0, .int .i64 0, .string ⟨#[]⟩, .bool false, .int .i64 0, .int .i64 0, .int .i64 0, .int .i64 0, .int .i64 0, .int .i64 0, .int .i64 0, .int .i64 0, .bool false] 77)) w3.heap.size 0 C.toList).cell? ⟨w.heap.size + 1, 5, none⟩ = some (.int .i64 c.group) := cell_of hB1 5
        have a6 : (World.setCells (w3.alloc (.cells #[.int .i64 0, .int .i64 0, .int .i64 0, .int .i64 0, .int .i64 0, .int .i64 0, .int .i64 0, .int .i64 0, .string ⟨#[]⟩, .bool false, .int .i64 0, .int .i64 0, .int .i64 0, .int .i64 0, .int .i64 0, .int .i64 0, .int .i64 0, .int .i64 0, .bool false] 77)) w3.heap.size 0 C.toList).cell? ⟨w.heap.size + 1, 6, none⟩ = some (.int .i64 c.eg) := cell_of hB1 6
        clear b1
        clear hb HC HR
        go_wp2_with (first | (refine wpList_store_mid rfl 77 _ _ rfl w3.heap.size 0 C rfl rfl hT hI h1C ?_; generalize World.setCells (w3.alloc (.cells #[.int .i64 0, .int .i64 0, .int .i64 0, .int .i64 0, .int .i64 0, .int .i64 0, .int .i64 0, .int .i64 0, .string ⟨#[]⟩, .bool false, .int .i64 0, .int .i64 0, .int .i64 0, .int .i64 0, .int .i64 0, .int .i64 0, .int .i64 0, .int .i64 0, .bool false] 77)) w3.heap.size 0 C.toList = W5 at s1 s2 s3 x18 hB1 hl5 a0 a1 a2 a3 a4 a5 a6 ⊢) | (refine wpList_load_mid rfl 77 _ rfl w3.heap.size 0 rfl C.toList _ (range_of s1) rfl rfl hI ?_))
        have HB5 : Hid (Below w.heap.size w W5) := Lib.hid (HB.out.trans (s2.mono HB.out.size))
        have hmk := makes_any (H.out.mv ((Mv.refl H.out.rep).below HB5.out)) (HH.out.mono (by decide)) cwd c d0 d1 d2 d3 d4 d5 d6 d7 (tx nm) must 0 0 0 0 0 0 0 0 false 1 mode
        rw [← HCE.out] at hmk
        unfold ask at hmk
        clear a0 a1 a2 a3 a4 a5 a6 x18 hT hI h1C s1 s2 s3 hl5 hB1 hlt2
        refine hmk.mono ?_
        rintro e w6 ⟨i1, r1, rfl, hs⟩
        clear hmk
        obtain ⟨S1, T1, g1, ht1, hr1⟩ := hs.tre fun T' hT' => isMakes.sound hT' H.out.snd
        have HMV := Lib.hid (((Mv.refl H.out.rep).below HB5.out).trans g1)
        have HT1 := Lib.hid ht1
        have HR1 : Hid (isMakes (mayN m c 2) T c k nm 1 mode i1 r1 T1) := Lib.hid (by
          obtain ⟨e0, e1, e2, e3, e4, _, _, _⟩ := HD.out
          rw [← e0, ← e1, ← e2, ← e3, ← e4, bs_tx] at hr1
          exact hr1)
        clear hs g1 ht1 hr1
        by_cases hz : r1 = 0
        · subst hz
          go_wp2_with fail
          refine (drop_any HT1.out (HBmakes (HH.out.mono (by decide)) (by decide) HR1.out) i1).mono ?_
          rintro e w7 ⟨b, rfl, hs⟩
          have HS := Lib.hid (Stp.pre HMV.out hs)
          clear hs
          go_wp2
          go_ret
          refine ⟨0, rfl, HS.out.imp fun T' hT' => ?_⟩
          unfold isMkdir
          rw [if_neg HQ.out, HE.out]
          refine ⟨m, i1, 0, T1, HM.out, HR1.out, ?_⟩
          rw [if_pos rfl]
          exact ⟨rfl, b, hT'⟩
        · have hz1 : (r1 == 0) = false := by simpa using hz
          have HNZ := Lib.hid hz
          clear hz
          go_wp2
          go_ret
          refine ⟨r1, rfl, S1, T1, HMV.out, HT1.out.ties, ?_⟩
          show isMkdir _ _ _ _ _ _ _
          unfold isMkdir
          rw [if_neg HQ.out, HE.out]
          refine ⟨m, i1, r1, T1, HM.out, HR1.out, ?_⟩
          rw [if_neg HNZ.out]
          exact ⟨rfl, rfl⟩
end Go.Proofs.Ytafonmnfeibaiaa
namespace Go.Proofs.Ytafonmnfeibaiaa
open Go.RowKit

theorem one_below {w w3 : World} {A : Array Value} {TA : TypeId} (hb : Below (w.alloc (.cells A TA)).heap.size (w.alloc (.cells A TA)) w3) : Below w.heap.size w w3 :=
  (belowA (Below.refl _ _) _).trans (hb.mono (by rw [alloc_size]; omega))
/-! ### walk: Chown -/
def isChown (T : IT.Tr) (c : Cr) (cwd : Int) (s : IT.Bytes) (owner group r : Int) (T' : IT.Tr) : Prop :=
  if (findT T c cwd s).2 ≠ 0 then r = (findT T c cwd s).2 ∧ T' = T
  else ∃ m, T (findT T c cwd s).1 = some m ∧ if c.eff ≠ 0 ∧ ¬ (c.eff = m.owner ∧ owner = m.owner ∧ (group = c.eg ∨ group = m.group)) then r = 2 ∧ T' = T
    else IT.isSet rt T (findT T c cwd s).1 (clr m.mode) owner group r T'
set_option maxRecDepth 100000 in
set_option maxHeartbeats 8000000 in
theorem walkChown_any {w : World} {t : Nat} {S : Tab} {T : IT.Tr} (h : Tre w t S T) (cwd : Int) (c : Cr) (s : ByteArray) (owner group : Int) :
    Calls Try.prog 31 #[.pointer (some ⟨t, 0, none⟩), .int .i64 cwd, cred c, .string s, .int .i64 owner, .int .i64 group] w fun e w' => ∃ r, e = .returned (.int .i64 r) ∧ Stp w t S (fun T' => isChown T c cwd (bs s) owner group r T') w' := by
  have H := Lib.hid h
  clear h
  obtain ⟨⟨k, r0⟩, hg⟩ : ∃ g, findT T c cwd (bs s) = g := ⟨_, rfl⟩
  obtain ⟨d0, d1, d2, d3, d4, d5, d6, d7, h0, _, hF⟩ := wfind_ints H.out cwd c s hg
  have HG := Lib.hid hg
  have HC := Lib.hid hF
  have HD := Lib.hid h0
  clear hg hF h0
  unfold cred
  unfold ask at HC
  by_cases hz : r0 = 0
  · subst hz
    obtain ⟨m, hm, hd⟩ := HD.out rfl
    have HM := Lib.hid hm
    have HI := Lib.hid (infC_inj hd)
    clear HD hm hd
    by_cases q1 : c.eff = d3
    · by_cases q2 : owner = d3
      · by_cases q3 : group = c.eg
        · by_cases q0 : c.eff = 0
          · have HPERM : Hid (¬ (c.eff ≠ 0 ∧ ¬ (c.eff = m.owner ∧ owner = m.owner ∧ (group = c.eg ∨ group = m.group)))) := Lib.hid (by
              obtain ⟨_, _, _, e3, e4, _, _, _⟩ := HI.out
              rw [e3, e4]
              omega)
            have q0b : (c.eff != 0) = false := by simpa using q0
            have q1b : (c.eff == d3) = true := by simpa using q1
            have q2b : (owner == d3) = true := by simpa using q2
            have q3b : (group == c.eg) = true := by simpa using q3
            clear q0 q1 q2 q3
            go_enter Try.func31, Try.ntmps31
            go_wp2_with fail
            refine (HC.out _ (belowA (Below.refl _ _) _)).mono ?_
            rintro e w3 ⟨rfl, hb⟩
            have HB := Lib.hid (one_below hb)
            have hlt : w.heap.size < w3.heap.size := by have := hb.size; rw [alloc_size] at this; omega
            have hb0 := (hb.block w.heap.size (by rw [alloc_size]; omega)).trans (alloc_heap w _)
            have b1 : w3.cell? ⟨w.heap.size, 1, none⟩ = some (.int .i64 c.eff) := cell_of hb0 1
            have b4 : w3.cell? ⟨w.heap.size, 4, none⟩ = some (.int .i64 c.eg) := cell_of hb0 4
            clear hb HC hb0
            go_wp2_with fail
            refine (set_any (H.out.mv ((Mv.refl H.out.rep).below (belowA HB.out _))) _ _ _ _).mono ?_
            rintro e w4 ⟨r, rfl, hs⟩
            have HS := Lib.hid (Stp.pre ((Mv.refl H.out.rep).below (belowA HB.out _)) hs)
            clear hs
            go_wp2
            go_ret
            refine ⟨r, rfl, HS.out.imp fun T' hT' => ?_⟩
            unfold isChown
            rw [HG.out, if_neg (fun hh => hh rfl)]
            refine ⟨m, HM.out, ?_⟩
            rw [if_neg (HPERM.out)]
            obtain ⟨e0, _, e2, _, _, _, _, _⟩ := HI.out
            rw [e2]
            rw [← e0] at hT'
            exact hT'
          · have HPERM : Hid (¬ (c.eff ≠ 0 ∧ ¬ (c.eff = m.owner ∧ owner = m.owner ∧ (group = c.eg ∨ group = m.group)))) := Lib.hid (by
              obtain ⟨_, _, _, e3, e4, _, _, _⟩ := HI.out
              rw [e3, e4]
              omega)
            have q0b : (c.eff != 0) = true := by simpa using q0
            have q1b : (c.eff == d3) = true := by simpa using q1
            have q2b : (owner == d3) = true := by simpa using q2
            have q3b : (group == c.eg) = true := by simpa using q3
            clear q0 q1 q2 q3
            go_enter Try.func31, Try.ntmps31
            go_wp2_with fail
            refine (HC.out _ (belowA (Below.refl _ _) _)).mono ?_
            rintro e w3 ⟨rfl, hb⟩
            have HB := Lib.hid (one_below hb)
            have hlt : w.heap.size < w3.heap.size := by have := hb.size; rw [alloc_size] at this; omega
            have hb0 := (hb.block w.heap.size (by rw [alloc_size]; omega)).trans (alloc_heap w _)
            have b1 : w3.cell? ⟨w.heap.size, 1, none⟩ = some (.int .i64 c.eff) := cell_of hb0 1
            have b4 : w3.cell? ⟨w.heap.size, 4, none⟩ = some (.int .i64 c.eg) := cell_of hb0 4
            clear hb HC hb0
            go_wp2_with fail
            refine (set_any (H.out.mv ((Mv.refl H.out.rep).below (belowA HB.out _))) _ _ _ _).mono ?_
            rintro e w4 ⟨r, rfl, hs⟩
            have HS := Lib.hid (Stp.pre ((Mv.refl H.out.rep).below (belowA HB.out _)) hs)
            clear hs
            go_wp2
            go_ret
            refine ⟨r, rfl, HS.out.imp fun T' hT' => ?_⟩
            unfold isChown
            rw [HG.out, if_neg (fun hh => hh rfl)]
            refine ⟨m, HM.out, ?_⟩
            rw [if_neg (HPERM.out)]
            obtain ⟨e0, _, e2, _, _, _, _, _⟩ := HI.out
            rw [e2]
            rw [← e0] at hT'
            exact hT'
        · by_cases q4 : group = d4
          · by_cases q0 : c.eff = 0
            · have HPERM : Hid (¬ (c.eff ≠ 0 ∧ ¬ (c.eff = m.owner ∧ owner = m.owner ∧ (group = c.eg ∨ group = m.group)))) := Lib.hid (by
                obtain ⟨_, _, _, e3, e4, _, _, _⟩ := HI.out
                rw [e3, e4]
                omega)
              have q0b : (c.eff != 0) = false := by simpa using q0
              have q1b : (c.eff == d3) = true := by simpa using q1
              have q2b : (owner == d3) = true := by simpa using q2
              have q3b : (group == c.eg) = false := by simpa using q3
              have q4b : (group == d4) = true := by simpa using q4
              clear q0 q1 q2 q3 q4
              go_enter Try.func31, Try.ntmps31
              go_wp2_with fail
              refine (HC.out _ (belowA (Below.refl _ _) _)).mono ?_
              rintro e w3 ⟨rfl, hb⟩
              have HB := Lib.hid (one_below hb)
              have hlt : w.heap.size < w3.heap.size := by have := hb.size; rw [alloc_size] at this; omega
              have hb0 := (hb.block w.heap.size (by rw [alloc_size]; omega)).trans (alloc_heap w _)
              have b1 : w3.cell? ⟨w.heap.size, 1, none⟩ = some (.int .i64 c.eff) := cell_of hb0 1
              have b4 : w3.cell? ⟨w.heap.size, 4, none⟩ = some (.int .i64 c.eg) := cell_of hb0 4
              clear hb HC hb0
              go_wp2_with fail
              refine (set_any (H.out.mv ((Mv.refl H.out.rep).below (belowA HB.out _))) _ _ _ _).mono ?_
              rintro e w4 ⟨r, rfl, hs⟩
              have HS := Lib.hid (Stp.pre ((Mv.refl H.out.rep).below (belowA HB.out _)) hs)
              clear hs
              go_wp2
              go_ret
              refine ⟨r, rfl, HS.out.imp fun T' hT' => ?_⟩
              unfold isChown
              rw [HG.out, if_neg (fun hh => hh rfl)]
              refine ⟨m, HM.out, ?_⟩
              rw [if_neg (HPERM.out)]
              obtain ⟨e0, _, e2, _, _, _, _, _⟩ := HI.out
              rw [e2]
              rw [← e0] at hT'
              exact hT'
            · have HPERM : Hid (¬ (c.eff ≠ 0 ∧ ¬ (c.eff = m.owner ∧ owner = m.owner ∧ (group = c.eg ∨ group = m.group)))) := Lib.hid (by
                obtain ⟨_, _, _, e3, e4, _, _, _⟩ := HI.out
                rw [e3, e4]
                omega)
              have q0b : (c.eff != 0) = true := by simpa using q0
              have q1b : (c.eff == d3) = true := by simpa using q1
              have q2b : (owner == d3) = true := by simpa using q2
              have q3b : (group == c.eg) = false := by simpa using q3
              have q4b : (group == d4) = true := by simpa using q4
              clear q0 q1 q2 q3 q4
              go_enter Try.func31, Try.ntmps31
              go_wp2_with fail
              refine (HC.out _ (belowA (Below.refl _ _) _)).mono ?_
              rintro e w3 ⟨rfl, hb⟩
              have HB := Lib.hid (one_below hb)
              have hlt : w.heap.size < w3.heap.size := by have := hb.size; rw [alloc_size] at this; omega
              have hb0 := (hb.block w.heap.size (by rw [alloc_size]; omega)).trans (alloc_heap w _)
              have b1 : w3.cell? ⟨w.heap.size, 1, none⟩ = some (.int .i64 c.eff) := cell_of hb0 1
              have b4 : w3.cell? ⟨w.heap.size, 4, none⟩ = some (.int .i64 c.eg) := cell_of hb0 4
              clear hb HC hb0
              go_wp2_with fail
              refine (set_any (H.out.mv ((Mv.refl H.out.rep).below (belowA HB.out _))) _ _ _ _).mono ?_
              rintro e w4 ⟨r, rfl, hs⟩
              have HS := Lib.hid (Stp.pre ((Mv.refl H.out.rep).below (belowA HB.out _)) hs)
              clear hs
              go_wp2
              go_ret
              refine ⟨r, rfl, HS.out.imp fun T' hT' => ?_⟩
              unfold isChown
              rw [HG.out, if_neg (fun hh => hh rfl)]
              refine ⟨m, HM.out, ?_⟩
              rw [if_neg (HPERM.out)]
              obtain ⟨e0, _, e2, _, _, _, _, _⟩ := HI.out
              rw [e2]
              rw [← e0] at hT'
              exact hT'
          · by_cases q0 : c.eff = 0
            · have HPERM : Hid (¬ (c.eff ≠ 0 ∧ ¬ (c.eff = m.owner ∧ owner = m.owner ∧ (group = c.eg ∨ group = m.group)))) := Lib.hid (by
                obtain ⟨_, _, _, e3, e4, _, _, _⟩ := HI.out
                rw [e3, e4]
                omega)
              have q0b : (c.eff != 0) = false := by simpa using q0
              have q1b : (c.eff == d3) = true := by simpa using q1
              have q2b : (owner == d3) = true := by simpa using q2
              have q3b : (group == c.eg) = false := by simpa using q3
              have q4b : (group == d4) = false := by simpa using q4
              clear q0 q1 q2 q3 q4
              go_enter Try.func31, Try.ntmps31
              go_wp2_with fail
              refine (HC.out _ (belowA (Below.refl _ _) _)).mono ?_
              rintro e w3 ⟨rfl, hb⟩
              have HB := Lib.hid (one_below hb)
              have hlt : w.heap.size < w3.heap.size := by have := hb.size; rw [alloc_size] at this; omega
              have hb0 := (hb.block w.heap.size (by rw [alloc_size]; omega)).trans (alloc_heap w _)
              have b1 : w3.cell? ⟨w.heap.size, 1, none⟩ = some (.int .i64 c.eff) := cell_of hb0 1
              have b4 : w3.cell? ⟨w.heap.size, 4, none⟩ = some (.int .i64 c.eg) := cell_of hb0 4
              clear hb HC hb0
              go_wp2_with fail
              refine (set_any (H.out.mv ((Mv.refl H.out.rep).below (belowA HB.out _))) _ _ _ _).mono ?_
              rintro e w4 ⟨r, rfl, hs⟩
              have HS := Lib.hid (Stp.pre ((Mv.refl H.out.rep).below (belowA HB.out _)) hs)
              clear hs
              go_wp2
              go_ret
              refine ⟨r, rfl, HS.out.imp fun T' hT' => ?_⟩
              unfold isChown
              rw [HG.out, if_neg (fun hh => hh rfl)]
              refine ⟨m, HM.out, ?_⟩
              rw [if_neg (HPERM.out)]
              obtain ⟨e0, _, e2, _, _, _, _, _⟩ := HI.out
              rw [e2]
              rw [← e0] at hT'
              exact hT'
            · have HPERM : Hid ((c.eff ≠ 0 ∧ ¬ (c.eff = m.owner ∧ owner = m.owner ∧ (group = c.eg ∨ group = m.group)))) := Lib.hid (by
                obtain ⟨_, _, _, e3, e4, _, _, _⟩ := HI.out
                rw [e3, e4]
                omega)
              have q0b : (c.eff != 0) = true := by simpa using q0
              have q1b : (c.eff == d3) = true := by simpa using q1
              have q2b : (owner == d3) = true := by simpa using q2
              have q3b : (group == c.eg) = false := by simpa using q3
              have q4b : (group == d4) = false := by simpa using q4
              clear q0 q1 q2 q3 q4
              go_enter Try.func31, Try.ntmps31
              go_wp2_with fail
              refine (HC.out _ (belowA (Below.refl _ _) _)).mono ?_
              rintro e w3 ⟨rfl, hb⟩
              have HB := Lib.hid (one_below hb)
              have hlt : w.heap.size < w3.heap.size := by have := hb.size; rw [alloc_size] at this; omega
              have hb0 := (hb.block w.heap.size (by rw [alloc_size]; omega)).trans (alloc_heap w _)
              have b1 : w3.cell? ⟨w.heap.size, 1, none⟩ = some (.int .i64 c.eff) := cell_of hb0 1
              have b4 : w3.cell? ⟨w.heap.size, 4, none⟩ = some (.int .i64 c.eg) := cell_of hb0 4
              clear hb HC hb0
              go_wp2
              go_ret
              refine ⟨2, rfl, Stp.keepB H.out (belowA HB.out _) ?_⟩
              unfold isChown
              rw [HG.out, if_neg (fun hh => hh rfl)]
              refine ⟨m, HM.out, ?_⟩
              rw [if_pos (HPERM.out)]
              exact ⟨rfl, rfl⟩
      · by_cases q0 : c.eff = 0
        · have HPERM : Hid (¬ (c.eff ≠ 0 ∧ ¬ (c.eff = m.owner ∧ owner = m.owner ∧ (group = c.eg ∨ group = m.group)))) := Lib.hid (by
            obtain ⟨_, _, _, e3, e4, _, _, _⟩ := HI.out
            rw [e3, e4]
            omega)
          have q0b : (c.eff != 0) = false := by simpa using q0
          have q1b : (c.eff == d3) = true := by simpa using q1
          have q2b : (owner == d3) = false := by simpa using q2
          clear q0 q1 q2
          go_enter Try.func31, Try.ntmps31
          go_wp2_with fail
          refine (HC.out _ (belowA (Below.refl _ _) _)).mono ?_
          rintro e w3 ⟨rfl, hb⟩
          have HB := Lib.hid (one_below hb)
          have hlt : w.heap.size < w3.heap.size := by have := hb.size; rw [alloc_size] at this; omega
          have hb0 := (hb.block w.heap.size (by rw [alloc_size]; omega)).trans (alloc_heap w _)
          have b1 : w3.cell? ⟨w.heap.size, 1, none⟩ = some (.int .i64 c.eff) := cell_of hb0 1
          have b4 : w3.cell? ⟨w.heap.size, 4, none⟩ = some (.int .i64 c.eg) := cell_of hb0 4
          clear hb HC hb0
          go_wp2_with fail
          refine (set_any (H.out.mv ((Mv.refl H.out.rep).below (belowA HB.out _))) _ _ _ _).mono ?_
          rintro e w4 ⟨r, rfl, hs⟩
          have HS := Lib.hid (Stp.pre ((Mv.refl H.out.rep).below (belowA HB.out _)) hs)
          clear hs
          go_wp2
          go_ret
          refine ⟨r, rfl, HS.out.imp fun T' hT' => ?_⟩
          unfold isChown
          rw [HG.out, if_neg (fun hh => hh rfl)]
          refine ⟨m, HM.out, ?_⟩
          rw [if_neg (HPERM.out)]
          obtain ⟨e0, _, e2, _, _, _, _, _⟩ := HI.out
          rw [e2]
          rw [← e0] at hT'
          exact hT'
        · have HPERM : Hid ((c.eff ≠ 0 ∧ ¬ (c.eff = m.owner ∧ owner = m.owner ∧ (group = c.eg ∨ group = m.group)))) := Lib.hid (by
            obtain ⟨_, _, _, e3, e4, _, _, _⟩ := HI.out
            rw [e3, e4]
            omega)
          have q0b : (c.eff != 0) = true := by simpa using q0
          have q1b : (c.eff == d3) = true := by simpa using q1
          have q2b : (owner == d3) = false := by simpa using q2
          clear q0 q1 q2
          go_enter Try.func31, Try.ntmps31
          go_wp2_with fail
          refine (HC.out _ (belowA (Below.refl _ _) _)).mono ?_
          rintro e w3 ⟨rfl, hb⟩
          have HB := Lib.hid (one_below hb)
          have hlt : w.heap.size < w3.heap.size := by have := hb.size; rw [alloc_size] at this; omega
          have hb0 := (hb.block w.heap.size (by rw [alloc_size]; omega)).trans (alloc_heap w _)
          have b1 : w3.cell? ⟨w.heap.size, 1, none⟩ = some (.int .i64 c.eff) := cell_of hb0 1
          have b4 : w3.cell? ⟨w.heap.size, 4, none⟩ = some (.int .i64 c.eg) := cell_of hb0 4
          clear hb HC hb0
          go_wp2
          go_ret
          refine ⟨2, rfl, Stp.keepB H.out (belowA HB.out _) ?_⟩
          unfold isChown
          rw [HG.out, if_neg (fun hh => hh rfl)]
          refine ⟨m, HM.out, ?_⟩
          rw [if_pos (HPERM.out)]
          exact ⟨rfl, rfl⟩
    · by_cases q0 : c.eff = 0
      · have HPERM : Hid (¬ (c.eff ≠ 0 ∧ ¬ (c.eff = m.owner ∧ owner = m.owner ∧ (group = c.eg ∨ group = m.group)))) := Lib.hid (by
          obtain ⟨_, _, _, e3, e4, _, _, _⟩ := HI.out
          rw [e3, e4]
          omega)
        have q0b : (c.eff != 0) = false := by simpa using q0
        have q1b : (c.eff == d3) = false := by simpa using q1
        clear q0 q1
        go_enter Try.func31, Try.ntmps31
        go_wp2_with fail
        refine (HC.out _ (belowA (Below.refl _ _) _)).mono ?_
        rintro e w3 ⟨rfl, hb⟩
        have HB := Lib.hid (one_below hb)
        have hlt : w.heap.size < w3.heap.size := by have := hb.size; rw [alloc_size] at this; omega
        have hb0 := (hb.block w.heap.size (by rw [alloc_size]; omega)).trans (alloc_heap w _)
        have b1 : w3.cell? ⟨w.heap.size, 1, none⟩ = some (.int .i64 c.eff) := cell_of hb0 1
        have b4 : w3.cell? ⟨w.heap.size, 4, none⟩ = some (.int .i64 c.eg) := cell_of hb0 4
        clear hb HC hb0
        go_wp2_with fail
        refine (set_any (H.out.mv ((Mv.refl H.out.rep).below (belowA HB.out _))) _ _ _ _).mono ?_
        rintro e w4 ⟨r, rfl, hs⟩
        have HS := Lib.hid (Stp.pre ((Mv.refl H.out.rep).below (belowA HB.out _)) hs)
        clear hs
        go_wp2
        go_ret
        refine ⟨r, rfl, HS.out.imp fun T' hT' => ?_⟩
        unfold isChown
        rw [HG.out, if_neg (fun hh => hh rfl)]
        refine ⟨m, HM.out, ?_⟩
        rw [if_neg (HPERM.out)]
        obtain ⟨e0, _, e2, _, _, _, _, _⟩ := HI.out
        rw [e2]
        rw [← e0] at hT'
        exact hT'
      · have HPERM : Hid ((c.eff ≠ 0 ∧ ¬ (c.eff = m.owner ∧ owner = m.owner ∧ (group = c.eg ∨ group = m.group)))) := Lib.hid (by
          obtain ⟨_, _, _, e3, e4, _, _, _⟩ := HI.out
          rw [e3, e4]
          omega)
        have q0b : (c.eff != 0) = true := by simpa using q0
        have q1b : (c.eff == d3) = false := by simpa using q1
        clear q0 q1
        go_enter Try.func31, Try.ntmps31
        go_wp2_with fail
        refine (HC.out _ (belowA (Below.refl _ _) _)).mono ?_
        rintro e w3 ⟨rfl, hb⟩
        have HB := Lib.hid (one_below hb)
        have hlt : w.heap.size < w3.heap.size := by have := hb.size; rw [alloc_size] at this; omega
        have hb0 := (hb.block w.heap.size (by rw [alloc_size]; omega)).trans (alloc_heap w _)
        have b1 : w3.cell? ⟨w.heap.size, 1, none⟩ = some (.int .i64 c.eff) := cell_of hb0 1
        have b4 : w3.cell? ⟨w.heap.size, 4, none⟩ = some (.int .i64 c.eg) := cell_of hb0 4
        clear hb HC hb0
        go_wp2
        go_ret
        refine ⟨2, rfl, Stp.keepB H.out (belowA HB.out _) ?_⟩
        unfold isChown
        rw [HG.out, if_neg (fun hh => hh rfl)]
        refine ⟨m, HM.out, ?_⟩
        rw [if_pos (HPERM.out)]
        exact ⟨rfl, rfl⟩
  · have hz1 : (r0 != 0) = true := by simpa using hz
    have HNZ := Lib.hid hz
    clear hz HD
    go_enter Try.func31, Try.ntmps31
    go_wp2_with fail
    refine (HC.out _ (belowA (Below.refl _ _) _)).mono ?_
    rintro e w3 ⟨rfl, hb⟩
    have HB := Lib.hid (one_below hb)
    clear hb HC
    go_wp2
    go_ret
    refine ⟨r0, rfl, Stp.keepB H.out (belowA HB.out _) ?_⟩
    unfold isChown
    rw [HG.out, if_pos HNZ.out]
    exact ⟨rfl, rfl⟩
end Go.Proofs.Ytafonmnfeibaiaa
namespace Go.Proofs.Ytafonmnfeibaiaa
open Go.RowKit

/-! ### walk: Remove -/
def isWRemove (T : IT.Tr) (c : Cr) (cwd : Int) (s : IT.Bytes) (dir : Bool) (r : Int) (T' : IT.Tr) : Prop :=
  match entryT T c cwd s with
  | .error e => r = e ∧ T' = T
  | .ok x => match x.to with
    | none => r = 3 ∧ T' = T
    | some j => ∃ m q, T x.dir = some m ∧ T j = some q ∧
      if (dir = true ∨ x.must = true) ∧ q.kind ≠ 1 then r = 6 ∧ T' = T
      else if dir = false ∧ q.kind = 1 then r = 7 ∧ T' = T
      else if mayN m c 2 = false then r = 4 ∧ T' = T
      else if takesB c.eff m.mode m.owner q.owner = false then r = 2 ∧ T' = T
      else IT.isRemove T x.dir x.name r T'
set_option maxRecDepth 100000 in
set_option maxHeartbeats 8000000 in
theorem wremove_err {w : World} {t : Nat} {S : Tab} {T : IT.Tr} (h : Tre w t S T) (cwd : Int) (c : Cr) (s : ByteArray) (dir : Bool) {r0 : Int} (he : entryT T c cwd (bs s) = .error r0) :
    Calls Try.prog 18 #[.pointer (some ⟨t, 0, none⟩), .int .i64 cwd, cred c, .string s, .bool dir] w fun e w' => ∃ r, e = .returned (.int .i64 r) ∧ Stp w t S (fun T' => isWRemove T c cwd (bs s) dir r T') w' := by
  have H := Lib.hid h
  have HE := Lib.hid he
  have hz1 : (r0 != 0) = true := by simpa using entry_ne he
  obtain ⟨C, hC⟩ : ∃ C, C = zeroE := ⟨_, rfl⟩
  have HC := Lib.hid (wentry_bad h cwd c s he)
  rw [← hC] at HC
  have HCS : Hid (C.size = 19) := Lib.hid (by rw [hC]; rfl)
  have HC1 : Hid (C.all (·.oneCell') = true) := Lib.hid (by rw [hC]; exact zeroE_one)
  have HCX9 : Hid (C[9]? = some (.bool false)) := Lib.hid (by rw [hC]; rfl)
  have HCX11 : Hid (C[11]? = some (.int .i64 0)) := Lib.hid (by rw [hC]; rfl)
  have HCX18 : Hid (C[18]? = some (.bool false)) := Lib.hid (by rw [hC]; rfl)
  clear h he hC
  unfold cred
  unfold ask at HC
  go_enter Try.func18, Try.ntmps18
  go_wp2_with fail
  refine (HC.out _ (belowA (belowA (Below.refl _ _) _) _)).mono ?_
  rintro e w3 ⟨rfl, hb⟩
  have HB := Lib.hid (two_below hb)
  obtain ⟨s1, s2, s3⟩ := stored_whole (w3 := w3) (Z := #[.int .i64 0, .int .i64 0, .int .i64 0, .int .i64 0, .int .i64 0, .int .i64 0, .int .i64 0, .int .i64 0, .string ⟨#[]⟩, .bool false, .int .i64 0, .int .i64 0, .int .i64 0, .int .i64 0, .int .i64 0, .int .i64 0, .int .i64 0, .int .i64 0, .bool false]) (C := C) (TY := 77) HCS.out
  have hT : (w3.alloc (.cells #[.int .i64 0, .int .i64 0, .int .i64 0, .int .i64 0, .int .i64 0, .int .i64 0, .int .i64 0, .int .i64 0, .string ⟨#[]⟩, .bool false, .int .i64 0, .int .i64 0, .int .i64 0, .int .i64 0, .int .i64 0, .int .i64 0, .int .i64 0, .int .i64 0, .bool false] 77)).there w3.heap.size 0 C.size := by rw [HCS.out]; exact there_of (alloc_heap w3 _)
  have hI : (Try.prog.info? 77).map (·.size) = some C.size := by rw [HCS.out]; rfl
  have h1C := HC1.out
  have x9 : (World.setCells (w3.alloc (.cells #[.int .i64 0, .int .i64 0, .int .i64 0, .int .i64 0, .int .i64 0, .int .i64 0, .int .i64 0, .int .i64 0, .string ⟨#[]⟩, .bool false, .int .i64 0, .int .i64 0, .int .i64 0, .int .i64 0, .int .i64 0, .int .i64 0, .int .i64 0, .int .i64 0, .bool false] 77)) w3.heap.size 0 C.toList).cell? ⟨w3.heap.size, 9, none⟩ = some (.bool false) := (cell_of s1 9).trans HCX9.out
  have x11 : (World.setCells (w3.alloc (.cells #[.int .i64 0, .int .i64 0, .int .i64 0, .int .i64 0, .int .i64 0, .int .i64 0, .int .i64 0, .int .i64 0, .string ⟨#[]⟩, .bool false, .int .i64 0, .int .i64 0, .int .i64 0, .int .i64 0, .int .i64 0, .int .i64 0, .int .i64 0, .int .i64 0, .bool false] 77)) w3.heap.size 0 C.toList).cell? ⟨w3.heap.size, 11, none⟩ = some (.int .i64 0) := (cell_of s1 11).trans HCX11.out
  have x18 : (World.setCells (w3.alloc (.cells #[.int .i64 0, .int .i64 0, .int .i64 0, .int .i64 0, .int .i64 0, .int .i64 0, .int .i64 0, .int .i64 0, .string ⟨#[]⟩, .bool false, .int .i64 0, .int .i64 0, .int .i64 0, .int .i64 0, .int .i64 0, .int .i64 0, .int .i64 0, .int .i64 0, .bool false] 77)) w3.heap.size 0 C.toList).cell? ⟨w3.heap.size, 18, none⟩ = some (.bool false) := (cell_of s1 18).trans HCX18.out
  clear hb HC
  go_wp2_with (refine wpList_store_mid rfl 77 _ _ rfl w3.heap.size 0 C rfl rfl hT hI h1C ?_; generalize World.setCells (w3.alloc (.cells #[.int .i64 0, .int .i64 0, .int .i64 0, .int .i64 0, .int .i64 0, .int .i64 0, .int .i64 0, .int .i64 0, .string ⟨#[]⟩, .bool false, .int .i64 0, .int .i64 0, .int .i64 0, .int .i64 0, .int .i64 0, .int .i64 0, .int .i64 0, .int .i64 0, .bool false] 77)) w3.heap.size 0 C.toList = W5 at s1 s2 s3 x9 x11 x18 ⊢)
  all_goals
    go_ret
    refine ⟨r0, rfl, Stp.keepB H.out (HB.out.trans (s2.mono HB.out.size)) ?_⟩
    unfold isWRemove
    rw [HE.out]
    exact ⟨rfl, rfl⟩
set_option maxRecDepth 100000 in
set_option maxHeartbeats 8000000 in
theorem wremove_none {w : World} {t : Nat} {S : Tab} {T : IT.Tr} (h : Tre w t S T) (cwd : Int) (c : Cr) (s : ByteArray) (dir : Bool) {k : Nat} {nm : IT.Bytes} {must : Bool} {m : IT.Nd} (he : entryT T c cwd (bs s) = .ok ⟨k, nm, must, none⟩) (hm : T k = some m) :
    Calls Try.prog 18 #[.pointer (some ⟨t, 0, none⟩), .int .i64 cwd, cred c, .string s, .bool dir] w fun e w' => ∃ r, e = .returned (.int .i64 r) ∧ Stp w t S (fun T' => isWRemove T c cwd (bs s) dir r T') w' := by
  have H := Lib.hid h
  have HE := Lib.hid he
  obtain ⟨d0, d1, d2, d3, d4, d5, d6, d7, _, hc⟩ := wentry_none h cwd c s he hm
  obtain ⟨C, hC⟩ : ∃ C, C = entG d0 d1 d2 d3 d4 d5 d6 d7 (tx nm) must 0 0 0 0 0 0 0 0 false := ⟨_, rfl⟩
  rw [← hC] at hc
  have HC := Lib.hid hc
  have HCS : Hid (C.size = 19) := Lib.hid (by rw [hC]; rfl)
  have HC1 : Hid (C.all (·.oneCell') = true) := Lib.hid (by rw [hC]; exact entG_one)
  have HCX9 : Hid (C[9]? = some (.bool must)) := Lib.hid (by rw [hC]; rfl)
  have HCX11 : Hid (C[11]? = some (.int .i64 0)) := Lib.hid (by rw [hC]; rfl)
  have HCX18 : Hid (C[18]? = some (.bool false)) := Lib.hid (by rw [hC]; rfl)
  clear h he hm hc hC
  unfold cred
  unfold ask at HC
  go_enter Try.func18, Try.ntmps18
  go_wp2_with fail
  refine (HC.out _ (belowA (belowA (Below.refl _ _) _) _)).mono ?_
  rintro e w3 ⟨rfl, hb⟩
  have HB := Lib.hid (two_below hb)
  obtain ⟨s1, s2, s3⟩ := stored_whole (w3 := w3) (Z := #[.int .i64 0, .int .i64 0, .int .i64 0, .int .i64 0, .int .i64 0, .int .i64 0, .int .i64 0, .int .i64 0, .string ⟨#[]⟩, .bool false, .int .i64 0, .int .i64 0, .int .i64 0, .int .i64 0, .int .i64 0, .int .i64 0, .int .i64 0, .int .i64 0, .bool false]) (C := C) (TY := 77) HCS.out
  have hT : (w3.alloc (.cells #[.int .i64 0, .int .i64 0, .int .i64 0, .int .i64 0, .int .i64 0, .int .i64 0, .int .i64 0, .int .i64 0, .string ⟨#[]⟩, .bool false, .int .i64 0, .int .i64 0, .int .i64 0, .int .i64 0, .int .i64 0, .int .i64 0, .int .i64 0, .int .i64 0, .bool false] 77)).there w3.heap.size 0 C.size := by rw [HCS.out]; exact there_of (alloc_heap w3 _)
  have hI : (Try.prog.info? 77).map (·.size) = some C.size := by rw [HCS.out]; rfl
  have h1C := HC1.out
  have x9 : (World.setCells (w3.alloc (.cells #[.int .i64 0, .int .i64 0, .int .i64 0, .int .i64 0, .int .i64 0, .int .i64 0, .int .i64 0, .int .i64 0, .string ⟨#[]⟩, .bool false, .int .i64 0, .int .i64 0, .int .i64 0, .int .i64 0, .int .i64 0, .int .i64 0, .int .i64 0, .int .i64 0, .bool false] 77)) w3.heap.size 0 C.toList).cell? ⟨w3.heap.size, 9, none⟩ = some (.bool must) := (cell_of s1 9).trans HCX9.out
  have x11 : (World.setCells (w3.alloc (.cells #[.int .i64 0, .int .i64 0, .int .i64 0, .int .i64 0, .int .i64 0, .int .i64 0, .int .i64 0, .int .i64 0, .string ⟨#[]⟩, .bool false, .int .i64 0, .int .i64 0, .int .i64 0, .int .i64 0, .int .i64 0, .int .i64 0, .int .i64 0, .int .i64 0, .bool false] 77)) w3.heap.size 0 C.toList).cell? ⟨w3.heap.size, 11, none⟩ = some (.int .i64 0) := (cell_of s1 11).trans HCX11.out
  have x18 : (World.setCells (w3.alloc (.cells #[.int .i64 0, .int .i64 0, .int .i64 0, .int .i64 0, .int .i64 0, .int .i64 0, .int .i64 0, .int .i64 0, .string ⟨#[]⟩, .bool false, .int .i64 0, .int .i64 0, .int .i64 0, .int .i64 0, .int .i64 0, .int .i64 0, .int .i64 0, .int .i64 0, .bool false] 77)) w3.heap.size 0 C.toList).cell? ⟨w3.heap.size, 18, none⟩ = some (.bool false) := (cell_of s1 18).trans HCX18.out
  clear hb HC
  go_wp2_with (refine wpList_store_mid rfl 77 _ _ rfl w3.heap.size 0 C rfl rfl hT hI h1C ?_; generalize World.setCells (w3.alloc (.cells #[.int .i64 0, .int .i64 0, .int .i64 0, .int .i64 0, .int .i64 0, .int .i64 0, .int .i64 0, .int .i64 0, .string ⟨#[]⟩, .bool false, .int .i64 0, .int .i64 0, .int .i64 0, .int .i64 0, .int .i64 0, .int .i64 0, .int .i64 0, .int .i64 0, .bool false] 77)) w3.heap.size 0 C.toList = W5 at s1 s2 s3 x9 x11 x18 ⊢)
  all_goals
    go_ret
    refine ⟨3, rfl, Stp.keepB H.out (HB.out.trans (s2.mono HB.out.size)) ?_⟩
    unfold isWRemove
    rw [HE.out]
    exact ⟨rfl, rfl⟩
set_option maxRecDepth 100000 in
set_option maxHeartbeats 8000000 in
theorem wremove_kind {w : World} {t : Nat} {S : Tab} {T : IT.Tr} (h : Tre w t S T) (cwd : Int) (c : Cr) (s : ByteArray) (dir : Bool) {k j : Nat} {nm : IT.Bytes} {must : Bool} {m q : IT.Nd} (he : entryT T c cwd (bs s) = .ok ⟨k, nm, must, some j⟩) (hm : T k = some m) (hq : T j = some q) (hk : (((dir = true ∨ must = true) ∧ q.kind ≠ 1) ∨ (dir = false ∧ q.kind = 1))) :
    Calls Try.prog 18 #[.pointer (some ⟨t, 0, none⟩), .int .i64 cwd, cred c, .string s, .bool dir] w fun e w' => ∃ r, e = .returned (.int .i64 r) ∧ Stp w t S (fun T' => isWRemove T c cwd (bs s) dir r T') w' := by
  have H := Lib.hid h
  have HE := Lib.hid he
  have HMM := Lib.hid hm
  have HQQ := Lib.hid hq
  obtain ⟨d0, d1, d2, d3, d4, d5, d6, d7, g0, g1, g2, g3, g4, g5, g6, g7, hd, hg, hc⟩ := wentry_some h cwd c s he hm hq
  obtain ⟨C, hC⟩ : ∃ C, C = entG d0 d1 d2 d3 d4 d5 d6 d7 (tx nm) must g0 g1 g2 g3 g4 g5 g6 g7 true := ⟨_, rfl⟩
  rw [← hC] at hc
  have HC := Lib.hid hc
  have HD := Lib.hid (infC_inj hd)
  have HG := Lib.hid (infC_inj hg)
  have HCE := Lib.hid hC
  have HCS : Hid (C.size = 19) := Lib.hid (by rw [hC]; rfl)
  have HC1 : Hid (C.all (·.oneCell') = true) := Lib.hid (by rw [hC]; exact entG_one)
  have HCX0 : Hid (C[0]? = some (.int .i64 d0)) := Lib.hid (by rw [hC]; rfl)
  have HCX1 : Hid (C[1]? = some (.int .i64 d1)) := Lib.hid (by rw [hC]; rfl)
  have HCX2 : Hid (C[2]? = some (.int .i64 d2)) := Lib.hid (by rw [hC]; rfl)
  have HCX3 : Hid (C[3]? = some (.int .i64 d3)) := Lib.hid (by rw [hC]; rfl)
  have HCX4 : Hid (C[4]? = some (.int .i64 d4)) := Lib.hid (by rw [hC]; rfl)
  have HCX5 : Hid (C[5]? = some (.int .i64 d5)) := Lib.hid (by rw [hC]; rfl)
  have HCX6 : Hid (C[6]? = some (.int .i64 d6)) := Lib.hid (by rw [hC]; rfl)
  have HCX7 : Hid (C[7]? = some (.int .i64 d7)) := Lib.hid (by rw [hC]; rfl)
  have HCX8 : Hid (C[8]? = some (.string (tx nm))) := Lib.hid (by rw [hC]; rfl)
  have HCX9 : Hid (C[9]? = some (.bool must)) := Lib.hid (by rw [hC]; rfl)
  have HCX11 : Hid (C[11]? = some (.int .i64 g1)) := Lib.hid (by rw [hC]; rfl)
  have HCX18 : Hid (C[18]? = some (.bool true)) := Lib.hid (by rw [hC]; rfl)
  clear h he hm hq hd hg hc hC
  have HK := Lib.hid hk
  unfold cred
  unfold ask at HC
  by_cases hg1 : q.kind = 1
  · have hx1 : (g1 == 1) = true := by have := HG.out.2.1; simpa using (this.symm.trans hg1)
    obtain rfl : dir = false := by
      rcases hk with hk | hk
      · exact absurd hg1 hk.2
      · exact hk.1
    have HG1 := Lib.hid hg1
    clear hk hg1
    go_enter Try.func18, Try.ntmps18
    go_wp2_with fail
    refine (HC.out _ (belowA (belowA (Below.refl _ _) _) _)).mono ?_
    rintro e w3 ⟨rfl, hb⟩
    have HB := Lib.hid (two_below hb)
    obtain ⟨s1, s2, s3⟩ := stored_whole (w3 := w3) (Z := #[.int .i64 0, .int .i64 0, .int .i64 0, .int .i64 0, .int .i64 0, .int .i64 0, .int .i64 0, .int .i64 0, .string ⟨#[]⟩, .bool false, .int .i64 0, .int .i64 0, .int .i64 0, .int .i64 0, .int .i64 0, .int .i64 0, .int .i64 0, .int .i64 0, .bool false]) (C := C) (TY := 77) HCS.out
    have hT : (w3.alloc (.cells #[.int .i64 0, .int .i64 0, .int .i64 0, .int .i64 0, .int .i64 0, .int .i64 0, .int .i64 0, .int .i64 0, .string ⟨#[]⟩, .bool false, .int .i64 0, .int .i64 0, .int .i64 0, .int .i64 0, .int .i64 0, .int .i64 0, .int .i64 0, .int .i64 0, .bool false] 77)).there w3.heap.size 0 C.size := by rw [HCS.out]; exact there_of (alloc_heap w3 _)
    have hI : (Try.prog.info? 77).map (·.size) = some C.size := by rw [HCS.out]; rfl
    have h1C := HC1.out
    have x9 : (World.setCells (w3.alloc (.cells #[.int .i64 0, .int .i64 0, .int .i64 0, .int .i64 0, .int .i64 0, .int .i64 0, .int .i64 0, .int .i64 0, .string ⟨#[]⟩, .bool false, .int .i64 0, .int .i64 0, .int .i64 0, .int .i64 0, .int .i64 0, .int .i64 0, .int .i64 0, .int .i64 0, .bool false] 77)) w3.heap.size 0 C.toList).cell? ⟨w3.heap.size, 9, none⟩ = some (.bool must) := (cell_of s1 9).trans HCX9.out
    have x11 : (World.setCells (w3.alloc (.cells #[.int .i64 0, .int .i64 0, .int .i64 0, .int .i64 0, .int .i64 0, .int .i64 0, .int .i64 0, .int .i64 0, .string ⟨#[]⟩, .bool false, .int .i64 0, .int .i64 0, .int .i64 0, .int .i64 0, .int .i64 0, .int .i64 0, .int .i64 0, .int .i64 0, .bool false] 77)) w3.heap.size 0 C.toList).cell? ⟨w3.heap.size, 11, none⟩ = some (.int .i64 g1) := (cell_of s1 11).trans HCX11.out
    have x18 : (World.setCells (w3.alloc (.cells #[.int .i64 0, .int .i64 0, .int .i64 0, .int .i64 0, .int .i64 0, .int .i64 0, .int .i64 0, .int .i64 0, .string ⟨#[]⟩, .bool false, .int .i64 0, .int .i64 0, .int .i64 0, .int .i64 0, .int .i64 0, .int .i64 0, .int .i64 0, .int .i64 0, .bool false] 77)) w3.heap.size 0 C.toList).cell? ⟨w3.heap.size, 18, none⟩ = some (.bool true) := (cell_of s1 18).trans HCX18.out
    clear hb HC
    cases must <;>
    · go_wp2_with (refine wpList_store_mid rfl 77 _ _ rfl w3.heap.size 0 C rfl rfl hT hI h1C ?_; generalize World.setCells (w3.alloc (.cells #[.int .i64 0, .int .i64 0, .int .i64 0, .int .i64 0, .int .i64 0, .int .i64 0, .int .i64 0, .int .i64 0, .string ⟨#[]⟩, .bool false, .int .i64 0, .int .i64 0, .int .i64 0, .int .i64 0, .int .i64 0, .int .i64 0, .int .i64 0, .int .i64 0, .bool false] 77)) w3.heap.size 0 C.toList = W5 at s1 s2 s3 x9 x11 x18 ⊢)
      go_ret
      refine ⟨7, rfl, Stp.keepB H.out (HB.out.trans (s2.mono HB.out.size)) ?_⟩
      unfold isWRemove
      rw [HE.out]
      refine ⟨m, q, HMM.out, HQQ.out, ?_⟩
      rw [if_neg (fun hh => hh.2 HG1.out), if_pos ⟨rfl, HG1.out⟩]
      exact ⟨rfl, rfl⟩
  · have hx1 : (g1 == 1) = false := by have := HG.out.2.1; rw [this] at hg1; simpa using hg1
    have hdm : dir = true ∨ must = true := by
      rcases hk with hk | hk
      · exact hk.1
      · exact absurd hk.2 hg1
    have HG1 := Lib.hid hg1
    clear hk hg1
    go_enter Try.func18, Try.ntmps18
    go_wp2_with fail
    refine (HC.out _ (belowA (belowA (Below.refl _ _) _) _)).mono ?_
    rintro e w3 ⟨rfl, hb⟩
    have HB := Lib.hid (two_below hb)
    obtain ⟨s1, s2, s3⟩ := stored_whole (w3 := w3) (Z := #[.int .i64 0, .int .i64 0, .int .i64 0, .int .i64 0, .int .i64 0, .int .i64 0, .int .i64 0, .int .i64 0, .string ⟨#[]⟩, .bool false, .int .i64 0, .int .i64 0, .int .i64 0, .int .i64 0, .int .i64 0, .int .i64 0, .int .i64 0, .int .i64 0, .bool false]) (C := C) (TY := 77) HCS.out
    have hT : (w3.alloc (.cells #[.int .i64 0, .int .i64 0, .int .i64 0, .int .i64 0, .int .i64 0, .int .i64 0, .int .i64 0, .int .i64 0, .string ⟨#[]⟩, .bool false, .int .i64 0, .int .i64 0, .int .i64 0, .int .i64 0, .int .i64 0, .int .i64 0, .int .i64 0, .int .i64 0, .bool false] 77)).there w3.heap.size 0 C.size := by rw [HCS.out]; exact there_of (alloc_heap w3 _)
    have hI : (Try.prog.info? 77).map (·.size) = some C.size := by rw [HCS.out]; rfl
    have h1C := HC1.out
    have x9 : (World.setCells (w3.alloc (.cells #[.int .i64 0, .int .i64 0, .int .i64 0, .int .i64 0, .int .i64 0, .int .i64 0, .int .i64 0, .int .i64 0, .string ⟨#[]⟩, .bool false, .int .i64 0, .int .i64 0, .int .i64 0, .int .i64 0, .int .i64 0, .int .i64 0, .int .i64 0, .int .i64 0, .bool false] 77)) w3.heap.size 0 C.toList).cell? ⟨w3.heap.size, 9, none⟩ = some (.bool must) := (cell_of s1 9).trans HCX9.out
    have x11 : (World.setCells (w3.alloc (.cells #[.int .i64 0, .int .i64 0, .int .i64 0, .int .i64 0, .int .i64 0, .int .i64 0, .int .i64 0, .int .i64 0, .string ⟨#[]⟩, .bool false, .int .i64 0, .int .i64 0, .int .i64 0, .int .i64 0, .int .i64 0, .int .i64 0, .int .i64 0, .int .i64 0, .bool false] 77)) w3.heap.size 0 C.toList).cell? ⟨w3.heap.size, 11, none⟩ = some (.int .i64 g1) := (cell_of s1 11).trans HCX11.out
    have x18 : (World.setCells (w3.alloc (.cells #[.int .i64 0, .int .i64 0, .int .i64 0, .int .i64 0, .int .i64 0, .int .i64 0, .int .i64 0, .int .i64 0, .string ⟨#[]⟩, .bool false, .int .i64 0, .int .i64 0, .int .i64 0, .int .i64 0, .int .i64 0, .int .i64 0, .int .i64 0, .int .i64 0, .bool false] 77)) w3.heap.size 0 C.toList).cell? ⟨w3.heap.size, 18, none⟩ = some (.bool true) := (cell_of s1 18).trans HCX18.out
    clear hb HC
    cases dir <;> cases must <;> first
    | (simp at hdm; done)
    | (clear hdm
       go_wp2_with (refine wpList_store_mid rfl 77 _ _ rfl w3.heap.size 0 C rfl rfl hT hI h1C ?_; generalize World.setCells (w3.alloc (.cells #[.int .i64 0, .int .i64 0, .int .i64 0, .int .i64 0, .int .i64 0, .int .i64 0, .int .i64 0, .int .i64 0, .string ⟨#[]⟩, .bool false, .int .i64 0, .int .i64 0, .int .i64 0, .int .i64 0, .int .i64 0, .int .i64 0, .int .i64 0, .int .i64 0, .bool false] 77)) w3.heap.size 0 C.toList = W5 at s1 s2 s3 x9 x11 x18 ⊢)
       go_ret
       refine ⟨6, rfl, Stp.keepB H.out (HB.out.trans (s2.mono HB.out.size)) ?_⟩
       unfold isWRemove
       rw [HE.out]
       refine ⟨m, q, HMM.out, HQQ.out, ?_⟩
       rw [if_pos ⟨by simp, HG1.out⟩]
       exact ⟨rfl, rfl⟩)
set_option maxRecDepth 100000 in
set_option maxHeartbeats 8000000 in
theorem wremove_go {w : World} {t : Nat} {S : Tab} {T : IT.Tr} (h : Tre w t S T) (cwd : Int) (c : Cr) (s : ByteArray) (dir : Bool) {k j : Nat} {nm : IT.Bytes} {must : Bool} {m q : IT.Nd} (he : entryT T c cwd (bs s) = .ok ⟨k, nm, must, some j⟩) (hm : T k = some m) (hq : T j = some q) (hk : ¬ (((dir = true ∨ must = true) ∧ q.kind ≠ 1) ∨ (dir = false ∧ q.kind = 1))) :
    Calls Try.prog 18 #[.pointer (some ⟨t, 0, none⟩), .int .i64 cwd, cred c, .string s, .bool dir] w fun e w' => ∃ r, e = .returned (.int .i64 r) ∧ Stp w t S (fun T' => isWRemove T c cwd (bs s) dir r T') w' := by
  have H := Lib.hid h
  have HE := Lib.hid he
  have HMM := Lib.hid hm
  have HQQ := Lib.hid hq
  obtain ⟨d0, d1, d2, d3, d4, d5, d6, d7, g0, g1, g2, g3, g4, g5, g6, g7, hd, hg, hc⟩ := wentry_some h cwd c s he hm hq
  obtain ⟨C, hC⟩ : ∃ C, C = entG d0 d1 d2 d3 d4 d5 d6 d7 (tx nm) must g0 g1 g2 g3 g4 g5 g6 g7 true := ⟨_, rfl⟩
  rw [← hC] at hc
  have HC := Lib.hid hc
  have HD := Lib.hid (infC_inj hd)
  have HG := Lib.hid (infC_inj hg)
  have HCE := Lib.hid hC
  have HCS : Hid (C.size = 19) := Lib.hid (by rw [hC]; rfl)
  have HC1 : Hid (C.all (·.oneCell') = true) := Lib.hid (by rw [hC]; exact entG_one)
  have HCX0 : Hid (C[0]? = some (.int .i64 d0)) := Lib.hid (by rw [hC]; rfl)
  have HCX1 : Hid (C[1]? = some (.int .i64 d1)) := Lib.hid (by rw [hC]; rfl)
  have HCX2 : Hid (C[2]? = some (.int .i64 d2)) := Lib.hid (by rw [hC]; rfl)
  have HCX3 : Hid (C[3]? = some (.int .i64 d3)) := Lib.hid (by rw [hC]; rfl)
  have HCX4 : Hid (C[4]? = some (.int .i64 d4)) := Lib.hid (by rw [hC]; rfl)
  have HCX5 : Hid (C[5]? = some (.int .i64 d5)) := Lib.hid (by rw [hC]; rfl)
  have HCX6 : Hid (C[6]? = some (.int .i64 d6)) := Lib.hid (by rw [hC]; rfl)
  have HCX7 : Hid (C[7]? = some (.int .i64 d7)) := Lib.hid (by rw [hC]; rfl)
  have HCX8 : Hid (C[8]? = some (.string (tx nm))) := Lib.hid (by rw [hC]; rfl)
  have HCX9 : Hid (C[9]? = some (.bool must)) := Lib.hid (by rw [hC]; rfl)
  have HCX11 : Hid (C[11]? = some (.int .i64 g1)) := Lib.hid (by rw [hC]; rfl)
  have HCX18 : Hid (C[18]? = some (.bool true)) := Lib.hid (by rw [hC]; rfl)
  clear h he hm hq hd hg hc hC
  have HK := Lib.hid hk
  have HM : Hid (∀ W', Calls Try.prog 42 #[ask t cwd c, infoV d0 d1 d2 d3 d4 d5 d6 d7, .int .i64 2] W' fun e w' => e = .returned (.bool (mayN m c 2)) ∧ Below W'.heap.size W' w') := Lib.hid (fun W' => by
    have hh := wmay_any t cwd c d0 d1 d2 d3 d4 d5 d6 d7 2 W'
    obtain ⟨e0, e1, e2, e3, e4, _, _, _⟩ := HD.out
    rw [← e1, ← e2, ← e3, ← e4] at hh ⊢
    exact hh)
  have HTK : Hid (∀ W', Calls Try.prog 46 #[ask t cwd c, .agg C] W' fun e w' => e = .returned (.bool (takesB c.eff m.mode m.owner q.owner)) ∧ Below W'.heap.size W' w') := Lib.hid (fun W' => by
    have hh := takes_any t cwd c d0 d1 d2 d3 d4 d5 d6 d7 (tx nm) must g0 g1 g2 g3 g4 g5 g6 g7 true W'
    rw [← HCE.out] at hh
    obtain ⟨e0, e1, e2, e3, e4, _, _, _⟩ := HD.out
    obtain ⟨_, _, _, i3, _, _, _, _⟩ := HG.out
    rw [e2, e3, i3]
    exact hh)
  generalize hq1 : mayN m c 2 = q1 at *
  generalize hq2 : takesB c.eff m.mode m.owner q.owner = q2 at *
  have HQ1 := Lib.hid hq1
  have HQ2 := Lib.hid hq2
  clear hq1 hq2
  unfold ask infoV at HM
  unfold ask at HTK
  unfold cred
  unfold ask at HC
  have HX : Hid ((g1 == 1) = decide (q.kind = 1)) := Lib.hid (by rw [HG.out.2.1]; rfl)
  have hx1 := HX.out
  generalize hkd : decide (q.kind = 1) = kd at *
  have HKD : Hid (kd = decide (q.kind = 1)) := Lib.hid hkd.symm
  have hok : (dir = false ∧ must = false ∧ kd = false) ∨ (dir = true ∧ kd = true) := by
    subst hkd
    by_cases h1 : q.kind = 1 <;> cases dir <;> cases must <;> simp_all
  clear hk hkd HX
  rcases hok with ⟨rfl, rfl, rfl⟩ | ⟨rfl, rfl⟩
  · go_enter Try.func18, Try.ntmps18
    go_wp2_with fail
    refine (HC.out _ (belowA (belowA (Below.refl _ _) _) _)).mono ?_
    rintro e w3 ⟨rfl, hb⟩
    have HB := Lib.hid (two_below hb)
    rw [alloc_size, alloc_size] at hb
    obtain ⟨_, b1, hlt, _⟩ := two_blocks hb
    have hlt2 : w.heap.size + 1 < w3.heap.size := hlt
    obtain ⟨s1, s2, s3⟩ := stored_whole (w3 := w3) (Z := #[.int .i64 0, .int .i64 0, .int .i64 0, .int .i64 0, .int .i64 0, .int .i64 0, .int .i64 0, .int .i64 0, .string ⟨#[]⟩, .bool false, .int .i64 0, .int .i64 0, .int .i64 0, .int .i64 0, .int .i64 0, .int .i64 0, .int .i64 0, .int .i64 0, .bool false]) (C := C) (TY := 77) HCS.out
    have hT : (w3.alloc (.cells #[.int .i64 0, .int .i64 0, .int .i64 0, .int .i64 0, .int .i64 0, .int .i64 0, .int .i64 0, .int .i64 0, .string ⟨#[]⟩, .bool false, .int .i64 0, .int .i64 0, .int .i64 0, .int .i64 0, .int .i64 0, .int .i64 0, .int .i64 0, .int .i64 0, .bool false] 77)).there w3.heap.size 0 C.size := by rw [HCS.out]; exact there_of (alloc_heap w3 _)
    have hI : (Try.prog.info? 77).map (·.size) = some C.size := by rw [HCS.out]; rfl
    have h1C := HC1.out
    have x0 : (World.setCells (w3.alloc (.cells #[.int .i64 0, .int .i64 0, .int .i64 0, .int .i64 0, .int .i64 0, .int .i64 0, .int .i64 0, .int .i64 0, .string ⟨#[]⟩, .bool false, .int .i64 0, .int .i64 0, .int .i64 0, .int .i64 0, .int .i64 0, .int .i64 0, .int .i64 0, .int .i64 0, .bool false] 77)) w3.heap.size 0 C.toList).cell? ⟨w3.heap.size, 0, none⟩ = some (.int .i64 d0) := (cell_of s1 0).trans HCX0.out
    have x1 : (World.setCells (w3.alloc (.cells #[.int .i64 0, .int .i64 0, .int .i64 0, .int .i64 0, .int .i64 0, .int .i64 0, .int .i64 0, .int .i64 0, .string ⟨#[]⟩, .bool false, .int .i64 0, .int .i64 0, .int .i64 0, .int .i64 0, .int .i64 0, .int .i64 0, .int .i64 0, .int .i64 0, .bool false] 77)) w3.heap.size 0 C.toList).cell? ⟨w3.heap.size, 1, none⟩ = some (.int .i64 d1) := (cell_of s1 1).trans HCX1.out
    have x2 : (World.setCells (w3.alloc (.cells #[.int .i64 0, .int .i64 0, .int .i64 0, .int .i64 0, .int .i64 0, .int .i64 0, .int .i64 0, .int .i64 0, .string ⟨#[]⟩, .bool false, .int .i64 0, .int .i64 0, .int .i64 0, .int .i64 0, .int .i64 0, .int .i64 0, .int .i64 0, .int .i64 0, .bool false] 77)) w3.heap.size 0 C.toList).cell? ⟨w3.heap.size, 2, none⟩ = some (.int .i64 d2) := (cell_of s1 2).trans HCX2.out
    have x3 : (World.setCells (w3.alloc (.cells #[.int .i64 0, .int .i64 0, .int .i64 0, .int .i64 0, .int .i64 0, .int .i64 0, .int .i64 0, .int .i64 0, .string ⟨#[]⟩, .bool false, .int .i64 0, .int .i64 0, .int .i64 0, .int .i64 0, .int .i64 0, .int .i64 0, .int .i64 0, .int .i64 0, .bool false] 77)) w3.heap.size 0 C.toList).cell? ⟨w3.heap.size, 3, none⟩ = some (.int .i64 d3) := (cell_of s1 3).trans HCX3.out
    have x4 : (World.setCells (w3.alloc (.cells #[.int .i64 0, .int .i64 0, .int .i64 0, .int .i64 0, .int .i64 0, .int .i64 0, .int .i64 0, .int .i64 0, .string ⟨#[]⟩, .bool false, .int .i64 0, .int .i64 0, .int .i64 0, .int .i64 0, .int .i64 0, .int .i64 0, .int .i64 0, .int .i64 0, .bool false] 77)) w3.heap.size 0 C.toList).cell? ⟨w3.heap.size, 4, none⟩ = some (.int .i64 d4) := (cell_of s1 4).trans HCX4.out
    have x5 : (World.setCells (w3.alloc (.cells #[.int .i64 0, .int .i64 0, .int .i64 0, .int .i64 0, .int .i64 0, .int .i64 0, .int .i64 0, .int .i64 0, .string ⟨#[]⟩, .bool false, .int .i64 0, .int .i64 0, .int .i64 0, .int .i64 0, .int .i64 0, .int .i64 0, .int .i64 0, .int .i64 0, .bool false] 77)) w3.heap.size 0 C.toList).cell? ⟨w3.heap.size, 5, none⟩ = some (.int .i64 d5) := (cell_of s1 5).trans HCX5.out
    have x6 : (World.setCells (w3.alloc (.cells #[.int .i64 0, .int .i64 0, .int .i64 0, .int .i64 0, .int .i64 0, .int .i64 0, .int .i64 0, .int .i64 0, .string ⟨#[]⟩, .bool false, .int .i64 0, .int .i64 0, .int .i64 0, .int .i64 0, .int .i64 0, .int .i64 0, .int .i64 0, .int .i64 0, .bool false] 77)) w3.heap.size 0 C.toList).cell? ⟨w3.heap.size, 6, none⟩ = some (.int .i64 d6) := (cell_of s1 6).trans HCX6.out
    have x7 : (World.setCells (w3.alloc (.cells #[.int .i64 0, .int .i64 0, .int .i64 0, .int .i64 0, .int .i64 0, .int .i64 0, .int .i64 0, .int .i64 0, .string ⟨#[]⟩, .bool false, .int .i64 0, .int .i64 0, .int .i64 0, .int .i64 0, .int .i64 0, .int .i64 0, .int .i64 0, .int .i64 0, .bool false] 77)) w3.heap.size 0 C.toList).cell? ⟨w3.heap.size, 7, none⟩ = some (.int .i64 d7) := (cell_of s1 7).trans HCX7.out
    have x8 : (World.setCells (w3.alloc (.cells #[.int .i64 0, .int .i64 0, .int .i64 0, .int .i64 0, .int .i64 0, .int .i64 0, .int .i64 0, .int .i64 0, .string ⟨#[]⟩, .bool false, .int .i64 0, .int .i64 0, .int .i64 0, .int .i64 0, .int .i64 0, .int .i64 0, .int .i64 0, .int .i64 0, .bool false] 77)) w3.heap.size 0 C.toList).cell? ⟨w3.heap.size, 8, none⟩ = some (.string (tx nm)) := (cell_of s1 8).trans HCX8.out
    have x9 : (World.setCells (w3.alloc (.cells #[.int .i64 0, .int .i64 0, .int .i64 0, .int .i64 0, .int .i64 0, .int .i64 0, .int .i64 0, .int .i64 0, .string ⟨#[]⟩, .bool false, .int .i64 0, .int .i64 0, .int .i64 0, .int .i64 0, .int .i64 0, .int .i64 0, .int .i64 0, .int .i64 0, .bool false] 77)) w3.heap.size 0 C.toList).cell? ⟨w3.heap.size, 9, none⟩ = some (.bool false) := (cell_of s1 9).trans HCX9.out
    have x11 : (World.setCells (w3.alloc (.cells #[.int .i64 0, .int .i64 0, .int .i64 0, .int .i64 0, .int .i64 0, .int .i64 0, .int .i64 0, .int .i64 0, .string ⟨#[]⟩, .bool false, .int .i64 0, .int .i64 0, .int .i64 0, .int .i64 0, .int .i64 0, .int .i64 0, .int .i64 0, .int .i64 0, .bool false] 77)) w3.heap.size 0 C.toList).cell? ⟨w3.heap.size, 11, none⟩ = some (.int .i64 g1) := (cell_of s1 11).trans HCX11.out
    have x18 : (World.setCells (w3.alloc (.cells #[.int .i64 0, .int .i64 0, .int .i64 0, .int .i64 0, .int .i64 0, .int .i64 0, .int .i64 0, .int .i64 0, .string ⟨#[]⟩, .bool false, .int .i64 0, .int .i64 0, .int .i64 0, .int .i64 0, .int .i64 0, .int .i64 0, .int .i64 0, .int .i64 0, .bool false] 77)) w3.heap.size 0 C.toList).cell? ⟨w3.heap.size, 18, none⟩ = some (.bool true) := (cell_of s1 18).trans HCX18.out
    have hB1 := (s2.block _ hlt2).trans b1
    have hl5 : w.heap.size + 1 < (World.setCells (w3.alloc (.cells #[.int .i64 0, .int .i64 0, .int .i64 0, .int .i64 0, .int .i64 0, .int .i64 0, .int .i64 0, .int .i64 0, .string ⟨#[]⟩, .bool false, .int .i64 0, .int .i64 0, .int .i64 0, .int .i64 0, .int .i64 0, .int .i64 0, .int .i64 0, .int .i64 0, .bool false] 77)) w3.heap.size 0 C.toList).heap.size := by omega
    have a0 : (World.setCells (w3.alloc (.cells #[.int .i64 0, .int .i64 0, .int .i64 0, .int .i64 0, .int .i64 0, .int .i64 0, .int .i64 0, .int .i64 0, .string ⟨#[]⟩, .bool false, .int .i64 0, .int .i64 0, .int .i64 0, .int .i64 0, .int .i64 0, .int .i64 0, .int .i64 0, .int .i64 0, .bool false] 77)) w3.heap.size 0 C.toList).cell? ⟨w.heap.size + 1, 0, none⟩ = some (.pointer (some ⟨t, 0, none⟩)) := cell_of hB1 0
    have a1 : (World.setCells (w3.alloc (.cells #[.int .i64 0, .int .i64 0, .int .i64 0, .int .i64 0, .int .i64 0, .int .i64 0, .int .i64 0, .int .i64 0, .string ⟨#[]⟩, .bool false, .int .i64 0, .int .i64 0, .int .i64 0, .int .i64 0, .int .i64 0, .int .i64 0, .int .i64 0, .int .i64 0, .bool false] 77)) w3.heap.size 0 C.toList).cell? ⟨w.heap.size + 1, 1, none⟩ = some (.int .i64 cwd) := cell_of hB1 1
    have a2 : (World.setCells (w3.alloc (.cells #[.int .i64 0, .int .i64 0, .int .i64 0, .int .i64 0, .int .i64 0, .int .i64 0, .int .i64 0, .int .i64 0, .string ⟨#[]⟩, .bool false, .int .i64 0, .int .i64 0, .int .i64 0, .int .i64 0, .int .i64 0, .int .i64 0, .int .i64 0, .int .i64 0, .bool false] 77)) w3.heap.size 0 C.toList).cell? ⟨w.heap.size + 1, 2, none⟩ = some (.int .i64 c.real) := cell_of hB1 2
    have a3 : (World.setCells (w3.alloc (.cells #[.int .i64 0, .int .i64 0, .int .i64 0, .int .i64 0, .int .i64 0, .int .i64 0, .int .i64 0, .int .i64 0, .string ⟨#[]⟩, .bool false, .int .i64 0, .int .i64 0, .int .i64 0, .int .i64 0, .int .i64 0, .int .i64 0, .int .i64 0, .int .i64 0, .bool false] 77)) w3.heap.size 0 C.toList).cell? ⟨w.heap.size + 1, 3, none⟩ = some (.int .i64 c.eff) := cell_of hB1 3
    have a4 : (World.setCells (w3.alloc (.cells #[.int .i64 0, .int .i64 0, .int .i64 0, .int .i64 0, .int .i64 0, .int .i64 0, .int .i64 0, .int .i64 0, .string ⟨#[]⟩, .bool false, .int .i64 0, .int .i64 0, .int .i64 0, .int .i64 0, .int .i64 0, .int .i64 0, .int .i64 0, .int .i64 0, .bool false] 77)) w3.heap.size 0 C.toList).cell? ⟨w.heap.size + 1, 4, none⟩ = some (.int .i64 c.saved) := cell_of hB1 4
    have a5 : (World.setCells (w3.alloc (.cells #[.int .i64 0, .int .i64 0, .int .i64 0, .int .i64 0, .int .i64 0, .int .i64 0, .int .i64 0, .int .i64 0, .string ⟨#[]⟩, .bool false, .int .i64 0, .int .i64 0, .int .i64 0, .int .i64 0, .int .i64 0, .int .i64 0, .int .i64 0, .int .i64 0, .bool false] 77)) w3.heap.size 0 C.toList).cell? ⟨w.heap.size + 1, 5, none⟩ = some (.int .i64 c.group) := cell_of hB1 5
    have a6 : (World.setCells (w3.alloc (.cells #[.int .i64 0, .int .i64 0, .int .i64 0, .int .i64 0, .int .i64 0, .int .i64 0, .int .i64 0, .int .i64 0, .string ⟨#[]⟩, .bool false, .int .i64 0, .int .i64 0, .int .i64 0, .int .i64 0, .int .i64 0, .int .i64 0, .int .i64 0, .int .i64 0, .bool false] 77)) w3.heap.size 0 C.toList).cell? ⟨w.heap.size + 1, 6, none⟩ = some (.int .i64 c.eg) := cell_of hB1 6
    clear b1
    clear hb HC hlt
    go_wp2_with (refine wpList_store_mid rfl 77 _ _ rfl w3.heap.size 0 C rfl rfl hT hI h1C ?_; generalize World.setCells (w3.alloc (.cells #[.int .i64 0, .int .i64 0, .int .i64 0, .int .i64 0, .int .i64 0, .int .i64 0, .int .i64 0, .int .i64 0, .string ⟨#[]⟩, .bool false, .int .i64 0, .int .i64 0, .int .i64 0, .int .i64 0, .int .i64 0, .int .i64 0, .int .i64 0, .int .i64 0, .bool false] 77)) w3.heap.size 0 C.toList = W5 at s1 s2 s3 x0 x1 x2 x3 x4 x5 x6 x7 x8 x9 x11 x18 hB1 hl5 a0 a1 a2 a3 a4 a5 a6 ⊢)
    refine (HM.out _).mono ?_
    rintro e w6 ⟨rfl, hb6⟩
    have s6 := (hb6.block _ (lt_of_heap s1)).trans s1
    have s7 := (hb6.block _ hl5).trans hB1
    have HB5 : Hid (Below w.heap.size w W5) := Lib.hid (HB.out.trans (s2.mono HB.out.size))
    have HB6 : Hid (Below w.heap.size w w6) := Lib.hid (HB5.out.trans (hb6.mono HB5.out.size))
    clear x0 x1 x2 x3 x4 x5 x6 x7 x8 x9 x11 x18 a0 a1 a2 a3 a4 a5 a6 s1 s2 s3 hT h1C hB1 hl5 hlt2
    cases q1 with
    | false =>
      clear s6 s7 hb6
      go_wp2
      go_ret
      refine ⟨4, rfl, Stp.keepB H.out HB6.out ?_⟩
      unfold isWRemove
      rw [HE.out]
      refine ⟨m, q, HMM.out, HQQ.out, ?_⟩
      have hk0 : q.kind ≠ 1 := by simpa using HKD.out
      rw [if_neg (by simp), if_neg (fun hh => hk0 hh.2)]
      rw [if_pos HQ1.out]
      exact ⟨rfl, rfl⟩
    | true =>
      have l6 := range_of s6
      have hl6 : w.heap.size + 1 < w6.heap.size := lt_of_heap s7
      have hl7 : w3.heap.size < w6.heap.size := lt_of_heap s6
      have b0 : w6.cell? ⟨w.heap.size + 1, 0, none⟩ = some (.pointer (some ⟨t, 0, none⟩)) := cell_of s7 0
      have b1 : w6.cell? ⟨w.heap.size + 1, 1, none⟩ = some (.int .i64 cwd) := cell_of s7 1
      have b2 : w6.cell? ⟨w.heap.size + 1, 2, none⟩ = some (.int .i64 c.real) := cell_of s7 2
      have b3 : w6.cell? ⟨w.heap.size + 1, 3, none⟩ = some (.int .i64 c.eff) := cell_of s7 3
      have b4 : w6.cell? ⟨w.heap.size + 1, 4, none⟩ = some (.int .i64 c.saved) := cell_of s7 4
      have b5 : w6.cell? ⟨w.heap.size + 1, 5, none⟩ = some (.int .i64 c.group) := cell_of s7 5
      have b6 : w6.cell? ⟨w.heap.size + 1, 6, none⟩ = some (.int .i64 c.eg) := cell_of s7 6
      have S6 := Lib.hid s6
      clear s7 s6 hb6
      go_wp2_with (refine wpList_load_mid rfl 77 _ rfl w3.heap.size 0 rfl C.toList _ l6 rfl rfl hI ?_)
      refine (HTK.out _).mono ?_
      rintro e w8 ⟨rfl, hb8⟩
      have HB8 : Hid (Below w.heap.size w w8) := Lib.hid (HB6.out.trans (hb8.mono HB6.out.size))
      have s8 := (hb8.block _ hl7).trans S6.out
      clear l6 b0 b1 b2 b3 b4 b5 b6
      cases q2 with
      | false =>
        clear s8 hb8
        go_wp2
        go_ret
        refine ⟨2, rfl, Stp.keepB H.out HB8.out ?_⟩
        unfold isWRemove
        rw [HE.out]
        refine ⟨m, q, HMM.out, HQQ.out, ?_⟩
        have hk0 : q.kind ≠ 1 := by simpa using HKD.out
        rw [if_neg (by simp), if_neg (fun hh => hk0 hh.2)]
        rw [if_neg (by rw [HQ1.out]; decide), if_pos HQ2.out]
        exact ⟨rfl, rfl⟩
      | true =>
        have y0 : w8.cell? ⟨w3.heap.size, 0, none⟩ = some (.int .i64 d0) := (cell_of s8 0).trans HCX0.out
        have y8 : w8.cell? ⟨w3.heap.size, 8, none⟩ = some (.string (tx nm)) := (cell_of s8 8).trans HCX8.out
        clear s8 hb8
        go_wp2_with fail
        refine (remove_any (H.out.mv ((Mv.refl H.out.rep).below HB8.out)) d0 (tx nm)).mono ?_
        rintro e w9 ⟨r, rfl, hs⟩
        have HS := Lib.hid (Stp.pre ((Mv.refl H.out.rep).below HB8.out) hs)
        clear hs
        go_wp2
        go_ret
        refine ⟨r, rfl, HS.out.imp fun T' hT' => ?_⟩
        unfold isWRemove
        rw [HE.out]
        refine ⟨m, q, HMM.out, HQQ.out, ?_⟩
        have hk0 : q.kind ≠ 1 := by simpa using HKD.out
        rw [if_neg (by simp), if_neg (fun hh => hk0 hh.2)]
        rw [if_neg (by rw [HQ1.out]; decide), if_neg (by rw [HQ2.out]; decide)]
        rw [← HD.out.1, bs_tx] at hT'
        exact hT'
  · cases must
    · go_enter Try.func18, Try.ntmps18
      go_wp2_with fail
      refine (HC.out _ (belowA (belowA (Below.refl _ _) _) _)).mono ?_
      rintro e w3 ⟨rfl, hb⟩
      have HB := Lib.hid (two_below hb)
      rw [alloc_size, alloc_size] at hb
      obtain ⟨_, b1, hlt, _⟩ := two_blocks hb
      have hlt2 : w.heap.size + 1 < w3.heap.size := hlt
      obtain ⟨s1, s2, s3⟩ := stored_whole (w3 := w3) (Z := #[.int .i64 0, .int .i64 0, .int .i64 0, .int .i64 0, .int .i64 0, .int .i64 0, .int .i64 0, .int .i64 0, .string ⟨#[]⟩, .bool false, .int .i64 0, .int .i64 0, .int .i64 0, .int .i64 0, .int .i64 0, .int .i64 0, .int .i64 0, .int .i64 0, .bool false]) (C := C) (TY := 77) HCS.out
      have hT : (w3.alloc (.cells #[.int .i64 0, .int .i64 0, .int .i64 0, .int .i64 0, .int .i64 0, .int .i64 0, .int .i64 0, .int .i64 0, .string ⟨#[]⟩, .bool false, .int .i64 0, .int .i64 0, .int .i64 0, .int .i64 0, .int .i64 0, .int .i64 0, .int .i64 0, .int .i64 0, .bool false] 77)).there w3.heap.size 0 C.size := by rw [HCS.out]; exact there_of (alloc_heap w3 _)
      have hI : (Try.prog.info? 77).map (·.size) = some C.size := by rw [HCS.out]; rfl
      have h1C := HC1.out
      have x0 : (World.setCells (w3.alloc (.cells #[.int .i64 0, .int .i64 0, .int .i64 0, .int .i64 0, .int .i64 0, .int .i64 0, .int .i64 0, .int .i64 0, .string ⟨#[]⟩, .bool false, .int .i64 0, .int .i64 0, .int .i64 0, .int .i64 0, .int .i64 0, .int .i64 0, .int .i64 0, .int .i64 0, .bool false] 77)) w3.heap.size 0 C.toList).cell? ⟨w3.heap.size, 0, none⟩ = some (.int .i64 d0) := (cell_of s1 0).trans HCX0.out
      have x1 : (World.setCells (w3.alloc (.cells #[.int .i64 0, .int .i64 0, .int .i64 0, .int .i64 0, .int .i64 0, .int .i64 0, .int .i64 0, .int .i64 0, .string ⟨#[]⟩, .bool false, .int .i64 0, .int .i64 0, .int .i64 0, .int .i64 0, .int .i64 0, .int .i64 0, .int .i64 0, .int .i64 0, .bool false] 77)) w3.heap.size 0 C.toList).cell? ⟨w3.heap.size, 1, none⟩ = some (.int .i64 d1) := (cell_of s1 1).trans HCX1.out
      have x2 : (World.setCells (w3.alloc (.cells #[.int .i64 0, .int .i64 0, .int .i64 0, .int .i64 0, .int .i64 0, .int .i64 0, .int .i64 0, .int .i64 0, .string ⟨#[]⟩, .bool false, .int .i64 0, .int .i64 0, .int .i64 0, .int .i64 0, .int .i64 0, .int .i64 0, .int .i64 0, .int .i64 0, .bool false] 77)) w3.heap.size 0 C.toList).cell? ⟨w3.heap.size, 2, none⟩ = some (.int .i64 d2) := (cell_of s1 2).trans HCX2.out
      have x3 : (World.setCells (w3.alloc (.cells #[.int .i64 0, .int .i64 0, .int .i64 0, .int .i64 0, .int .i64 0, .int .i64 0, .int .i64 0, .int .i64 0, .string ⟨#[]⟩, .bool false, .int .i64 0, .int .i64 0, .int .i64 0, .int .i64 0, .int .i64 0, .int .i64 0, .int .i64 0, .int .i64 0, .bool false] 77)) w3.heap.size 0 C.toList).cell? ⟨w3.heap.size, 3, none⟩ = some (.int .i64 d3) := (cell_of s1 3).trans HCX3.out
      have x4 : (World.setCells (w3.alloc (.cells #[.int .i64 0, .int .i64 0, .int .i64 0, .int .i64 0, .int .i64 0, .int .i64 0, .int .i64 0, .int .i64 0, .string ⟨#[]⟩, .bool false, .int .i64 0, .int .i64 0, .int .i64 0, .int .i64 0, .int .i64 0, .int .i64 0, .int .i64 0, .int .i64 0, .bool false] 77)) w3.heap.size 0 C.toList).cell? ⟨w3.heap.size, 4, none⟩ = some (.int .i64 d4) := (cell_of s1 4).trans HCX4.out
      have x5 : (World.setCells (w3.alloc (.cells #[.int .i64 0, .int .i64 0, .int .i64 0, .int .i64 0, .int .i64 0, .int .i64 0, .int .i64 0, .int .i64 0, .string ⟨#[]⟩, .bool false, .int .i64 0, .int .i64 0, .int .i64 0, .int .i64 0, .int .i64 0, .int .i64 0, .int .i64 0, .int .i64 0, .bool false] 77)) w3.heap.size 0 C.toList).cell? ⟨w3.heap.size, 5, none⟩ = some (.int .i64 d5) := (cell_of s1 5).trans HCX5.out
      have x6 : (World.setCells (w3.alloc (.cells #[.int .i64 0, .int .i64 0, .int .i64 0, .int .i64 0, .int .i64 0, .int .i64 0, .int .i64 0, .int .i64 0, .string ⟨#[]⟩, .bool false, .int .i64 0, .int .i64 0, .int .i64 0, .int .i64 0, .int .i64 0, .int .i64 0, .int .i64 0, .int .i64 0, .bool false] 77)) w3.heap.size 0 C.toList).cell? ⟨w3.heap.size, 6, none⟩ = some (.int .i64 d6) := (cell_of s1 6).trans HCX6.out
      have x7 : (World.setCells (w3.alloc (.cells #[.int .i64 0, .int .i64 0, .int .i64 0, .int .i64 0, .int .i64 0, .int .i64 0, .int .i64 0, .int .i64 0, .string ⟨#[]⟩, .bool false, .int .i64 0, .int .i64 0, .int .i64 0, .int .i64 0, .int .i64 0, .int .i64 0, .int .i64 0, .int .i64 0, .bool false] 77)) w3.heap.size 0 C.toList).cell? ⟨w3.heap.size, 7, none⟩ = some (.int .i64 d7) := (cell_of s1 7).trans HCX7.out
      have x8 : (World.setCells (w3.alloc (.cells #[.int .i64 0, .int .i64 0, .int .i64 0, .int .i64 0, .int .i64 0, .int .i64 0, .int .i64 0, .int .i64 0, .string ⟨#[]⟩, .bool false, .int .i64 0, .int .i64 0, .int .i64 0, .int .i64 0, .int .i64 0, .int .i64 0, .int .i64 0, .int .i64 0, .bool false] 77)) w3.heap.size 0 C.toList).cell? ⟨w3.heap.size, 8, none⟩ = some (.string (tx nm)) := (cell_of s1 8).trans HCX8.out
      have x9 : (World.setCells (w3.alloc (.cells #[.int .i64 0, .int .i64 0, .int .i64 0, .int .i64 0, .int .i64 0, .int .i64 0, .int .i64 0, .int .i64 0, .string ⟨#[]⟩, .bool false, .int .i64 0, .int .i64 0, .int .i64 0, .int .i64 0, .int .i64 0, .int .i64 0, .int .i64 0, .int .i64 0, .bool false] 77)) w3.heap.size 0 C.toList).cell? ⟨w3.heap.size, 9, none⟩ = some (.bool false) := (cell_of s1 9).trans HCX9.out
      have x11 : (World.setCells (w3.alloc (.cells #[.int .i64 0, .int .i64 0, .int .i64 0, .int .i64 0, .int .i64 0, .int .i64 0, .int .i64 0, .int .i64 0, .string ⟨#[]⟩, .bool false, .int .i64 0, .int .i64 0, .int .i64 0, .int .i64 0, .int .i64 0, .int .i64 0, .int .i64 0, .int .i64 0, .bool false] 77)) w3.heap.size 0 C.toList).cell? ⟨w3.heap.size, 11, none⟩ = some (.int .i64 g1) := (cell_of s1 11).trans HCX11.out
      have x18 : (World.setCells (w3.alloc (.cells #[.int .i64 0, .int .i64 0, .int .i64 0, .int .i64 0, .int .i64 0, .int .i64 0, .int .i64 0, .int .i64 0, .string ⟨#[]⟩, .bool false, .int .i64 0, .int .i64 0, .int .i64 0, .int .i64 0, .int .i64 0, .int .i64 0, .int .i64 0, .int .i64 0, .bool false] 77)) w3.heap.size 0 C.toList).cell? ⟨w3.heap.size, 18, none⟩ = some (.bool true) := (cell_of s1 18).trans HCX18.out
      have hB1 := (s2.block _ hlt2).trans b1
      have hl5 : w.heap.size + 1 < (World.setCells (w3.alloc (.cells #[.int .i64 0, .int .i64 0, .int .i64 0, .int .i64 0, .int .i64 0, .int .i64 0, .int .i64 0, .int .i64 0, .string ⟨#[]⟩, .bool false, .int .i64 0, .int .i64 0, .int .i64 0, .int .i64 0, .int .i64 0, .int .i64 0, .int .i64 0, .int .i64 0, .bool false] 77)) w3.heap.size 0 C.toList).heap.size := by omega
      have a0 : (World.setCells (w3.alloc (.cells #[.int .i64 0, .int .i64 0, .int .i64 0, .int .i64 0, .int .i64 0, .int .i64 0, .int .i64 0, .int .i64 0, .string ⟨#[]⟩, .bool false, .int .i64 0, .int .i64 0, .int .i64 0, .int .i64 0, .int .i64 0, .int .i64 0, .int .i64 0, .int .i64 0, .bool false] 77)) w3.heap.size 0 C.toList).cell? ⟨w.heap.size + 1, 0, none⟩ = some (.pointer (some ⟨t, 0, none⟩)) := cell_of hB1 0
      have a1 : (World.setCells (w3.alloc (.cells #[.int .i64 0, .int .i64 0, .int .i64 0, .int .i64 0, .int .i64 0, .int .i64 0, .int .i64 0, .int .i64 0, .string ⟨#[]⟩, .bool false, .int .i64 0, .int .i64 0, .int .i64 0, .int .i64 0, .int .i64 0, .int .i64 0, .int .i64 0, .int .i64 0, .bool false] 77)) w3.heap.size 0 C.toList).cell? ⟨w.heap.size + 1, 1, none⟩ = some (.int .i64 cwd) := cell_of hB1 1
      have a2 : (World.setCells (w3.alloc (.cells #[.int .i64 0, .int .i64 0, .int .i64 0, .int .i64 0, .int .i64 0, .int .i64 0, .int .i64 0, .int .i64 0, .string ⟨#[]⟩, .bool false, .int .i64 0, .int .i64 0, .int .i64 0, .int .i64 0, .int .i64 0, .int .i64 0, .int .i64 0, .int .i64 0, .bool false] 77)) w3.heap.size 0 C.toList).cell? ⟨w.heap.size + 1, 2, none⟩ = some (.int .i64 c.real) := cell_of hB1 2
      have a3 : (World.setCells (w3.alloc (.cells #[.int .i64 0, .int .i64 0, .int .i64 0, .int .i64 0, .int .i64 0, .int .i64 0, .int .i64 0, .int .i64 0, .string ⟨#[]⟩, .bool false, .int .i64 0, .int .i64 0, .int .i64 0, .int .i64 0, .int .i64 0, .int .i64 0, .int .i64 0, .int .i64 0, .bool false] 77)) w3.heap.size 0 C.toList).cell? ⟨w.heap.size + 1, 3, none⟩ = some (.int .i64 c.eff) := cell_of hB1 3
      have a4 : (World.setCells (w3.alloc (.cells #[.int .i64 0, .int .i64 0, .int .i64 0, .int .i64 0, .int .i64 0, .int .i64 0, .int .i64 0, .int .i64 0, .string ⟨#[]⟩, .bool false, .int .i64 0, .int .i64 0, .int .i64 0, .int .i64 0, .int .i64 0, .int .i64 0, .int .i64 0, .int .i64 0, .bool false] 77)) w3.heap.size 0 C.toList).cell? ⟨w.heap.size + 1, 4, none⟩ = some (.int .i64 c.saved) := cell_of hB1 4
      have a5 : (World.setCells (w3.alloc (.cells #[.int .i64 0, .int .i64 0, .int .i64 0, .int .i64 0, .int .i64 0, .int .i64 0, .int .i64 0, .int .i64 0, .string ⟨#[]⟩, .bool false, .int .i64 0, .int .i64 0, .int .i64 0, .int .i64 0, .int .i64 0, .int .i64 0, .int .i64 0, .int .i64 0, .bool false] 77)) w3.heap.size 0 C.toList).cell? ⟨w.heap.size + 1, 5, none⟩ = some (.int .i64 c.group) := cell_of hB1 5
      have a6 : (World.setCells (w3.alloc (.cells #[.int .i64 0, .int .i64 0, .int .i64 0, .int .i64 0, .int .i64 0, .int .i64 0, .int .i64 0, .int .i64 0, .string ⟨#[]⟩, .bool false, .int .i64 0, .int .i64 0, .int .i64 0, .int .i64 0, .int .i64 0, .int .i64 0, .int .i64 0, .int .i64 0, .bool false] 77)) w3.heap.size 0 C.toList).cell? ⟨w.heap.size + 1, 6, none⟩ = some (.int .i64 c.eg) := cell_of hB1 6
      clear b1
      clear hb HC hlt
      go_wp2_with (refine wpList_store_mid rfl 77 _ _ rfl w3.heap.size 0 C rfl rfl hT hI h1C ?_; generalize World.setCells (w3.alloc (.cells #[.int .i64 0, .int .i64 0, .int .i64 0, .int .i64 0, .int .i64 0, .int .i64 0, .int .i64 0, .int .i64 0, .string ⟨#[]⟩, .bool false, .int .i64 0, .int .i64 0, .int .i64 0, .int .i64 0, .int .i64 0, .int .i64 0, .int .i64 0, .int .i64 0, .bool false] 77)) w3.heap.size 0 C.toList = W5 at s1 s2 s3 x0 x1 x2 x3 x4 x5 x6 x7 x8 x9 x11 x18 hB1 hl5 a0 a1 a2 a3 a4 a5 a6 ⊢)
      refine (HM.out _).mono ?_
      rintro e w6 ⟨rfl, hb6⟩
      have s6 := (hb6.block _ (lt_of_heap s1)).trans s1
      have s7 := (hb6.block _ hl5).trans hB1
      have HB5 : Hid (Below w.heap.size w W5) := Lib.hid (HB.out.trans (s2.mono HB.out.size))
      have HB6 : Hid (Below w.heap.size w w6) := Lib.hid (HB5.out.trans (hb6.mono HB5.out.size))
      clear x0 x1 x2 x3 x4 x5 x6 x7 x8 x9 x11 x18 a0 a1 a2 a3 a4 a5 a6 s1 s2 s3 hT h1C hB1 hl5 hlt2
      cases q1 with
      | false =>
        clear s6 s7 hb6
        go_wp2
        go_ret
        refine ⟨4, rfl, Stp.keepB H.out HB6.out ?_⟩
        unfold isWRemove
        rw [HE.out]
        refine ⟨m, q, HMM.out, HQQ.out, ?_⟩
        have hk0 : q.kind = 1 := by simpa using HKD.out
        rw [if_neg (fun hh => hh.2 hk0), if_neg (by simp)]
        rw [if_pos HQ1.out]
        exact ⟨rfl, rfl⟩
      | true =>
        have l6 := range_of s6
        have hl6 : w.heap.size + 1 < w6.heap.size := lt_of_heap s7
        have hl7 : w3.heap.size < w6.heap.size := lt_of_heap s6
        have b0 : w6.cell? ⟨w.heap.size + 1, 0, none⟩ = some (.pointer (some ⟨t, 0, none⟩)) := cell_of s7 0
        have b1 : w6.cell? ⟨w.heap.size + 1, 1, none⟩ = some (.int .i64 cwd) := cell_of s7 1
        have b2 : w6.cell? ⟨w.heap.size + 1, 2, none⟩ = some (.int .i64 c.real) := cell_of s7 2
        have b3 : w6.cell? ⟨w.heap.size + 1, 3, none⟩ = some (.int .i64 c.eff) := cell_of s7 3
        have b4 : w6.cell? ⟨w.heap.size + 1, 4, none⟩ = some (.int .i64 c.saved) := cell_of s7 4
        have b5 : w6.cell? ⟨w.heap.size + 1, 5, none⟩ = some (.int .i64 c.group) := cell_of s7 5
        have b6 : w6.cell? ⟨w.heap.size + 1, 6, none⟩ = some (.int .i64 c.eg) := cell_of s7 6
        have S6 := Lib.hid s6
        clear s7 s6 hb6
        go_wp2_with (refine wpList_load_mid rfl 77 _ rfl w3.heap.size 0 rfl C.toList _ l6 rfl rfl hI ?_)
        refine (HTK.out _).mono ?_
        rintro e w8 ⟨rfl, hb8⟩
        have HB8 : Hid (Below w.heap.size w w8) := Lib.hid (HB6.out.trans (hb8.mono HB6.out.size))
        have s8 := (hb8.block _ hl7).trans S6.out
        clear l6 b0 b1 b2 b3 b4 b5 b6
        cases q2 with
        | false =>
          clear s8 hb8
          go_wp2
          go_ret
          refine ⟨2, rfl, Stp.keepB H.out HB8.out ?_⟩
          unfold isWRemove
          rw [HE.out]
          refine ⟨m, q, HMM.out, HQQ.out, ?_⟩
          have hk0 : q.kind = 1 := by simpa using HKD.out
          rw [if_neg (fun hh => hh.2 hk0), if_neg (by simp)]
          rw [if_neg (by rw [HQ1.out]; decide), if_pos HQ2.out]
          exact ⟨rfl, rfl⟩
        | true =>
          have y0 : w8.cell? ⟨w3.heap.size, 0, none⟩ = some (.int .i64 d0) := (cell_of s8 0).trans HCX0.out
          have y8 : w8.cell? ⟨w3.heap.size, 8, none⟩ = some (.string (tx nm)) := (cell_of s8 8).trans HCX8.out
          clear s8 hb8
          go_wp2_with fail
          refine (remove_any (H.out.mv ((Mv.refl H.out.rep).below HB8.out)) d0 (tx nm)).mono ?_
          rintro e w9 ⟨r, rfl, hs⟩
          have HS := Lib.hid (Stp.pre ((Mv.refl H.out.rep).below HB8.out) hs)
          clear hs
          go_wp2
          go_ret
          refine ⟨r, rfl, HS.out.imp fun T' hT' => ?_⟩
          unfold isWRemove
          rw [HE.out]
          refine ⟨m, q, HMM.out, HQQ.out, ?_⟩
          have hk0 : q.kind = 1 := by simpa using HKD.out
          rw [if_neg (fun hh => hh.2 hk0), if_neg (by simp)]
          rw [if_neg (by rw [HQ1.out]; decide), if_neg (by rw [HQ2.out]; decide)]
          rw [← HD.out.1, bs_tx] at hT'
          exact hT'
    · go_enter Try.func18, Try.ntmps18
      go_wp2_with fail
      refine (HC.out _ (belowA (belowA (Below.refl _ _) _) _)).mono ?_
      rintro e w3 ⟨rfl, hb⟩
      have HB := Lib.hid (two_below hb)
      rw [alloc_size, alloc_size] at hb
      obtain ⟨_, b1, hlt, _⟩ := two_blocks hb
      have hlt2 : w.heap.size + 1 < w3.heap.size := hlt
      obtain ⟨s1, s2, s3⟩ := stored_whole (w3 := w3) (Z := #[.int .i64 0, .int .i64 0, .int .i64 0, .int .i64 0, .int .i64 0, .int .i64 0, .int .i64 0, .int .i64 0, .string ⟨#[]⟩, .bool false, .int .i64 0, .int .i64 0, .int .i64 0, .int .i64 0, .int .i64 0, .int .i64 0, .int .i64 0, .int .i64 0, .bool false]) (C := C) (TY := 77) HCS.out
      have hT : (w3.alloc (.cells #[.int .i64 0, .int .i64 0, .int .i64 0, .int .i64 0, .int .i64 0, .int .i64 0, .int .i64 0, .int .i64 0, .string ⟨#[]⟩, .bool false, .int .i64 0, .int .i64 0, .int .i64 0, .int .i64 0, .int .i64 0, .int .i64 0, .int .i64 0, .int .i64 0, .bool false] 77)).there w3.heap.size 0 C.size := by rw [HCS.out]; exact there_of (alloc_heap w3 _)
      have hI : (Try.prog.info? 77).map (·.size) = some C.size := by rw [HCS.out]; rfl
      have h1C := HC1.out
      have x0 : (World.setCells (w3.alloc (.cells #[.int .i64 0, .int .i64 0, .int .i64 0, .int .i64 0, .int .i64 0, .int .i64 0, .int .i64 0, .int .i64 0, .string ⟨#[]⟩, .bool false, .int .i64 0, .int .i64 0, .int .i64 0, .int .i64 0, .int .i64 0, .int .i64 0, .int .i64 0, .int .i64 0, .bool false] 77)) w3.heap.size 0 C.toList).cell? ⟨w3.heap.size, 0, none⟩ = some (.int .i64 d0) := (cell_of s1 0).trans HCX0.out
      have x1 : (World.setCells (w3.alloc (.cells #[.int .i64 0, .int .i64 0, .int .i64 0, .int .i64 0, .int .i64 0, .int .i64 0, .int .i64 0, .int .i64 0, .string ⟨#[]⟩, .bool false, .int .i64 0, .int .i64 0, .int .i64 0, .int .i64 0, .int .i64 0, .int .i64 0, .int .i64 0, .int .i64 0, .bool false] 77)) w3.heap.size 0 C.toList).cell? ⟨w3.heap.size, 1, none⟩ = some (.int .i64 d1) := (cell_of s1 1).trans HCX1.out
      have x2 : (World.setCells (w3.alloc (.cells #[.int .i64 0, .int .i64 0, .int .i64 0, .int .i64 0, .int .i64 0, .int .i64 0, .int .i64 0, .int .i64 0, .string ⟨#[]⟩, .bool false, .int .i64 0, .int .i64 0, .int .i64 0, .int .i64 0, .int .i64 0, .int .i64 0, .int .i64 0, .int .i64 0, .bool false] 77)) w3.heap.size 0 C.toList).cell? ⟨w3.heap.size, 2, none⟩ = some (.int .i64 d2) := (cell_of s1 2).trans HCX2.out
      have x3 : (World.setCells (w3.alloc (.cells #[.int .i64 0, .int .i64 0, .int .i64 0, .int .i64 0, .int .i64 0, .int .i64 0, .int .i64 0, .int .i64 0, .string ⟨#[]⟩, .bool false, .int .i64 0, .int .i64 0, .int .i64 0, .int .i64 0, .int .i64 0, .int .i64 0, .int .i64 0, .int .i64 0, .bool false] 77)) w3.heap.size 0 C.toList).cell? ⟨w3.heap.size, 3, none⟩ = some (.int .i64 d3) := (cell_of s1 3).trans HCX3.out
      have x4 : (World.setCells (w3.alloc (.cells #[.int .i64 0, .int .i64 0, .int .i64 0, .int .i64 0, .int .i64 0, .int .i64 0, .int .i64 0, .int .i64 0, .string ⟨#[]⟩, .bool false, .int .i64 0, .int .i64 0, .int .i64 0, .int .i64 0, .int .i64 0, .int .i64 0, .int .i64 0, .int .i64 0, .bool false] 77)) w3.heap.size 0 C.toList).cell? ⟨w3.heap.size, 4, none⟩ = some (.int .i64 d4) := (cell_of s1 4).trans HCX4.out
      have x5 : (World.setCells (w3.alloc (.cells #[.int .i64 0, .int .i64 0, .int .i64 0, .int .i64 0, .int .i64 0, .int .i64 0, .int .i64 0, .int .i64 0, .string ⟨#[]⟩, .bool false, .int .i64 0, .int .i64 0, .int .i64 0, .int .i64 0, .int .i64 0, .int .i64 0, .int .i64 0, .int .i64 0, .bool false] 77)) w3.heap.size 0 C.toList).cell? ⟨w3.heap.size, 5, none⟩ = some (.int .i64 d5) := (cell_of s1 5).trans HCX5.out
      have x6 : (World.setCells (w3.alloc (.cells #[.int .i64 0, .int .i64 0, .int .i64 0, .int .i64 0, .int .i64 0, .int .i64 0, .int .i64 0, .int .i64 0, .string ⟨#[]⟩, .bool false, .int .i64 0, .int .i64 0, .int .i64 0, .int .i64 0, .int .i64 0, .int .i64 0, .int .i64 0, .int .i64 0, .bool false] 77)) w3.heap.size 0 C.toList).cell? ⟨w3.heap.size, 6, none⟩ = some (.int .i64 d6) := (cell_of s1 6).trans HCX6.out
      have x7 : (World.setCells (w3.alloc (.cells #[.int .i64 0, .int .i64 0, .int .i64 0, .int .i64 0, .int .i64 0, .int .i64 0, .int .i64 0, .int .i64 0, .string ⟨#[]⟩, .bool false, .int .i64 0, .int .i64 0, .int .i64 0, .int .i64 0, .int .i64 0, .int .i64 0, .int .i64 0, .int .i64 0, .bool false] 77)) w3.heap.size 0 C.toList).cell? ⟨w3.heap.size, 7, none⟩ = some (.int .i64 d7) := (cell_of s1 7).trans HCX7.out
      have x8 : (World.setCells (w3.alloc (.cells #[.int .i64 0, .int .i64 0, .int .i64 0, .int .i64 0, .int .i64 0, .int .i64 0, .int .i64 0, .int .i64 0, .string ⟨#[]⟩, .bool false, .int .i64 0, .int .i64 0, .int .i64 0, .int .i64 0, .int .i64 0, .int .i64 0, .int .i64 0, .int .i64 0, .bool false] 77)) w3.heap.size 0 C.toList).cell? ⟨w3.heap.size, 8, none⟩ = some (.string (tx nm)) := (cell_of s1 8).trans HCX8.out
      have x9 : (World.setCells (w3.alloc (.cells #[.int .i64 0, .int .i64 0, .int .i64 0, .int .i64 0, .int .i64 0, .int .i64 0, .int .i64 0, .int .i64 0, .string ⟨#[]⟩, .bool false, .int .i64 0, .int .i64 0, .int .i64 0, .int .i64 0, .int .i64 0, .int .i64 0, .int .i64 0, .int .i64 0, .bool false] 77)) w3.heap.size 0 C.toList).cell? ⟨w3.heap.size, 9, none⟩ = some (.bool true) := (cell_of s1 9).trans HCX9.out
      have x11 : (World.setCells (w3.alloc (.cells #[.int .i64 0, .int .i64 0, .int .i64 0, .int .i64 0, .int .i64 0, .int .i64 0, .int .i64 0, .int .i64 0, .string ⟨#[]⟩, .bool false, .int .i64 0, .int .i64 0, .int .i64 0, .int .i64 0, .int .i64 0, .int .i64 0, .int .i64 0, .int .i64 0, .bool false] 77)) w3.heap.size 0 C.toList).cell? ⟨w3.heap.size, 11, none⟩ = some (.int .i64 g1) := (cell_of s1 11).trans HCX11.out
      have x18 : (World.setCells (w3.alloc (.cells #[.int .i64 0, .int .i64 0, .int .i64 0, .int .i64 0, .int .i64 0, .int .i64 0, .int .i64 0, .int .i64 0, .string ⟨#[]⟩, .bool false, .int .i64 0, .int .i64 0, .int .i64 0, .int .i64 0, .int .i64 0, .int .i64 0, .int .i64 0, .int .i64 0, .bool false] 77)) w3.heap.size 0 C.toList).cell? ⟨w3.heap.size, 18, none⟩ = some (.bool true) := (cell_of s1 18).trans HCX18.out
      have hB1 := (s2.block _ hlt2).trans b1
      have hl5 : w.heap.size + 1 < (World.setCells (w3.alloc (.cells #[.int .i64 0, .int .i64 0, .int .i64 0, .int .i64 0, .int .i64 0, .int .i64 0, .int .i64 0, .int .i64 0, .string ⟨#[]⟩, .bool false, .int .i64 0, .int .i64 0, .int .i64 0, .int .i64 0, .int .i64 0, .int .i64 0, .int .i64 0, .int .i64 0, .bool false] 77)) w3.heap.size 0 C.toList).heap.size := by omega
      have a0 : (World.setCells (w3.alloc (.cells #[.int .i64 0, .int .i64 0, .int .i64 0, .int .i64 0, .int .i64 0, .int .i64 0, .int .i64 0, .int .i64 0, .string ⟨#[]⟩, .bool false, .int .i64 0, .int .i64 0, .int .i64 0, .int .i64 0, .int .i64 0, .int .i64 0, .int .i64 0, .int .i64 0, .bool false] 77)) w3.heap.size 0 C.toList).cell? ⟨w.heap.size + 1, 0, none⟩ = some (.pointer (some ⟨t, 0, none⟩)) := cell_of hB1 0
      have a1 : (World.setCells (w3.alloc (.cells #[.int .i64 0, .int .i64 0, .int .i64 0, .int .i64 0, .int .i64 0, .int .i64 0, .int .i64 0, .int .i64 0, .string ⟨#[]⟩, .bool false, .int .i64 0, .int .i64 0, .int .i64 0, .int .i64 0, .int .i64 0, .int .i64 0, .int .i64 0, .int .i64 0, .bool false] 77)) w3.heap.size 0 C.toList).cell? ⟨w.heap.size + 1, 1, none⟩ = some (.int .i64 cwd) := cell_of hB1 1
      have a2 : (World.setCells (w3.alloc (.cells #[.int .i64 0, .int .i64 0, .int .i64 0, .int .i64 0, .int .i64 0, .int .i64 0, .int .i64 0, .int .i64 0, .string ⟨#[]⟩, .bool false, .int .i64 0, .int .i64 0, .int .i64 0, .int .i64 0, .int .i64 0, .int .i64 0, .int .i64 0, .int .i64 0, .bool false] 77)) w3.heap.size 0 C.toList).cell? ⟨w.heap.size + 1, 2, none⟩ = some (.int .i64 c.real) := cell_of hB1 2
      have a3 : (World.setCells (w3.alloc (.cells #[.int .i64 0, .int .i64 0, .int .i64 0, .int .i64 0, .int .i64 0, .int .i64 0, .int .i64 0, .int .i64 0, .string ⟨#[]⟩, .bool false, .int .i64 0, .int .i64 0, .int .i64 0, .int .i64 0, .int .i64 0, .int .i64 0, .int .i64 0, .int .i64 0, .bool false] 77)) w3.heap.size 0 C.toList).cell? ⟨w.heap.size + 1, 3, none⟩ = some (.int .i64 c.eff) := cell_of hB1 3
      have a4 : (World.setCells (w3.alloc (.cells #[.int .i64 0, .int .i64 0, .int .i64 0, .int .i64 0, .int .i64 0, .int .i64 0, .int .i64 0, .int .i64 0, .string ⟨#[]⟩, .bool false, .int .i64 0, .int .i64 0, .int .i64 0, .int .i64 0, .int .i64 0, .int .i64 0, .int .i64 0, .int .i64 0, .bool false] 77)) w3.heap.size 0 C.toList).cell? ⟨w.heap.size + 1, 4, none⟩ = some (.int .i64 c.saved) := cell_of hB1 4
      have a5 : (World.setCells (w3.alloc (.cells #[.int .i64 0, .int .i64 0, .int .i64 0, .int .i64 0, .int .i64 0, .int .i64 0, .int .i64 0, .int .i64 0, .string ⟨#[]⟩, .bool false, .int .i64 0, .int .i64 0, .int .i64 0, .int .i64 0, .int .i64 0, .int .i64 0, .int .i64 0, .int .i64 0, .bool false] 77)) w3.heap.size 0 C.toList).cell? ⟨w.heap.size + 1, 5, none⟩ = some (.int .i64 c.group) := cell_of hB1 5
      have a6 : (World.setCells (w3.alloc (.cells #[.int .i64 0, .int .i64 0, .int .i64 0, .int .i64 0, .int .i64 0, .int .i64 0, .int .i64 0, .int .i64 0, .string ⟨#[]⟩, .bool false, .int .i64 0, .int .i64 0, .int .i64 0, .int .i64 0, .int .i64 0, .int .i64 0, .int .i64 0, .int .i64 0, .bool false] 77)) w3.heap.size 0 C.toList).cell? ⟨w.heap.size + 1, 6, none⟩ = some (.int .i64 c.eg) := cell_of hB1 6
      clear b1
      clear hb HC hlt
      go_wp2_with (refine wpList_store_mid rfl 77 _ _ rfl w3.heap.size 0 C rfl rfl hT hI h1C ?_; generalize World.setCells (w3.alloc (.cells #[.int .i64 0, .int .i64 0, .int .i64 0, .int .i64 0, .int .i64 0, .int .i64 0, .int .i64 0, .int .i64 0, .string ⟨#[]⟩, .bool false, .int .i64 0, .int .i64 0, .int .i64 0, .int .i64 0, .int .i64 0, .int .i64 0, .int .i64 0, .int .i64 0, .bool false] 77)) w3.heap.size 0 C.toList = W5 at s1 s2 s3 x0 x1 x2 x3 x4 x5 x6 x7 x8 x9 x11 x18 hB1 hl5 a0 a1 a2 a3 a4 a5 a6 ⊢)
      refine (HM.out _).mono ?_
      rintro e w6 ⟨rfl, hb6⟩
      have s6 := (hb6.block _ (lt_of_heap s1)).trans s1
      have s7 := (hb6.block _ hl5).trans hB1
      have HB5 : Hid (Below w.heap.size w W5) := Lib.hid (HB.out.trans (s2.mono HB.out.size))
      have HB6 : Hid (Below w.heap.size w w6) := Lib.hid (HB5.out.trans (hb6.mono HB5.out.size))
      clear x0 x1 x2 x3 x4 x5 x6 x7 x8 x9 x11 x18 a0 a1 a2 a3 a4 a5 a6 s1 s2 s3 hT h1C hB1 hl5 hlt2
      cases q1 with
      | false =>
        clear s6 s7 hb6
        go_wp2
        go_ret
        refine ⟨4, rfl, Stp.keepB H.out HB6.out ?_⟩
        unfold isWRemove
        rw [HE.out]
        refine ⟨m, q, HMM.out, HQQ.out, ?_⟩
        have hk0 : q.kind = 1 := by simpa using HKD.out
        rw [if_neg (fun hh => hh.2 hk0), if_neg (by simp)]
        rw [if_pos HQ1.out]
        exact ⟨rfl, rfl⟩
      | true =>
        have l6 := range_of s6
        have hl6 : w.heap.size + 1 < w6.heap.size := lt_of_heap s7
        have hl7 : w3.heap.size < w6.heap.size := lt_of_heap s6
        have b0 : w6.cell? ⟨w.heap.size + 1, 0, none⟩ = some (.pointer (some ⟨t, 0, none⟩)) := cell_of s7 0
        have b1 : w6.cell? ⟨w.heap.size + 1, 1, none⟩ = some (.int .i64 cwd) := cell_of s7 1
        have b2 : w6.cell? ⟨w.heap.size + 1, 2, none⟩ = some (.int .i64 c.real) := cell_of s7 2
        have b3 : w6.cell? ⟨w.heap.size + 1, 3, none⟩ = some (.int .i64 c.eff) := cell_of s7 3
        have b4 : w6.cell? ⟨w.heap.size + 1, 4, none⟩ = some (.int .i64 c.saved) := cell_of s7 4
        have b5 : w6.cell? ⟨w.heap.size + 1, 5, none⟩ = some (.int .i64 c.group) := cell_of s7 5
        have b6 : w6.cell? ⟨w.heap.size + 1, 6, none⟩ = some (.int .i64 c.eg) := cell_of s7 6
        have S6 := Lib.hid s6
        clear s7 s6 hb6
        go_wp2_with (refine wpList_load_mid rfl 77 _ rfl w3.heap.size 0 rfl C.toList _ l6 rfl rfl hI ?_)
        refine (HTK.out _).mono ?_
        rintro e w8 ⟨rfl, hb8⟩
        have HB8 : Hid (Below w.heap.size w w8) := Lib.hid (HB6.out.trans (hb8.mono HB6.out.size))
        have s8 := (hb8.block _ hl7).trans S6.out
        clear l6 b0 b1 b2 b3 b4 b5 b6
        cases q2 with
        | false =>
          clear s8 hb8
          go_wp2
          go_ret
          refine ⟨2, rfl, Stp.keepB H.out HB8.out ?_⟩
          unfold isWRemove
          rw [HE.out]
          refine ⟨m, q, HMM.out, HQQ.out, ?_⟩
          have hk0 : q.kind = 1 := by simpa using HKD.out
          rw [if_neg (fun hh => hh.2 hk0), if_neg (by simp)]
          rw [if_neg (by rw [HQ1.out]; decide), if_pos HQ2.out]
          exact ⟨rfl, rfl⟩
        | true =>
          have y0 : w8.cell? ⟨w3.heap.size, 0, none⟩ = some (.int .i64 d0) := (cell_of s8 0).trans HCX0.out
          have y8 : w8.cell? ⟨w3.heap.size, 8, none⟩ = some (.string (tx nm)) := (cell_of s8 8).trans HCX8.out
          clear s8 hb8
          go_wp2_with fail
          refine (remove_any (H.out.mv ((Mv.refl H.out.rep).below HB8.out)) d0 (tx nm)).mono ?_
          rintro e w9 ⟨r, rfl, hs⟩
          have HS := Lib.hid (Stp.pre ((Mv.refl H.out.rep).below HB8.out) hs)
          clear hs
          go_wp2
          go_ret
          refine ⟨r, rfl, HS.out.imp fun T' hT' => ?_⟩
          unfold isWRemove
          rw [HE.out]
          refine ⟨m, q, HMM.out, HQQ.out, ?_⟩
          have hk0 : q.kind = 1 := by simpa using HKD.out
          rw [if_neg (fun hh => hh.2 hk0), if_neg (by simp)]
          rw [if_neg (by rw [HQ1.out]; decide), if_neg (by rw [HQ2.out]; decide)]
          rw [← HD.out.1, bs_tx] at hT'
          exact hT'
theorem walkRemove_any {w : World} {t : Nat} {S : Tab} {T : IT.Tr} (h : Tre w t S T) (cwd : Int) (c : Cr) (s : ByteArray) (dir : Bool) :
    Calls Try.prog 18 #[.pointer (some ⟨t, 0, none⟩), .int .i64 cwd, cred c, .string s, .bool dir] w fun e w' => ∃ r, e = .returned (.int .i64 r) ∧ Stp w t S (fun T' => isWRemove T c cwd (bs s) dir r T') w' := by
  cases he : entryT T c cwd (bs s) with
  | error r0 => exact wremove_err h cwd c s dir he
  | ok x =>
    obtain ⟨m, hm, hto, _⟩ := entry_ok he
    obtain ⟨k, nm, must, to⟩ := x
    dsimp only at hm hto
    cases to with
    | none => exact wremove_none h cwd c s dir he hm
    | some j =>
      obtain ⟨q, hq⟩ := look_there h.snd hto.symm
      by_cases hk : (((dir = true ∨ must = true) ∧ q.kind ≠ 1) ∨ (dir = false ∧ q.kind = 1))
      · exact wremove_kind h cwd c s dir he hm hq hk
      · exact wremove_go h cwd c s dir he hm hq hk
end Go.Proofs.Ytafonmnfeibaiaa
namespace Go.Proofs.Ytafonmnfeibaiaa
open Go.RowKit

/-! ### walk: Put -/
def isWPut (T : IT.Tr) (k : Nat) (a : Int) (s : IT.Bytes) (r : Int) (T' : IT.Tr) : Prop :=
  ∃ T1, IT.isPut T k a s r T1 ∧ if r = 0 then isPlainer T1 k T' else T' = T1
theorem isWPut.sound {T T' : IT.Tr} {k : Nat} {a r : Int} {s : IT.Bytes} (h : isWPut T k a s r T') (hs : IT.Sound okN T) : IT.Sound okN T' := by
  obtain ⟨T1, h1, h2⟩ := h
  split at h2
  · exact isPlainer.sound h2 (h1.sound hs)
  · exact h2 ▸ h1.sound hs
theorem HB.wput {T T' : IT.Tr} {k B : Nat} {a r : Int} {s : IT.Bytes} (hb : HB T B) (h : isWPut T k a s r T') : HB T' B := by
  obtain ⟨T1, h1, h2⟩ := h
  split at h2
  · exact (hb.put h1).plainer h2
  · exact h2 ▸ hb.put h1
set_option maxRecDepth 100000 in
set_option maxHeartbeats 4000000 in
theorem walkPut_any {w : World} {t : Nat} {S : Tab} {T : IT.Tr} (h : Tre w t S T) (ki a : Int) (s : ByteArray) :
    Calls Try.prog 16 #[.pointer (some ⟨t, 0, none⟩), .int .i64 ki, .int .i64 a, .string s] w fun e w' => ∃ r, e = .returned (.int .i64 r) ∧ Stp w t S (fun T' => isWPut T ki.toNat a (bs s) r T') w' := by
  have H := Lib.hid h
  clear h
  go_enter Try.func16, Try.ntmps16
  go_wp2_with fail
  refine (put_any H.out ki a s).mono ?_
  rintro e w2 ⟨r, rfl, hs⟩
  obtain ⟨S1, T1, g1, ht1, hr1⟩ := hs.tre fun T' hT' => hT'.sound H.out.snd
  have HT1 := Lib.hid ht1
  have HM1 := Lib.hid g1
  have HR1 := Lib.hid hr1
  clear hs g1 ht1 hr1
  by_cases hz : r = 0
  · subst hz
    go_wp2_with fail
    refine (plainer_any HT1.out ki).mono ?_
    rintro e w3 ⟨rfl, hs⟩
    have HS := Lib.hid (Stp.pre HM1.out hs)
    clear hs
    go_wp2
    go_ret
    exact ⟨0, rfl, HS.out.imp fun T' hT' => ⟨T1, HR1.out, by rw [if_pos rfl]; exact hT'⟩⟩
  · have hz1 : (r == 0) = false := by simpa using hz
    have HNZ := Lib.hid hz
    clear hz
    go_wp2
    go_ret
    exact ⟨r, rfl, S1, T1, HM1.out, HT1.out.ties, ⟨T1, HR1.out, by rw [if_neg HNZ.out]⟩⟩
end Go.Proofs.Ytafonmnfeibaiaa
