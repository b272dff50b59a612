/- Arguments that are slices, opened: texts, facts. -/
import Derived.Test.YthomdgejbkcljaaDoorS
import Derived.SliceStrings
import Derived.ChangeSlices
import Derived.Carry
import Derived.Deep.Slices
import Derived.Lib.SmallJoins
import Derived.ChangeArms
import Derived.SizedLaws
import Derived.DataReads
namespace Go.Proofs.YthomdgejbkcljaaDoor
open Go.ChangeShapes Go.WideShapes Go.ChangeAt Go.RowKit
open Go.Deep (open_slice)
open Go.Joins (trod_struct4)

theorem laidOut : laidOutB Tryd.prog = true := by kernel_rfl
theorem cells9 : Tryd.prog.cellsOf 9 = 1 := by kernel_rfl
theorem cells38 : Tryd.prog.cellsOf 38 = 11 := by kernel_rfl
theorem cells36 : Tryd.prog.cellsOf 36 = 8 := by kernel_rfl
theorem cells3 : Tryd.prog.cellsOf 3 = 1 := by kernel_rfl
theorem cells4 : Tryd.prog.cellsOf 4 = 1 := by kernel_rfl
theorem in_strs {H : Type} {enc : TypeId × Value → H} {W : World} {A : Option Addr} {n c : Nat} {d : DataW H} {p : List MemPlace} (h : DataW.Trod enc Tryd.prog W 0 (fun _ => true) true 22 (.slice A n c) d p) :
    ∃ L, ArgS W (.slice A n c) L ∧ (d = .nil ∧ L = [] ∨ ∃ el sp, d = .slice el sp ∧ L.length = el.length ∧ ∀ s ∈ L, .lit (.string s.data.toList) ∈ el) := by
  obtain ⟨fuel, hf⟩ := h
  rcases open_strings Tryd.underlying22 Tryd.underlying9 cells9 hf with ⟨hcs, hx⟩ | ⟨a, len, cap, ss, hcs, _, hl, hm, hz, hx, hcell, hss⟩
  · simp [Value.cells] at hcs
    obtain ⟨rfl, rfl, rfl⟩ := hcs
    exact ⟨[], argS_nil W, .inl ⟨by simpa using congrArg Prod.fst hx, rfl⟩⟩
  · simp [Value.cells] at hcs
    obtain ⟨rfl, rfl, rfl⟩ := hcs
    simp only [if_true] at hz
    have hlen : (ss.take n).length = n := by rw [List.length_take]; omega
    refine ⟨ss.take n, ⟨_, c, by rw [hlen], by rw [hlen]; exact hl, fun j hj => ?_⟩, .inr ⟨_, _, congrArg Prod.fst hx, by simp [strs], fun s hs => ?_⟩⟩
    · rw [hlen] at hj
      obtain ⟨b, off, spot⟩ := a
      have hspot : spot = none := by simpa [Addr.add] using World.cell?_spot (hcell 0 (by omega))
      subst hspot
      refine ⟨b, off, rfl, ?_⟩
      rw [← add_plain, hcell j (by omega), List.getElem_take, List.getD_eq_getElem?_getD, List.getElem?_eq_getElem (by omega)]
      rfl
    · simp only [strs]; exact List.mem_map.2 ⟨s, hs, rfl⟩
theorem weights_all {H : Type} {P : Program} {e : TypeId} {x : DataW H} {k : Nat} : ∀ {l : List (DataW H)}, x ∈ l → k ∈ x.weights P e → k ∈ DataW.weightsAll P e l
  | [], h, _ => by cases h
  | y :: l, h, hk => by
    unfold DataW.weightsAll
    rcases List.mem_cons.1 h with rfl | h
    · exact List.mem_append_left _ hk
    · exact List.mem_append_right _ (weights_all h hk)
theorem strs_sized {H : Type} {ts : List TypeId} {ds : List (DataW H)} (h : (DataW.weightsEach Tryd.prog ts ds).all (· ≤ reachBytes) = true) {j : Nat} {d : DataW H} {L : List ByteArray} (ht : ts[j]? = some 22) (hd : ds[j]? = some d)
    (hs : d = .nil ∧ L = [] ∨ ∃ el sp, d = .slice el sp ∧ L.length = el.length ∧ ∀ s ∈ L, .lit (.string s.data.toList) ∈ el) : ∀ s ∈ L, s.size ≤ 140737488355328 := by
  intro s hsL
  rcases hs with ⟨_, rfl⟩ | ⟨el, sp, rfl, _, hm⟩
  · cases hsL
  · have h1 : s.data.toList.length ∈ DataW.weights Tryd.prog 22 (.slice el sp : DataW H) := by
      unfold DataW.weights
      rw [Tryd.underlying22]
      exact List.mem_cons_of_mem _ (List.mem_append_left _ (weights_all (hm s hsL) (by simp [DataW.weights])))
    have h2 := List.all_eq_true.1 h _ (DataW.weights_mem_each ht hd _ h1)
    rw [size_list] at h2
    have h3 : s.size ≤ reachBytes := by simpa using h2
    unfold reachBytes at h3
    omega
theorem drop_one {cs : List Value} {k : Nat} {v : Value} (h : (cs.drop k).take 1 = [v]) : cs[k]? = some v := by
  have := congrArg (fun l : List Value => l[0]?) h
  simpa using this
set_option maxHeartbeats 1000000 in
theorem fact_cells {H : Type} {enc : TypeId × Value → H} {W : World} {sp : Nat → Bool} {fuel : Nat} {cs : List Value} {x : DataW H × List MemPlace} (h : DataW.trod enc Tryd.prog W 0 sp true fuel 38 cs = some x) :
    ∃ f : FactS, ∀ i, i < 11 → cs[i]? = (factC f)[i]? := by
  obtain ⟨y0, y1, y2, y3, n, _, hl, h0, h1, h2, h3⟩ := trod_struct4 Tryd.underlying38 h
  simp only [cells9, cells4, cells36, cells3] at h0 h1 h2 h3
  obtain ⟨s, e0, _, _⟩ := DataW.trod_string Tryd.underlying9 h0
  obtain ⟨b, e1, _⟩ := DataW.trod_bool Tryd.underlying4 h1
  obtain ⟨m, e3, _, _⟩ := DataW.trod_int Tryd.underlying3 h3
  obtain ⟨xs, n2, _, _, hl2, hlen2, hf⟩ := DataW.trod_struct Tryd.underlying36 h2
  have q0 : ∃ v : Int, cs[2 + 0]? = some (.int .i64 v) := by
    obtain ⟨y, hy⟩ : ∃ y, xs[0]? = some y := ⟨_, List.getElem?_eq_getElem (by rw [hlen2]; decide)⟩
    have h4 : DataW.trod enc Tryd.prog W 0 sp true n2 3 ((((cs.drop 2).take 8).drop 0).take (Tryd.prog.cellsOf 3)) = some y := (hf 0 _ rfl).trans hy
    rw [cells3] at h4
    obtain ⟨v, e, _, _⟩ := DataW.trod_int Tryd.underlying3 h4
    have e2 := drop_one e
    rw [List.getElem?_take, if_pos (by decide), List.getElem?_drop] at e2
    exact ⟨v, e2⟩
  have q1 : ∃ v : Int, cs[2 + 1]? = some (.int .i64 v) := by
    obtain ⟨y, hy⟩ : ∃ y, xs[1]? = some y := ⟨_, List.getElem?_eq_getElem (by rw [hlen2]; decide)⟩
    have h4 : DataW.trod enc Tryd.prog W 0 sp true n2 3 ((((cs.drop 2).take 8).drop 1).take (Tryd.prog.cellsOf 3)) = some y := (hf 1 _ rfl).trans hy
    rw [cells3] at h4
    obtain ⟨v, e, _, _⟩ := DataW.trod_int Tryd.underlying3 h4
    have e2 := drop_one e
    rw [List.getElem?_take, if_pos (by decide), List.getElem?_drop] at e2
    exact ⟨v, e2⟩
  have q2 : ∃ v : Int, cs[2 + 2]? = some (.int .i64 v) := by
    obtain ⟨y, hy⟩ : ∃ y, xs[2]? = some y := ⟨_, List.getElem?_eq_getElem (by rw [hlen2]; decide)⟩
    have h4 : DataW.trod enc Tryd.prog W 0 sp true n2 3 ((((cs.drop 2).take 8).drop 2).take (Tryd.prog.cellsOf 3)) = some y := (hf 2 _ rfl).trans hy
    rw [cells3] at h4
    obtain ⟨v, e, _, _⟩ := DataW.trod_int Tryd.underlying3 h4
    have e2 := drop_one e
    rw [List.getElem?_take, if_pos (by decide), List.getElem?_drop] at e2
    exact ⟨v, e2⟩
  have q3 : ∃ v : Int, cs[2 + 3]? = some (.int .i64 v) := by
    obtain ⟨y, hy⟩ : ∃ y, xs[3]? = some y := ⟨_, List.getElem?_eq_getElem (by rw [hlen2]; decide)⟩
    have h4 : DataW.trod enc Tryd.prog W 0 sp true n2 3 ((((cs.drop 2).take 8).drop 3).take (Tryd.prog.cellsOf 3)) = some y := (hf 3 _ rfl).trans hy
    rw [cells3] at h4
    obtain ⟨v, e, _, _⟩ := DataW.trod_int Tryd.underlying3 h4
    have e2 := drop_one e
    rw [List.getElem?_take, if_pos (by decide), List.getElem?_drop] at e2
    exact ⟨v, e2⟩
  have q4 : ∃ v : Int, cs[2 + 4]? = some (.int .i64 v) := by
    obtain ⟨y, hy⟩ : ∃ y, xs[4]? = some y := ⟨_, List.getElem?_eq_getElem (by rw [hlen2]; decide)⟩
    have h4 : DataW.trod enc Tryd.prog W 0 sp true n2 3 ((((cs.drop 2).take 8).drop 4).take (Tryd.prog.cellsOf 3)) = some y := (hf 4 _ rfl).trans hy
    rw [cells3] at h4
    obtain ⟨v, e, _, _⟩ := DataW.trod_int Tryd.underlying3 h4
    have e2 := drop_one e
    rw [List.getElem?_take, if_pos (by decide), List.getElem?_drop] at e2
    exact ⟨v, e2⟩
  have q5 : ∃ v : Int, cs[2 + 5]? = some (.int .i64 v) := by
    obtain ⟨y, hy⟩ : ∃ y, xs[5]? = some y := ⟨_, List.getElem?_eq_getElem (by rw [hlen2]; decide)⟩
    have h4 : DataW.trod enc Tryd.prog W 0 sp true n2 3 ((((cs.drop 2).take 8).drop 5).take (Tryd.prog.cellsOf 3)) = some y := (hf 5 _ rfl).trans hy
    rw [cells3] at h4
    obtain ⟨v, e, _, _⟩ := DataW.trod_int Tryd.underlying3 h4
    have e2 := drop_one e
    rw [List.getElem?_take, if_pos (by decide), List.getElem?_drop] at e2
    exact ⟨v, e2⟩
  have q6 : ∃ v : Int, cs[2 + 6]? = some (.int .i64 v) := by
    obtain ⟨y, hy⟩ : ∃ y, xs[6]? = some y := ⟨_, List.getElem?_eq_getElem (by rw [hlen2]; decide)⟩
    have h4 : DataW.trod enc Tryd.prog W 0 sp true n2 3 ((((cs.drop 2).take 8).drop 6).take (Tryd.prog.cellsOf 3)) = some y := (hf 6 _ rfl).trans hy
    rw [cells3] at h4
    obtain ⟨v, e, _, _⟩ := DataW.trod_int Tryd.underlying3 h4
    have e2 := drop_one e
    rw [List.getElem?_take, if_pos (by decide), List.getElem?_drop] at e2
    exact ⟨v, e2⟩
  have q7 : ∃ v : Int, cs[2 + 7]? = some (.int .i64 v) := by
    obtain ⟨y, hy⟩ : ∃ y, xs[7]? = some y := ⟨_, List.getElem?_eq_getElem (by rw [hlen2]; decide)⟩
    have h4 : DataW.trod enc Tryd.prog W 0 sp true n2 3 ((((cs.drop 2).take 8).drop 7).take (Tryd.prog.cellsOf 3)) = some y := (hf 7 _ rfl).trans hy
    rw [cells3] at h4
    obtain ⟨v, e, _, _⟩ := DataW.trod_int Tryd.underlying3 h4
    have e2 := drop_one e
    rw [List.getElem?_take, if_pos (by decide), List.getElem?_drop] at e2
    exact ⟨v, e2⟩
  obtain ⟨i0, k0⟩ := q0
  obtain ⟨i1, k1⟩ := q1
  obtain ⟨i2, k2⟩ := q2
  obtain ⟨i3, k3⟩ := q3
  obtain ⟨i4, k4⟩ := q4
  obtain ⟨i5, k5⟩ := q5
  obtain ⟨i6, k6⟩ := q6
  obtain ⟨i7, k7⟩ := q7
  refine ⟨⟨s, b, i0, i1, i2, i3, i4, i5, i6, i7, m⟩, fun i hi => ?_⟩
  obtain rfl | rfl | rfl | rfl | rfl | rfl | rfl | rfl | rfl | rfl | rfl : i = 0 ∨ i = 1 ∨ i = 2 ∨ i = 3 ∨ i = 4 ∨ i = 5 ∨ i = 6 ∨ i = 7 ∨ i = 8 ∨ i = 9 ∨ i = 10 := by omega
  · exact drop_one e0
  · exact drop_one e1
  · exact k0
  · exact k1
  · exact k2
  · exact k3
  · exact k4
  · exact k5
  · exact k6
  · exact k7
  · exact drop_one e3
theorem cells_get {W : World} {a : Addr} {n : Nat} {cs : List Value} (h : W.cells? 0 a n = some cs) (i : Nat) (hi : i < n) : W.cell? (a.add i) = cs[i]? := by
  unfold World.cells? at h
  rw [if_pos (Nat.zero_le _)] at h
  exact mapM_some_get h i i (by simp [hi])
theorem bytes38 : 1 ≤ Tryd.prog.bytesOf 38 := by decide +kernel
theorem in_facts {H : Type} {enc : TypeId × Value → H} {W : World} {A : Option Addr} {n c : Nat} {d : DataW H} {p : List MemPlace} (h : DataW.Trod enc Tryd.prog W 0 (fun _ => true) true 23 (.slice A n c) d p) :
    ∃ fs, ArgF W (.slice A n c) fs ∧ (d = .nil ∧ fs.length = 0 ∨ ∃ el sp, d = .slice el sp ∧ fs.length = el.length) := by
  obtain ⟨fuel, hf⟩ := h
  rcases open_slice Tryd.underlying23 hf with ⟨hcs, hx⟩ | ⟨a, len, cap, m, nn, D, Pl, hcs, _, hl, hm, hz, hx, hel⟩
  · simp [Value.cells] at hcs
    obtain ⟨rfl, rfl, rfl⟩ := hcs
    exact ⟨[], ⟨none, 0, rfl, Nat.le_refl _, inF_nil W⟩, .inl ⟨by simpa using congrArg Prod.fst hx, rfl⟩⟩
  · simp [Value.cells] at hcs
    obtain ⟨rfl, rfl, rfl⟩ := hcs
    simp only [if_true] at hz
    have each : ∀ j, ∃ f : FactS, j < n → ∃ cs', W.cells? 0 (a.add (j * 11)) 11 = some cs' ∧ ∀ i, i < 11 → cs'[i]? = (factC f)[i]? := fun j => by
      by_cases hj : j < n
      · obtain ⟨cs', h1, h2⟩ := hel j (by omega)
        rw [cells38] at h1
        obtain ⟨f, hf⟩ := fact_cells h2
        exact ⟨f, fun _ => ⟨cs', h1, hf⟩⟩
      · exact ⟨⟨noB, false, 0, 0, 0, 0, 0, 0, 0, 0, 0⟩, fun h => absurd h hj⟩
    obtain ⟨F, hF⟩ := Classical.axiomOfChoice each
    have hlen : ((List.range n).map F).length = n := by simp
    refine ⟨(List.range n).map F, ⟨_, c, by rw [hlen], by rw [hlen]; exact hl, ⟨some a, c, by rw [hlen], fun j hj => ?_⟩⟩, .inr ⟨_, _, congrArg Prod.fst hx, by simp⟩⟩
    rw [hlen] at hj
    obtain ⟨cs', h1, h2⟩ := hF j hj
    obtain ⟨b, off, spot⟩ := a
    obtain ⟨cz, hz1, hz2⟩ := hF 0 (by omega)
    have h00 : W.cell? (((⟨b, off, spot⟩ : Addr).add (0 * 11)).add 0) = some (.string (F 0).path) := by rw [cells_get hz1 0 (by omega), hz2 0 (by omega)]; rfl
    have hspot : spot = none := by simpa [Addr.add] using World.cell?_spot h00
    subst hspot
    refine ⟨b, off, rfl, fun i hi => ?_⟩
    have h3 := cells_get h1 i hi
    rw [add_plain, add_plain] at h3
    rw [h3, h2 i hi]
    simp
theorem facts_sized {H : Type} {ts : List TypeId} {ds : List (DataW H)} (h : (DataW.weightsEach Tryd.prog ts ds).all (· ≤ reachBytes) = true) {j : Nat} {d : DataW H} {fs : List FactS} (ht : ts[j]? = some 23) (hd : ds[j]? = some d)
    (hs : d = .nil ∧ fs.length = 0 ∨ ∃ el sp, d = .slice el sp ∧ fs.length = el.length) : fs.length ≤ 140737488355328 := by
  rcases hs with ⟨_, h0⟩ | ⟨el, sp, rfl, hl⟩
  · omega
  · have h1 := sized_slice h ht hd Tryd.underlying23
    have h2 := Nat.le_mul_of_pos_right (el.length + sp.length) bytes38
    simp only [reachBytes] at h1
    omega
end Go.Proofs.YthomdgejbkcljaaDoor
