/- Arguments that are slices of users, opened. -/
import Derived.Test.YtmfbmjnoepcigaaGreatDoorQ
import Derived.SliceStrings
import Derived.ChangeSlices
import Derived.Carry
import Derived.Deep.Slices
import Derived.Lib.SmallJoins
import Derived.ChangeArms
import Derived.SizedLaws
import Derived.DataReads
namespace Go.Proofs.YtmfbmjnoepcigaaGreatDoor
open Go.ChangeShapes Go.WideShapes Go.ChangeAt Go.RowKit
open Go.Deep (open_slice)

theorem laidOut : laidOutB Tryz.prog = true := by kernel_rfl
theorem cells9 : Tryz.prog.cellsOf 9 = 1 := by kernel_rfl
theorem cells33 : Tryz.prog.cellsOf 29 = 6 := by kernel_rfl
theorem cells3 : Tryz.prog.cellsOf 3 = 1 := by kernel_rfl
theorem weights_all {H : Type} {P : Program} {e : TypeId} {x : DataW H} {k : Nat} : ∀ {l : List (DataW H)}, x ∈ l → k ∈ x.weights P e → k ∈ DataW.weightsAll P e l
  | [], h, _ => by cases h
  | y :: l, h, hk => by
    unfold DataW.weightsAll
    rcases List.mem_cons.1 h with rfl | h
    · exact List.mem_append_left _ hk
    · exact List.mem_append_right _ (weights_all h hk)
theorem drop_one {cs : List Value} {k : Nat} {v : Value} (h : (cs.drop k).take 1 = [v]) : cs[k]? = some v := by
  have := congrArg (fun l : List Value => l[0]?) h
  simpa using this
/-- The sizes of a user's texts are among a datum's weights. -/
structure WeighU {H : Type} (f : UserS) (d : DataW H) : Prop where
  name : f.name.data.toList.length ∈ d.weights Tryz.prog 29
  pass : f.pass.data.toList.length ∈ d.weights Tryz.prog 29
  home : f.home.data.toList.length ∈ d.weights Tryz.prog 29
  shell : f.shell.data.toList.length ∈ d.weights Tryz.prog 29
set_option maxHeartbeats 1000000 in
theorem user_cells {H : Type} {enc : TypeId × Value → H} {W : World} {sp : Nat → Bool} {fuel : Nat} {cs : List Value} {x : DataW H × List MemPlace} (h : DataW.trod enc Tryz.prog W 0 sp true fuel 29 cs = some x) :
    ∃ f : UserS, (∀ i, i < 6 → cs[i]? = (userC f)[i]?) ∧ WeighU f x.1 := by
  obtain ⟨xs, n, _, rfl, hl, hlen, hf⟩ := DataW.trod_struct Tryz.underlying29 h
  have q0 : ∃ s : ByteArray, cs[0]? = some (.string s) ∧ s.data.toList.length ∈ DataW.weights Tryz.prog 29 (.agg (xs.map (·.1))) := by
    obtain ⟨y, hy⟩ : ∃ y, xs[0]? = some y := ⟨_, List.getElem?_eq_getElem (by rw [hlen]; decide)⟩
    have h4 : DataW.trod enc Tryz.prog W 0 sp true n 9 ((cs.drop 0).take (Tryz.prog.cellsOf 9)) = some y := (hf 0 _ rfl).trans hy
    rw [cells9] at h4
    obtain ⟨s, e, ey, _⟩ := DataW.trod_string Tryz.underlying9 h4
    refine ⟨s, drop_one e, ?_⟩
    unfold DataW.weights
    rw [Tryz.underlying29]
    refine DataW.weights_mem_each (j := 0) (t := 9) (d := y.1) rfl (by simp [hy]) _ ?_
    rw [ey]
    simp [DataW.weights]
  have q1 : ∃ s : ByteArray, cs[1]? = some (.string s) ∧ s.data.toList.length ∈ DataW.weights Tryz.prog 29 (.agg (xs.map (·.1))) := by
    obtain ⟨y, hy⟩ : ∃ y, xs[1]? = some y := ⟨_, List.getElem?_eq_getElem (by rw [hlen]; decide)⟩
    have h4 : DataW.trod enc Tryz.prog W 0 sp true n 9 ((cs.drop 1).take (Tryz.prog.cellsOf 9)) = some y := (hf 1 _ rfl).trans hy
    rw [cells9] at h4
    obtain ⟨s, e, ey, _⟩ := DataW.trod_string Tryz.underlying9 h4
    refine ⟨s, drop_one e, ?_⟩
    unfold DataW.weights
    rw [Tryz.underlying29]
    refine DataW.weights_mem_each (j := 1) (t := 9) (d := y.1) rfl (by simp [hy]) _ ?_
    rw [ey]
    simp [DataW.weights]
  have q2 : ∃ v : Int, cs[2]? = some (.int .i64 v) := by
    obtain ⟨y, hy⟩ : ∃ y, xs[2]? = some y := ⟨_, List.getElem?_eq_getElem (by rw [hlen]; decide)⟩
    have h4 : DataW.trod enc Tryz.prog W 0 sp true n 3 ((cs.drop 2).take (Tryz.prog.cellsOf 3)) = some y := (hf 2 _ rfl).trans hy
    rw [cells3] at h4
    obtain ⟨v, e, _, _⟩ := DataW.trod_int Tryz.underlying3 h4
    exact ⟨v, drop_one e⟩
  have q3 : ∃ v : Int, cs[3]? = some (.int .i64 v) := by
    obtain ⟨y, hy⟩ : ∃ y, xs[3]? = some y := ⟨_, List.getElem?_eq_getElem (by rw [hlen]; decide)⟩
    have h4 : DataW.trod enc Tryz.prog W 0 sp true n 3 ((cs.drop 3).take (Tryz.prog.cellsOf 3)) = some y := (hf 3 _ rfl).trans hy
    rw [cells3] at h4
    obtain ⟨v, e, _, _⟩ := DataW.trod_int Tryz.underlying3 h4
    exact ⟨v, drop_one e⟩
  have q4 : ∃ s : ByteArray, cs[4]? = some (.string s) ∧ s.data.toList.length ∈ DataW.weights Tryz.prog 29 (.agg (xs.map (·.1))) := by
    obtain ⟨y, hy⟩ : ∃ y, xs[4]? = some y := ⟨_, List.getElem?_eq_getElem (by rw [hlen]; decide)⟩
    have h4 : DataW.trod enc Tryz.prog W 0 sp true n 9 ((cs.drop 4).take (Tryz.prog.cellsOf 9)) = some y := (hf 4 _ rfl).trans hy
    rw [cells9] at h4
    obtain ⟨s, e, ey, _⟩ := DataW.trod_string Tryz.underlying9 h4
    refine ⟨s, drop_one e, ?_⟩
    unfold DataW.weights
    rw [Tryz.underlying29]
    refine DataW.weights_mem_each (j := 4) (t := 9) (d := y.1) rfl (by simp [hy]) _ ?_
    rw [ey]
    simp [DataW.weights]
  have q5 : ∃ s : ByteArray, cs[5]? = some (.string s) ∧ s.data.toList.length ∈ DataW.weights Tryz.prog 29 (.agg (xs.map (·.1))) := by
    obtain ⟨y, hy⟩ : ∃ y, xs[5]? = some y := ⟨_, List.getElem?_eq_getElem (by rw [hlen]; decide)⟩
    have h4 : DataW.trod enc Tryz.prog W 0 sp true n 9 ((cs.drop 5).take (Tryz.prog.cellsOf 9)) = some y := (hf 5 _ rfl).trans hy
    rw [cells9] at h4
    obtain ⟨s, e, ey, _⟩ := DataW.trod_string Tryz.underlying9 h4
    refine ⟨s, drop_one e, ?_⟩
    unfold DataW.weights
    rw [Tryz.underlying29]
    refine DataW.weights_mem_each (j := 5) (t := 9) (d := y.1) rfl (by simp [hy]) _ ?_
    rw [ey]
    simp [DataW.weights]
  obtain ⟨s0, k0, w0⟩ := q0
  obtain ⟨s1, k1, w1⟩ := q1
  obtain ⟨i2, k2⟩ := q2
  obtain ⟨i3, k3⟩ := q3
  obtain ⟨s4, k4, w4⟩ := q4
  obtain ⟨s5, k5, w5⟩ := q5
  refine ⟨⟨s0, s1, i2, i3, s4, s5⟩, fun i hi => ?_, ⟨w0, w1, w4, w5⟩⟩
  obtain rfl | rfl | rfl | rfl | rfl | rfl : i = 0 ∨ i = 1 ∨ i = 2 ∨ i = 3 ∨ i = 4 ∨ i = 5 := by omega
  · exact k0
  · exact k1
  · exact k2
  · exact k3
  · exact k4
  · exact k5
theorem cells_get {W : World} {a : Addr} {n : Nat} {cs : List Value} (h : W.cells? 0 a n = some cs) (i : Nat) (hi : i < n) : W.cell? (a.add i) = cs[i]? := by
  unfold World.cells? at h
  rw [if_pos (Nat.zero_le _)] at h
  exact mapM_some_get h i i (by simp [hi])
theorem bytes33 : 1 ≤ Tryz.prog.bytesOf 29 := by decide +kernel
/-- How users and their datum go together. -/
def UserD {H : Type} (d : DataW H) (fs : List UserS) : Prop := (d = .nil ∧ fs = []) ∨ ∃ el sp, d = .slice el sp ∧ fs.length = el.length ∧ ∀ f ∈ fs, ∃ x ∈ el, WeighU f x
theorem in_users {H : Type} {enc : TypeId × Value → H} {W : World} {A : Option Addr} {n c : Nat} {d : DataW H} {p : List MemPlace} (h : DataW.Trod enc Tryz.prog W 0 (fun _ => true) true 23 (.slice A n c) d p) :
    ∃ fs : List UserS, InU W (.slice A n c) fs ∧ fs.length = n ∧ n ≤ c ∧ c ≤ maxLen ∧ UserD d fs := by
  obtain ⟨fuel, hf⟩ := h
  rcases open_slice Tryz.underlying23 hf with ⟨hcs, hx⟩ | ⟨a, len, cap, m, nn, D, Pl, hcs, _, hl, hm, hz, hx, hel⟩
  · simp [Value.cells] at hcs
    obtain ⟨rfl, rfl, rfl⟩ := hcs
    exact ⟨[], ⟨none, 0, rfl, fun j hj => absurd hj (Nat.not_lt_zero j)⟩, rfl, Nat.le_refl _, Nat.zero_le _, .inl ⟨by simpa using congrArg Prod.fst hx, rfl⟩⟩
  · simp [Value.cells] at hcs
    obtain ⟨rfl, rfl, rfl⟩ := hcs
    simp only [if_true] at hz
    have each : ∀ j, ∃ f : UserS, j < n → (∃ cs', W.cells? 0 (a.add (j * 6)) 6 = some cs' ∧ ∀ i, i < 6 → cs'[i]? = (userC f)[i]?) ∧ WeighU f (D j) := fun j => by
      by_cases hj : j < n
      · obtain ⟨cs', h1, h2⟩ := hel j (by omega)
        rw [cells33] at h1
        obtain ⟨f, hf, hw⟩ := user_cells h2
        exact ⟨f, fun _ => ⟨⟨cs', h1, hf⟩, hw⟩⟩
      · exact ⟨zeroU, fun h => absurd h hj⟩
    obtain ⟨F, hF⟩ := Classical.axiomOfChoice each
    have hlen : ((List.range n).map F).length = n := by simp
    refine ⟨(List.range n).map F, ⟨some a, c, by rw [hlen], fun j hj => ?_⟩, hlen, hl, hm, .inr ⟨_, _, congrArg Prod.fst hx, by simp, fun f hfm => ?_⟩⟩
    · rw [hlen] at hj
      obtain ⟨⟨cs', h1, h2⟩, _⟩ := hF j hj
      obtain ⟨b, off, spot⟩ := a
      obtain ⟨⟨cz, hz1, hz2⟩, _⟩ := hF 0 (by omega)
      have h00 : W.cell? (((⟨b, off, spot⟩ : Addr).add (0 * 6)).add 0) = some (.string (F 0).name) := by rw [cells_get hz1 0 (by omega), hz2 0 (by omega)]; rfl
      have hspot : spot = none := by simpa [Addr.add] using World.cell?_spot h00
      subst hspot
      refine ⟨b, off, rfl, fun i hi => ?_⟩
      have h3 := cells_get h1 i hi
      rw [add_plain, add_plain] at h3
      rw [h3, h2 i hi]
      simp
    · obtain ⟨j, hj, rfl⟩ := List.mem_map.1 hfm
      rw [List.mem_range] at hj
      exact ⟨D j, List.mem_map.2 ⟨j, List.mem_range.2 hj, rfl⟩, (hF j hj).2⟩
theorem users_len {H : Type} {ts : List TypeId} {ds : List (DataW H)} (h : (DataW.weightsEach Tryz.prog ts ds).all (· ≤ reachBytes) = true) {j : Nat} {d : DataW H} {fs : List UserS} (ht : ts[j]? = some 23) (hd : ds[j]? = some d) (hs : UserD d fs) : fs.length ≤ 140737488351232 := by
  rcases hs with ⟨_, rfl⟩ | ⟨el, sp, rfl, hl, _⟩
  · simp
  · have h1 := sized_slice h ht hd Tryz.underlying23
    have h2 := Nat.le_mul_of_pos_right (el.length + sp.length) bytes33
    simp only [reachBytes] at h1
    omega
theorem users_sized {H : Type} {ts : List TypeId} {ds : List (DataW H)} (h : (DataW.weightsEach Tryz.prog ts ds).all (· ≤ reachBytes) = true) {j : Nat} {d : DataW H} {fs : List UserS} (ht : ts[j]? = some 23) (hd : ds[j]? = some d) (hs : UserD d fs) : ∀ f ∈ fs, SzU f := by
  intro f hf
  rcases hs with ⟨_, rfl⟩ | ⟨el, sp, rfl, _, hm⟩
  · cases hf
  · obtain ⟨x, hx, hw⟩ := hm f hf
    have key : ∀ k, k ∈ x.weights Tryz.prog 29 → k ≤ 140737488351232 := fun k hk => by
      have h1 : k ∈ DataW.weights Tryz.prog 23 (.slice el sp : DataW H) := by
        unfold DataW.weights
        rw [Tryz.underlying23]
        exact List.mem_cons_of_mem _ (List.mem_append_left _ (weights_all hx hk))
      have h2 := List.all_eq_true.1 h _ (DataW.weights_mem_each ht hd _ h1)
      have h3 : k ≤ reachBytes := of_decide_eq_true h2
      exact h3
    refine ⟨?_, ?_, ?_, ?_⟩
    · rw [← sz]; exact key _ hw.name
    · rw [← sz]; exact key _ hw.pass
    · rw [← sz]; exact key _ hw.home
    · rw [← sz]; exact key _ hw.shell
end Go.Proofs.YtmfbmjnoepcigaaGreatDoor
