/- An inode's facts, opened; how many texts. -/
import Derived.Test.YthomdgejbkcljaaDoorT
import Derived.Test.YthomdgejbkcljaaDoorU
namespace Go.Proofs.YthomdgejbkcljaaDoor
open Go.ChangeShapes Go.WideShapes Go.ChangeAt Go.RowKit

theorem bytes9 : 1 ≤ Tryd.prog.bytesOf 9 := by decide +kernel
theorem strs_len {H : Type} {ts : List TypeId} {ds : List (DataW H)} (h : (DataW.weightsEach Tryd.prog ts ds).all (· ≤ reachBytes) = true) {j : Nat} {d : DataW H} {L : List ByteArray} (ht : ts[j]? = some 22) (hd : ds[j]? = some d)
    (hs : d = .nil ∧ L = [] ∨ ∃ el sp, d = .slice el sp ∧ L.length = el.length ∧ ∀ s ∈ L, .lit (.string s.data.toList) ∈ el) : L.length ≤ 140737488355328 := by
  rcases hs with ⟨_, rfl⟩ | ⟨el, sp, rfl, hl, _⟩
  · simp
  · have h1 := sized_slice h ht hd Tryd.underlying22
    have h2 := Nat.le_mul_of_pos_right (el.length + sp.length) bytes9
    simp only [reachBytes] at h1
    omega
theorem eight {cs : Array Value} (h : cs.size = 8) {a b c d e f g i : Int} (h0 : cs[0]? = some (.int .i64 a)) (h1 : cs[1]? = some (.int .i64 b)) (h2 : cs[2]? = some (.int .i64 c)) (h3 : cs[3]? = some (.int .i64 d)) (h4 : cs[4]? = some (.int .i64 e)) (h5 : cs[5]? = some (.int .i64 f)) (h6 : cs[6]? = some (.int .i64 g)) (h7 : cs[7]? = some (.int .i64 i)) :
    cs = #[.int .i64 a, .int .i64 b, .int .i64 c, .int .i64 d, .int .i64 e, .int .i64 f, .int .i64 g, .int .i64 i] := by
  apply Array.ext'
  apply List.ext_getElem?
  intro k
  rw [Array.getElem?_toList]
  by_cases hk : k < 8
  · obtain rfl | rfl | rfl | rfl | rfl | rfl | rfl | rfl : k = 0 ∨ k = 1 ∨ k = 2 ∨ k = 3 ∨ k = 4 ∨ k = 5 ∨ k = 6 ∨ k = 7 := by omega
    · exact h0
    · exact h1
    · exact h2
    · exact h3
    · exact h4
    · exact h5
    · exact h6
    · exact h7
  · rw [Array.getElem?_eq_none (by omega), List.getElem?_eq_none (by simp; omega)]
theorem in_info {H : Type} {enc : TypeId × Value → H} {W : World} {cs : Array Value} {d : DataW H} {p : List MemPlace} (hsz : cs.size = Tryd.prog.cellsOf 36) (h : DataW.Trod enc Tryd.prog W 0 (fun _ => true) true 36 (.agg cs) d p) :
    ∃ i0 i1 i2 i3 i4 i5 i6 i7 : Int, cs = #[.int .i64 i0, .int .i64 i1, .int .i64 i2, .int .i64 i3, .int .i64 i4, .int .i64 i5, .int .i64 i6, .int .i64 i7] := by
  obtain ⟨fuel, h2⟩ := h
  rw [cells36] at hsz
  obtain ⟨xs, n2, _, _, hl2, hlen2, hf⟩ := DataW.trod_struct Tryd.underlying36 h2
  have q : ∀ i, (hi : i < 8) → ∃ v : Int, cs[i]? = some (.int .i64 v) := fun i hi => by
    obtain ⟨y, hy⟩ : ∃ y, xs[i]? = some y := ⟨_, List.getElem?_eq_getElem (by rw [hlen2]; exact hi)⟩
    have h4 : DataW.trod enc Tryd.prog W 0 (fun _ => true) true n2 3 ((((Value.agg cs).cells.toList.drop i)).take (Tryd.prog.cellsOf 3)) = some y := by
      obtain rfl | rfl | rfl | rfl | rfl | rfl | rfl | rfl : i = 0 ∨ i = 1 ∨ i = 2 ∨ i = 3 ∨ i = 4 ∨ i = 5 ∨ i = 6 ∨ i = 7 := by omega
      · exact (hf 0 _ rfl).trans hy
      · exact (hf 1 _ rfl).trans hy
      · exact (hf 2 _ rfl).trans hy
      · exact (hf 3 _ rfl).trans hy
      · exact (hf 4 _ rfl).trans hy
      · exact (hf 5 _ rfl).trans hy
      · exact (hf 6 _ rfl).trans hy
      · exact (hf 7 _ rfl).trans hy
    rw [cells3] at h4
    obtain ⟨v, e, _, _⟩ := DataW.trod_int Tryd.underlying3 h4
    have e2 := drop_one e
    rw [Array.getElem?_toList] at e2
    exact ⟨v, e2⟩
  obtain ⟨i0, k0⟩ := q 0 (by omega)
  obtain ⟨i1, k1⟩ := q 1 (by omega)
  obtain ⟨i2, k2⟩ := q 2 (by omega)
  obtain ⟨i3, k3⟩ := q 3 (by omega)
  obtain ⟨i4, k4⟩ := q 4 (by omega)
  obtain ⟨i5, k5⟩ := q 5 (by omega)
  obtain ⟨i6, k6⟩ := q 6 (by omega)
  obtain ⟨i7, k7⟩ := q 7 (by omega)
  exact ⟨i0, i1, i2, i3, i4, i5, i6, i7, eight hsz k0 k1 k2 k3 k4 k5 k6 k7⟩
end Go.Proofs.YthomdgejbkcljaaDoor
