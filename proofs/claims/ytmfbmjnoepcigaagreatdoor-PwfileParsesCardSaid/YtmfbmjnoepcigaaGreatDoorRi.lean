/- Plain: a line cut at its colons, and what the document's user makes of it. -/
import Derived.Test.YtmfbmjnoepcigaaGreatDoorRe
import Derived.Test.YtmfbmjnoepcigaaGreatDoorL
namespace Go.Proofs.YtmfbmjnoepcigaaGreatDoor
open Go.RowKit

def SplAt (s : ByteArray) (k f : Nat) (l : List ByteArray) : Prop :=
  f ≤ k ∧ splitD 58 [] s.data.toList = l.map (fun x => x.data.toList) ++ splitD 58 ((s.data.toList.take k).drop f) (s.data.toList.drop k)
theorem SplAt.start (s : ByteArray) : SplAt s 0 0 [] := ⟨Nat.le_refl _, by simp⟩
theorem SplAt.none {s : ByteArray} {k : Nat} : (s.data.toList.take k).drop k = [] := by
  rw [List.drop_eq_nil_iff, List.length_take]; omega
theorem SplAt.go {s : ByteArray} {k f : Nat} {l : List ByteArray} (h : SplAt s k f l) (hk : k < s.size) (hc : s[k] ≠ 58) : SplAt s (k + 1) f l := by
  obtain ⟨h1, h2⟩ := h
  refine ⟨by omega, ?_⟩
  have hkl : k < s.data.toList.length := by rw [sz]; exact hk
  have hg : s.data.toList[k] = s[k] := by have := get_at s k hk; rw [List.getElem?_eq_getElem hkl] at this; exact Option.some.inj this
  have hfl : f ≤ (s.data.toList.take k).length := by rw [List.length_take, sz]; omega
  rw [h2, List.drop_eq_getElem_cons hkl, hg, List.take_succ_eq_append_getElem hkl, hg, List.drop_append_of_le_length hfl]
  simp [splitD, hc]
theorem SplAt.add {s : ByteArray} {k f : Nat} {l : List ByteArray} (h : SplAt s k f l) (hk : k < s.size) (hc : s[k] = 58) : SplAt s (k + 1) (k + 1) (l ++ [s.extract f k]) := by
  obtain ⟨h1, h2⟩ := h
  refine ⟨by omega, ?_⟩
  have hkl : k < s.data.toList.length := by rw [sz]; exact hk
  have hg : s.data.toList[k] = s[k] := by have := get_at s k hk; rw [List.getElem?_eq_getElem hkl] at this; exact Option.some.inj this
  rw [h2, List.drop_eq_getElem_cons hkl, hg, hc, SplAt.none, List.map_append]
  simp only [splitD, if_true, List.map_cons, List.map_nil, List.append_assoc, List.cons_append, List.nil_append]
  rw [ex_data]
theorem SplAt.end {s : ByteArray} {f : Nat} {l : List ByteArray} (h : SplAt s s.size f l) : splitD 58 [] s.data.toList = (l ++ [s.extract f s.size]).map (fun x => x.data.toList) := by
  have e : s.data.toList.drop s.size = [] := List.drop_of_length_le (by rw [sz]; exact Nat.le_refl _)
  rw [h.2, e]
  simp only [splitD, List.map_append, List.map_cons, List.map_nil]
  rw [ex_data]
theorem numZ_dec {n : Nat} (h : n ≤ 65535) : numZ (decD n) = n := by
  obtain ⟨h1, h2, h3, h4⟩ := decD_facts 4 n (by omega)
  unfold numZ
  rw [if_pos ⟨by omega, by omega, h1⟩, h4]
theorem user_not {s : ByteArray} {l : List ByteArray} (h : splitD 58 [] s.data.toList = l.map (fun x => x.data.toList)) (hl : l.length ≠ 6) (v : UserS) : ¬ IsLine s.data.toList v := fun hv => by
  have := line_split hv.1
  rw [hv.2, h] at this
  have e := congrArg List.length this
  simp at e
  exact hl e
theorem user_is {s x0 x1 x2 x3 x4 x5 : ByteArray} (h : splitD 58 [] s.data.toList = [x0, x1, x2, x3, x4, x5].map (fun x => x.data.toList)) {v : UserS} (hv : IsLine s.data.toList v) :
    v = ⟨x0, x1, numZ x2.data.toList, numZ x3.data.toList, x4, x5⟩ := by
  have e := line_split hv.1
  rw [hv.2, h] at e
  have m := mayP hv.1
  have i0 := m.id0
  have i1 := m.id1
  have j0 := m.g0
  have j1 := m.g1
  simp only [List.map_cons, List.map_nil, List.cons.injEq, and_true] at e
  obtain ⟨a0, a1, a2, a3, a4, a5⟩ := e
  rw [a2, a3, numZ_dec (by omega), numZ_dec (by omega)]
  obtain ⟨b0, b1, b2, b3, b4, b5⟩ := v
  simp only at *
  simp only [UserS.mk.injEq]
  exact ⟨(ba_eq a0).symm, (ba_eq a1).symm, by omega, by omega, (ba_eq a4).symm, (ba_eq a5).symm⟩
theorem user_of {s x0 x1 x2 x3 x4 x5 : ByteArray} (h : splitD 58 [] s.data.toList = [x0, x1, x2, x3, x4, x5].map (fun x => x.data.toList)) {u : UserS} (hu : u = ⟨x0, x1, numZ x2.data.toList, numZ x3.data.toList, x4, x5⟩) :
    (mayB u = false → ∀ v, ¬ IsLine s.data.toList v) ∧ ((⟨(lineB u).toArray⟩ : ByteArray) ≠ s → ∀ v, ¬ IsLine s.data.toList v) ∧ (mayB u = true → (⟨(lineB u).toArray⟩ : ByteArray) = s → IsLine s.data.toList u) := by
  refine ⟨fun hm v hv => ?_, fun hn v hv => ?_, fun hm hs => ⟨hm, by rw [← hs]⟩⟩
  · have e := user_is h hv
    rw [← hu] at e
    have := hv.1
    rw [e, hm] at this
    cases this
  · have e := user_is h hv
    rw [← hu] at e
    apply hn
    apply ba_eq
    have := hv.2
    rw [e] at this
    exact this
theorem six_of {l : List ByteArray} (h : l.length = 6) : ∃ x0 x1 x2 x3 x4 x5, l = [x0, x1, x2, x3, x4, x5] := by
  match l, h with
  | [x0, x1, x2, x3, x4, x5], _ => exact ⟨x0, x1, x2, x3, x4, x5, rfl⟩
theorem piece_le {s : ByteArray} {l : List ByteArray} (h : splitD 58 [] s.data.toList = l.map (fun x => x.data.toList)) : ∀ x ∈ l, x.size ≤ s.size := by
  intro x hx
  have hp := pieces_data s
  rw [h] at hp
  have hx' : x.data.toList ∈ (pieces s).map (·.data.toList) := by rw [hp]; exact List.mem_map_of_mem hx
  obtain ⟨y, hy, hyx⟩ := List.mem_map.1 hx'
  have e : y = x := ba_eq hyx
  subst e
  exact piece_size _ _ _ _ hy
end Go.Proofs.YtmfbmjnoepcigaaGreatDoor
