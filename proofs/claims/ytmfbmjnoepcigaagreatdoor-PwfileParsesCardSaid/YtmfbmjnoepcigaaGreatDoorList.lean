/- Plain laws of lists of users: printed, parsed. -/
import Derived.Test.YtmfbmjnoepcigaaGreatDoorPlain
namespace Go.Proofs.YtmfbmjnoepcigaaGreatDoor

def namesU (L : List UserS) : List ByteArray := L.map (·.name)
def rightB (L : List UserS) : Bool := decide (L.length ≤ 8) && L.all mayB && decide ((namesU L).Nodup)
structure RightU (L : List UserS) : Prop where
  len : L.length ≤ 8
  may : ∀ u ∈ L, mayB u = true
  nodup : (namesU L).Nodup
theorem rightB_iff (L : List UserS) : rightB L = true ↔ RightU L := by
  unfold rightB
  simp only [Bool.and_eq_true, decide_eq_true_eq, List.all_eq_true]
  exact ⟨fun ⟨⟨h1, h2⟩, h3⟩ => ⟨h1, h2, h3⟩, fun h => ⟨⟨h.len, h.may⟩, h.nodup⟩⟩
def printB (L : List UserS) : Bytes := L.flatMap (fun u => lineB u ++ [10])
theorem printB_nil : printB [] = [] := rfl
theorem printB_cons (u : UserS) (L : List UserS) : printB (u :: L) = lineB u ++ 10 :: printB L := by simp [printB]
theorem printB_app (L M : List UserS) : printB (L ++ M) = printB L ++ printB M := by simp [printB]
theorem printB_snoc (L : List UserS) (u : UserS) : printB (L ++ [u]) = printB L ++ lineB u ++ [10] := by simp [printB]
def IsLine (s : Bytes) (u : UserS) : Prop := mayB u = true ∧ lineB u = s
open Classical in
noncomputable def readO (s : Bytes) : Option UserS := if h : ∃ u, IsLine s u then some (Classical.choose h) else none
theorem readO_of {s : Bytes} {u : UserS} (h : IsLine s u) : readO s = some u := by
  have hx : ∃ u, IsLine s u := ⟨u, h⟩
  unfold readO
  rw [dif_pos hx]
  have hc := Classical.choose_spec hx
  rw [line_inj hc.1 h.1 (hc.2.trans h.2.symm)]
theorem readO_some {s : Bytes} {u : UserS} (h : readO s = some u) : IsLine s u := by
  unfold readO at h
  split at h
  · rename_i hx
    rw [← Option.some.inj h]
    exact Classical.choose_spec hx
  · cases h
theorem readO_none {s : Bytes} (h : ∀ u, ¬ IsLine s u) : readO s = none := by
  unfold readO
  rw [dif_neg]
  rintro ⟨u, hu⟩
  exact h u hu
/-- The first line of bytes, and what is behind it. -/
def lineOf (t : Bytes) : Bytes := t.takeWhile (fun c => decide (c ≠ 10))
def restOf (t : Bytes) : Bytes := t.drop ((lineOf t).length + 1)
theorem restOf_lt {t : Bytes} (h : t ≠ []) : (restOf t).length < t.length := by
  unfold restOf
  rw [List.length_drop]
  have := List.length_pos_iff.2 h
  omega
theorem lineOf_app {s : Bytes} (h : 10 ∉ s) (r : Bytes) : lineOf (s ++ 10 :: r) = s := by
  unfold lineOf
  rw [List.takeWhile_append_of_pos (fun c hc => by
    have : c ≠ 10 := fun e => h (e ▸ hc)
    simpa using this)]
  simp
theorem lineOf_end {s : Bytes} (h : 10 ∉ s) : lineOf s = s := by
  unfold lineOf
  have := List.takeWhile_append_of_pos (p := fun c : UInt8 => decide (c ≠ 10)) (l₁ := s) (l₂ := []) (fun c hc => by
    have : c ≠ 10 := fun e => h (e ▸ hc)
    simpa using this)
  simpa using this
theorem restOf_app {s : Bytes} (h : 10 ∉ s) (r : Bytes) : restOf (s ++ 10 :: r) = r := by
  unfold restOf
  rw [lineOf_app h]
  simp [List.drop_append]
theorem mem_cut : ∀ {t : Bytes}, 10 ∈ t → ∃ s r, t = s ++ 10 :: r ∧ 10 ∉ s
  | [], h => by cases h
  | c :: l, h => by
    by_cases hc : c = 10
    · exact ⟨[], l, by simp [hc], by simp⟩
    · rcases List.mem_cons.1 h with e | hm
      · exact absurd e.symm hc
      · obtain ⟨s, r, e, hs⟩ := mem_cut hm
        refine ⟨c :: s, r, by simp [e], ?_⟩
        simp only [List.mem_cons, not_or]
        exact ⟨fun e => hc e.symm, hs⟩
theorem line_cut {t : Bytes} (h : 10 ∈ t) : t = lineOf t ++ 10 :: restOf t ∧ 10 ∉ lineOf t := by
  obtain ⟨s, r, rfl, hs⟩ := mem_cut h
  rw [lineOf_app hs, restOf_app hs]
  exact ⟨rfl, hs⟩
theorem line_last {t : Bytes} (h : 10 ∉ t) : lineOf t = t := lineOf_end h
open Classical in
/-- What Parse tells of bytes, behind the users that were read: users, or a line's number and an error. -/
noncomputable def parseL (L : List UserS) (n : Nat) (t : Bytes) : Except (Nat × Int) (List UserS) :=
  if ht : t = [] then .ok L
  else match readO (lineOf t) with
    | none => .error (n, 17)
    | some u => if 10 ∉ t then .error (n, 17) else if u.name ∈ namesU L then .error (n, 5) else if L.length = 8 then .error (n, 12)
      else parseL (L ++ [u]) (n + 1) (restOf t)
termination_by t.length
decreasing_by exact restOf_lt ht
theorem parseL_nil (L : List UserS) (n : Nat) : parseL L n [] = .ok L := by rw [parseL]; simp
open Classical in
theorem parseL_step {L : List UserS} {n : Nat} {u : UserS} (hu : mayB u = true) (r : Bytes) :
    parseL L n (lineB u ++ 10 :: r) = if u.name ∈ namesU L then .error (n, 5) else if L.length = 8 then .error (n, 12) else parseL (L ++ [u]) (n + 1) r := by
  have h10 := line_no10 hu
  rw [parseL, dif_neg (by simp), lineOf_app h10, readO_of ⟨hu, rfl⟩, restOf_app h10]
  simp
theorem parseL_last {L : List UserS} {n : Nat} {t : Bytes} (h0 : t ≠ []) (h : 10 ∉ t) : parseL L n t = .error (n, 17) := by
  rw [parseL, dif_neg h0]
  split
  · rfl
  · rw [if_pos h]
theorem parseL_bad {L : List UserS} {n : Nat} {t : Bytes} (h0 : t ≠ []) (h : ∀ u, ¬ IsLine (lineOf t) u) : parseL L n t = .error (n, 17) := by
  rw [parseL, dif_neg h0, readO_none h]
theorem parse_print : ∀ (M L : List UserS) (n : Nat) (r : Bytes), RightU (L ++ M) → parseL L n (printB M ++ r) = parseL (L ++ M) (n + M.length) r
  | [], L, n, r, _ => by simp [printB]
  | u :: M, L, n, r, h => by
    have hu := h.may u (by simp)
    have hl := h.len
    have hn : u.name ∉ namesU L := by
      have := h.nodup
      unfold namesU at this ⊢
      rw [List.map_append, List.nodup_append] at this
      intro hm
      exact this.2.2 _ hm _ (by simp) rfl
    simp only [List.length_append, List.length_cons] at hl
    rw [printB_cons, List.append_assoc, List.cons_append, parseL_step hu, if_neg hn, if_neg (by omega), parse_print M (L ++ [u]) (n + 1) r (by simpa using h)]
    simp only [List.append_assoc, List.cons_append, List.nil_append, List.length_cons]
    rw [show n + 1 + M.length = n + (M.length + 1) by omega]
theorem parse_whole : ∀ (k : Nat) (t : Bytes) (L M : List UserS) (n : Nat), t.length ≤ k → RightU L → parseL L n t = .ok M → RightU M ∧ printB M = printB L ++ t
  | k, t, L, M, n, hk, hL, h => by
    by_cases ht : t = []
    · subst ht
      rw [parseL_nil] at h
      cases h
      exact ⟨hL, by simp⟩
    · rw [parseL, dif_neg ht] at h
      cases hr : readO (lineOf t) with
      | none => rw [hr] at h; cases h
      | some u =>
        rw [hr] at h
        simp only at h
        split at h
        · cases h
        · rename_i h10
          split at h
          · cases h
          · rename_i hn
            split at h
            · cases h
            · rename_i h8
              obtain ⟨hu, hul⟩ := readO_some hr
              have hlt := restOf_lt ht
              match k, hk with
              | 0, hk => exact absurd (List.length_eq_zero_iff.1 (by omega)) ht
              | k + 1, hk =>
                have hL2 : RightU (L ++ [u]) := ⟨by have := hL.len; simp; omega, fun v hv => by
                  rcases List.mem_append.1 hv with hv | hv
                  · exact hL.may v hv
                  · simp at hv; rw [hv]; exact hu, by
                  unfold namesU at hn ⊢
                  rw [List.map_append, List.nodup_append]
                  refine ⟨hL.nodup, by simp, ?_⟩
                  rintro a ha b hb rfl
                  simp at hb
                  rw [hb] at ha
                  exact hn ha⟩
                obtain ⟨h1, h2⟩ := parse_whole k (restOf t) (L ++ [u]) M (n + 1) (by omega) hL2 h
                refine ⟨h1, ?_⟩
                have h10' : 10 ∈ t := by
                  apply Classical.byContradiction
                  exact fun hh => h10 hh
                obtain ⟨hc, _⟩ := line_cut h10'
                rw [h2, printB_snoc, hul]
                conv => rhs; rw [hc]
                simp
theorem rightU_nil : RightU [] := ⟨by simp, (fun u h => by cases h), by simp [namesU]⟩
/-- A text of users, one that is right, read. -/
theorem parse_of {L : List UserS} (h : RightU L) (n : Nat) : parseL [] n (printB L) = .ok L := by
  have := parse_print L [] n [] (by simpa using h)
  simpa [parseL_nil] using this
theorem parse_is {t : Bytes} {L : List UserS} (n : Nat) (h : parseL [] n t = .ok L) : RightU L ∧ printB L = t := by
  have := parse_whole t.length t [] L n (Nat.le_refl _) rightU_nil h
  simpa [printB_nil] using this
/-- All but the last byte. -/
theorem parse_short {L : List UserS} (h : RightU L) (h0 : L ≠ []) : parseL [] 1 ((printB L).take ((printB L).length - 1)) = .error (L.length, 17) := by
  obtain ⟨M, u, rfl⟩ : ∃ M u, L = M ++ [u] := ⟨L.dropLast, L.getLast h0, (List.dropLast_concat_getLast h0).symm⟩
  have hu := h.may u (by simp)
  have e : (printB (M ++ [u])).take ((printB (M ++ [u])).length - 1) = printB M ++ lineB u := by
    rw [printB_snoc, List.length_append, List.length_singleton, Nat.add_sub_cancel]
    exact List.take_left
  have hM : RightU ([] ++ M) := ⟨by have := h.len; simp at this ⊢; omega, fun v hv => h.may v (by simp at hv ⊢; exact .inl hv), by
    have := h.nodup
    unfold namesU at this ⊢
    rw [List.map_append, List.nodup_append] at this
    exact this.1⟩
  rw [e, parse_print M [] 1 (lineB u) hM, parseL_last _ (line_no10 hu)]
  · simp; omega
  · unfold lineB; simp
/-- A text twice. -/
theorem parse_twice {t : Bytes} {L : List UserS} (h : parseL [] 1 t = .ok L) (h0 : t ≠ []) : parseL [] 1 (t ++ t) = .error (L.length + 1, 5) := by
  obtain ⟨hR, rfl⟩ := parse_is 1 h
  cases L with
  | nil => exact absurd rfl h0
  | cons u M =>
    rw [parse_print (u :: M) [] 1 (printB (u :: M)) (by simpa using hR), printB_cons, parseL_step (hR.may u (by simp)), List.nil_append, if_pos (by simp [namesU])]
    simp; omega
end Go.Proofs.YtmfbmjnoepcigaaGreatDoor
