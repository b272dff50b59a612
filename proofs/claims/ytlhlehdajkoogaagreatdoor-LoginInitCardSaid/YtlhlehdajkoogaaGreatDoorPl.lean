/- LoginInit's plain law: gettys and children. -/
namespace Go.Proofs.YtlhlehdajkoogaaGreatDoor.LGI
inductive Md where
  | fork (g : List Int) (t : Nat)
  | wait (g : List Int)
def keepsM (g : List Int) (t : Nat) : Md :=
  if h : t < g.length then (if g[t] = 0 then .fork g t else keepsM g (t + 1)) else .wait g
termination_by g.length - t
def Md.row : Md → List Int
  | .fork g _ => g
  | .wait g => g
def Md.ok : Md → Prop
  | .fork g t => g[t]? = some 0 ∧ ∀ j, j < t → g[j]? ≠ some 0
  | .wait g => ∀ x ∈ g, x ≠ 0
/-- What holds when a call is told. -/
structure Inv (T : Nat) (md : Md) (next : Int) (live : List Int) (want : Nat) : Prop where
  ok : md.ok
  len : md.row.length = T
  cnt : md.row.count 0 = want
  perm : (md.row.filter (· ≠ 0)).Perm live
  nod : live.Nodup
  rng : ∀ x ∈ live, 2 ≤ x ∧ x < next
theorem keepsM_row (g : List Int) (t : Nat) : (keepsM g t).row = g := by
  fun_induction keepsM g t with
  | case1 => rfl
  | case2 _ _ _ ih => exact ih
  | case3 => rfl
theorem keepsM_in (g : List Int) (t : Nat) : match keepsM g t with
    | .fork g' t' => t' < g'.length
    | .wait _ => True := by
  fun_induction keepsM g t with
  | case1 _ h => exact h
  | case2 _ _ _ ih => exact ih
  | case3 => trivial
theorem keepsM_ok (g : List Int) (t : Nat) (h : ∀ j, j < t → g[j]? ≠ some 0) : (keepsM g t).ok := by
  fun_induction keepsM g t with
  | case1 t h1 h2 => exact ⟨by rw [List.getElem?_eq_getElem h1, h2], h⟩
  | case2 t h1 h2 ih =>
    refine ih fun j hj => ?_
    by_cases he : j = t
    · subst he; rw [List.getElem?_eq_getElem h1]; simpa using h2
    · exact h j (by omega)
  | case3 t h1 =>
    intro x hx hx0
    obtain ⟨j, hj, rfl⟩ := List.getElem_of_mem hx
    exact h j (by omega) (by rw [List.getElem?_eq_getElem hj, hx0])
theorem count_set {g : List Int} {t : Nat} {x : Int} (h : g[t]? = some 0) (hx : x ≠ 0) : (g.set t x).count 0 + 1 = g.count 0 ∧ ((g.set t x).filter (· ≠ 0)).Perm (g.filter (· ≠ 0) ++ [x]) := by
  induction g generalizing t with
  | nil => simp at h
  | cons a g ih =>
    cases t with
    | zero =>
      obtain rfl : a = 0 := by simpa using h
      refine ⟨by simp [hx], ?_⟩
      simp only [List.set_cons_zero, List.filter_cons, ne_eq, hx, not_false_eq_true, decide_true, if_true, not_true_eq_false, decide_false, Bool.false_eq_true, if_false]
      exact (List.perm_append_comm (l₁ := [x])).trans (List.Perm.refl _)
    | succ t =>
      obtain ⟨h1, h2⟩ := ih (t := t) (by simpa using h)
      constructor
      · simp only [List.set_cons_succ, List.count_cons]; omega
      · simp only [List.set_cons_succ, List.filter_cons]
        split
        · exact h2.cons a
        · exact h2
theorem Inv.start (T : Nat) : Inv T (keepsM (List.replicate T 0) 0) 2 [] T := by
  refine ⟨keepsM_ok _ _ (fun j hj => by omega), ?_, ?_, ?_, List.nodup_nil, fun x hx => by simp at hx⟩
  · rw [keepsM_row]; simp
  · rw [keepsM_row]; simp
  · rw [keepsM_row]; simp
theorem Inv.fork {T : Nat} {g : List Int} {t : Nat} {next : Int} {live : List Int} {want : Nat} (h : Inv T (.fork g t) next live want) (hn : 2 ≤ next) :
    1 ≤ want ∧ Inv T (keepsM (g.set t next) (t + 1)) (next + 1) (live ++ [next]) (want - 1) := by
  obtain ⟨⟨h0, h1⟩, h2, h3, h4, h5, h6⟩ := h
  dsimp only [Md.row] at h2 h3 h4
  obtain ⟨c1, c2⟩ := count_set (x := next) h0 (by omega)
  refine ⟨by omega, keepsM_ok _ _ ?_, ?_, ?_, ?_, ?_, ?_⟩
  · intro j hj
    by_cases he : j = t
    · subst he
      rw [List.getElem?_set_self (by rcases Nat.lt_or_ge j g.length with h | h; exact h; rw [List.getElem?_eq_none h] at h0; cases h0)]
      simp; omega
    · rw [List.getElem?_set_ne (by omega)]; exact h1 j (by omega)
  · rw [keepsM_row]; simpa using h2
  · rw [keepsM_row]; omega
  · rw [keepsM_row]; exact c2.trans (h4.append_right _)
  · rw [List.nodup_append]
    refine ⟨h5, by simp, ?_⟩
    intro a ha b hb
    have := h6 a ha
    simp at hb
    omega
  · intro x hx
    simp at hx
    rcases hx with hx | hx
    · have := h6 x hx; omega
    · omega
def gone (g : List Int) (p : Int) : List Int := g.map fun x => if x = p then 0 else x
theorem gone_none {g : List Int} {p : Int} (h : ∀ x ∈ g, x ≠ p) : gone g p = g := by
  unfold gone
  conv => rhs; rw [← List.map_id g]
  exact List.map_congr_left fun x hx => by rw [if_neg (h x hx)]; rfl
theorem Inv.other {T : Nat} {g : List Int} {next : Int} {live : List Int} {want : Nat} (h : Inv T (.wait g) next live want) {p : Int} (hp : next ≤ p) :
    want = 0 ∧ live.length = T ∧ Inv T (keepsM (gone g p) 0) next live want := by
  obtain ⟨h0, h2, h3, h4, h5, h6⟩ := h
  dsimp only [Md.row, Md.ok] at h0 h2 h3 h4
  have hf : g.filter (· ≠ 0) = g := List.filter_eq_self.2 fun x hx => by simpa using h0 x hx
  have hg : gone g p = g := gone_none fun x hx => by
    have := h6 x (h4.mem_iff.1 (by rw [hf]; exact hx)); omega
  rw [hg]
  refine ⟨?_, ?_, keepsM_ok _ _ (fun j hj => by omega), by rw [keepsM_row]; exact h2, by rw [keepsM_row]; exact h3, by rw [keepsM_row]; exact h4, h5, h6⟩
  · rw [← h3]; exact List.count_eq_zero.2 fun hh => h0 0 hh rfl
  · rw [← h4.length_eq, hf]; exact h2
theorem gone_count {g : List Int} {p : Int} (h0 : ∀ x ∈ g, x ≠ 0) : (gone g p).count 0 = g.count p ∧ (gone g p).filter (· ≠ 0) = g.filter (· ≠ p) := by
  unfold gone
  induction g with
  | nil => exact ⟨rfl, rfl⟩
  | cons a g ih =>
    obtain ⟨h1, h2⟩ := ih fun x hx => h0 x (by simp [hx])
    have ha := h0 a (by simp)
    rw [List.map_cons, List.count_cons, List.count_cons, List.filter_cons, List.filter_cons, h1, h2]
    by_cases he : a = p
    · subst he; simp
    · simp [he, ha]
theorem Inv.wait {T : Nat} {g : List Int} {next : Int} {live : List Int} {want : Nat} (h : Inv T (.wait g) next live want) {k : Nat} {p : Int} (hp : live[k]? = some p) :
    Inv T (keepsM (gone g p) 0) next (live.take k ++ live.drop (k + 1)) 1 := by
  obtain ⟨h0, h2, h3, h4, h5, h6⟩ := h
  dsimp only [Md.row, Md.ok] at h0 h2 h3 h4
  have hf : g.filter (· ≠ 0) = g := List.filter_eq_self.2 fun x hx => by simpa using h0 x hx
  rw [hf] at h4
  obtain ⟨c1, c2⟩ := gone_count (p := p) h0
  have hk : k < live.length := by
    rcases Nat.lt_or_ge k live.length with h | h
    · exact h
    · rw [List.getElem?_eq_none h] at hp; cases hp
  have hpk : live[k] = p := by rw [List.getElem?_eq_getElem hk] at hp; exact Option.some.inj hp
  have he : live.take k ++ live.drop (k + 1) = live.eraseIdx k := (List.eraseIdx_eq_take_drop_succ live k).symm
  have hee : live.eraseIdx k = live.erase p := by
    rw [← hpk, List.erase_eq_eraseIdx_of_idxOf rfl, h5.idxOf_getElem k hk]
  refine ⟨keepsM_ok _ _ (fun j hj => by omega), by rw [keepsM_row]; simpa [gone] using h2, ?_, ?_, ?_, ?_⟩
  · rw [keepsM_row, c1, h4.count_eq]
    have hm : p ∈ live := hpk ▸ List.getElem_mem hk
    exact h5.count.trans (if_pos hm)
  · rw [keepsM_row, c2, he, hee]
    have : live.erase p = live.filter (· != p) := h5.erase_eq_filter p
    rw [this]
    have h7 : (fun x : Int => decide (x ≠ p)) = (· != p) := by funext x; by_cases hx : x = p <;> simp [bne, hx]
    rw [h7]
    exact h4.filter _
  · rw [he, hee]; exact h5.erase p
  · intro x hx
    rw [he, hee] at hx
    exact h6 x (List.mem_of_mem_erase hx)
theorem gone_len (g : List Int) (p : Int) : (gone g p).length = g.length := by simp [gone]
theorem gone_step {g : List Int} {i : Nat} (hi : i < g.length) (p : Int) :
    (g[i] = p → (gone (g.take i) p ++ g.drop i).set i 0 = gone (g.take (i + 1)) p ++ g.drop (i + 1)) ∧ (g[i] ≠ p → gone (g.take i) p ++ g.drop i = gone (g.take (i + 1)) p ++ g.drop (i + 1)) := by
  have e1 : g.drop i = g[i] :: g.drop (i + 1) := List.drop_eq_getElem_cons hi
  have e2 : g.take (i + 1) = g.take i ++ [g[i]] := List.take_succ_eq_append_getElem hi
  have e3 : (gone (g.take i) p).length = i := by rw [gone_len, List.length_take]; omega
  rw [e2, e1]
  constructor
  · intro h
    rw [List.set_append_right _ _ (by omega), e3, Nat.sub_self, List.set_cons_zero]
    unfold gone
    rw [List.map_append, List.map_cons, List.map_nil, if_pos h, List.append_assoc]; rfl
  · intro h
    unfold gone
    rw [List.map_append, List.map_cons, List.map_nil, if_neg h, List.append_assoc]; rfl
end Go.Proofs.YtlhlehdajkoogaaGreatDoor.LGI
