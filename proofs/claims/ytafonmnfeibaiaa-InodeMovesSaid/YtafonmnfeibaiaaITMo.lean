/- A tree of inodes, plain: two directories and a file that is moved to and fro. No program in sight. -/
import Derived.Test.YtafonmnfeibaiaaITPe
namespace Go.Proofs.Ytafonmnfeibaiaa.IT
open Go.RowKit

def dirN (mode : Int) (names : List (Bytes × Nat)) (holds parent : Nat) : Nd := ⟨1, mode, 0, 0, 0, holds, [], names, parent⟩
def fileN (data : Bytes) : Nd := ⟨0, 420, 0, 0, 0, 1, data, [], 0⟩
/-- The file stands in directory d under nm. -/
def movesT (data : Bytes) (d : Nat) (nm : Bytes) : Tr := fun k =>
  if k = 1 then some (dirN 493 [([97], 2), ([98], 3)] 0 1)
  else if k = 2 then some (dirN 493 (if d = 2 then [(nm, 4)] else []) 1 1)
  else if k = 3 then some (dirN 493 (if d = 3 then [(nm, 4)] else []) 1 1)
  else if k = 4 then some (fileN data)
  else none
theorem moves_dir {data : Bytes} {d : Nat} {nm : Bytes} {j : Nat} (hj : j = 2 ∨ j = 3) : movesT data d nm j = some (dirN 493 (if d = j then [(nm, 4)] else []) 1 1) := by
  rcases hj with rfl | rfl <;> rfl
theorem del_one (nm : Bytes) : delN nm [(nm, 4)] = [] := by
  unfold delN; simp
theorem moves_step {ok : Bytes → Bool} {data : Bytes} {d to : Nat} {nm as : Bytes} {e : Int} {S' : Tr} (hd : d = 2 ∨ d = 3) (ht : to = 2 ∨ to = 3) (h : isMove ok (movesT data d nm) d nm to as e S') : (ok as = true ∧ e = 0 ∧ S' = movesT data to as) ∨ (ok as = false ∧ e = 1 ∧ S' = movesT data d nm) := by
  unfold isMove at h
  have hf : findN nm [(nm, 4)] = some 4 := by unfold findN; simp
  have h4 : movesT data d nm 4 = some (fileN data) := rfl
  rw [moves_dir hd, moves_dir ht] at h
  dsimp only at h
  rw [if_pos rfl] at h
  rw [if_neg (by intro hh; rcases hh with hh | hh <;> exact hh rfl)] at h
  have en : (dirN 493 [(nm, 4)] 1 1).names = [(nm, 4)] := rfl
  rw [en, hf] at h
  obtain ⟨m, hm, h⟩ := h
  rw [h4] at hm
  obtain rfl := Option.some.inj hm
  by_cases hok : ok as = false
  · rw [if_pos hok] at h
    exact .inr ⟨hok, h.1, h.2⟩
  rw [if_neg hok, if_neg (fun hh => absurd (show (0 : Int) = 1 from hh.1) (by decide))] at h
  have hok2 : ok as = true := by cases hb : ok as with | true => rfl | false => exact absurd hb hok
  have fin : ∀ {q1 m1 : Nd}, delT (movesT data d nm) d 4 nm (dirN 493 [(nm, 4)] 1 1) (fileN data) to = some q1 → delT (movesT data d nm) d 4 nm (dirN 493 [(nm, 4)] 1 1) (fileN data) 4 = some m1 → entT (delT (movesT data d nm) d 4 nm (dirN 493 [(nm, 4)] 1 1) (fileN data)) to 4 as q1 m1 = movesT data to as := by
    intro q1 m1 hq hm1
    have hd4 : (4 : Nat) ≠ d := by omega
    have ht4 : to ≠ 4 := by omega
    rw [del_at_x hd4] at hm1
    obtain rfl := Option.some.inj hm1
    have eq1 : q1 = dirN 493 [] 1 1 := by
      by_cases htd : to = d
      · rw [htd, del_at_d] at hq
        rw [← Option.some.inj hq]
        show dirN 493 (delN nm [(nm, 4)]) 1 1 = _
        rw [del_one]
      · rw [del_at htd ht4, moves_dir ht, if_neg (Ne.symm htd)] at hq
        exact (Option.some.inj hq).symm
    subst eq1
    funext j
    by_cases j1 : j = to
    · subst j1
      show upd _ j _ j = _
      rw [upd_same, moves_dir ht, if_pos rfl]
      rfl
    · show upd _ to _ j = _
      rw [upd_other _ _ j1]
      by_cases j2 : j = 4
      · subst j2
        rw [upd_same]
        rfl
      · rw [upd_other _ _ j2]
        by_cases j3 : j = d
        · subst j3
          rw [del_at_d, moves_dir hd, if_neg (Ne.symm j1)]
          show some (dirN 493 (delN nm [(nm, 4)]) 1 1) = _
          rw [del_one]
        · rw [del_at j3 j2]
          by_cases j4 : j = 2 ∨ j = 3
          · rw [moves_dir j4, moves_dir j4, if_neg (Ne.symm j3), if_neg (Ne.symm j1)]
          · unfold movesT
            by_cases j5 : j = 1
            · rw [if_pos j5, if_pos j5]
            · rw [if_neg j5, if_neg j5, if_neg (fun e => j4 (.inl e)), if_neg (fun e => j4 (.inl e)), if_neg (fun e => j4 (.inr e)), if_neg (fun e => j4 (.inr e))]
  refine .inl ⟨hok2, ?_⟩
  by_cases htd : d = to
  · rw [if_pos htd] at h
    by_cases hn : as = nm
    · rw [show (dirN 493 [(nm, 4)] 1 1).names = [(nm, 4)] from rfl, hn, hf] at h
      dsimp only at h
      rw [if_pos rfl] at h
      refine ⟨h.1, ?_⟩
      rw [h.2, hn, htd]
    · have hfn : findN as [(nm, 4)] = none := by unfold findN; simp [Ne.symm hn]
      rw [show (dirN 493 [(nm, 4)] 1 1).names = [(nm, 4)] from rfl, hfn] at h
      dsimp only at h
      rw [if_neg (fun hh => hh.1 htd)] at h
      obtain ⟨a1, q1, m1, hq, hm1, rfl⟩ := h
      exact ⟨a1, fin hq hm1⟩
  · rw [if_neg htd] at h
    have hfn : findN as [] = none := rfl
    rw [show (dirN 493 [] 1 1).names = [] from rfl, hfn] at h
    dsimp only at h
    rw [if_neg (fun hh => by have := hh.2; simp at this)] at h
    obtain ⟨a1, q1, m1, hq, hm1, rfl⟩ := h
    exact ⟨a1, fin hq hm1⟩
theorem moves_one (data : Bytes) (d : Nat) (nm : Bytes) : movesT data d nm 1 = some (dirN 493 [([97], 2), ([98], 3)] 0 1) := rfl
theorem find_a : findN [97] [([97], 2), ([98], 3)] = some 2 := rfl
/-- Not into itself. -/
theorem moves_end1 {ok : Bytes → Bool} {data : Bytes} {d : Nat} {nm as : Bytes} {e : Int} {S' : Tr} (hok : ok as = true) (h : isMove ok (movesT data d nm) 1 [97] 2 as e S') : e = 8 ∧ S' = movesT data d nm := by
  unfold isMove at h
  rw [moves_one, moves_dir (.inl rfl)] at h
  dsimp only at h
  rw [if_neg (by intro hh; rcases hh with hh | hh <;> exact hh rfl)] at h
  rw [show (dirN 493 [([97], 2), ([98], 3)] 0 1).names = [([97], 2), ([98], 3)] from rfl, find_a] at h
  obtain ⟨m, hm, h⟩ := h
  rw [moves_dir (.inl rfl)] at hm
  obtain rfl := Option.some.inj hm
  rw [if_neg (fun hh => by rw [hok] at hh; cases hh), if_pos ⟨rfl, .self⟩] at h
  exact h
/-- Into the other one. -/
theorem moves_end2 {ok : Bytes → Bool} {data : Bytes} {d : Nat} {nm as : Bytes} {e : Int} {S' : Tr} (hok : ok as = true) (hne : as ≠ nm) (h : isMove ok (movesT data d nm) 1 [97] 3 as e S') : e = 0 ∧ S' 1 = some (dirN 493 [([98], 3)] 0 1) ∧ (∃ l, S' 2 = some (dirN 493 l 1 3)) ∧ ∃ l, S' 3 = some (dirN 493 l 1 1) := by
  unfold isMove at h
  rw [moves_one, moves_dir (.inr rfl)] at h
  dsimp only at h
  rw [if_neg (by intro hh; rcases hh with hh | hh <;> exact hh rfl)] at h
  rw [show (dirN 493 [([97], 2), ([98], 3)] 0 1).names = [([97], 2), ([98], 3)] from rfl, find_a] at h
  obtain ⟨m, hm, h⟩ := h
  rw [moves_dir (.inl rfl)] at hm
  obtain rfl := Option.some.inj hm
  have nb1 : ¬ Bel (movesT data d nm) 2 1 := bel_top (moves_one data d nm) (by decide) rfl
  have nb : ¬ Bel (movesT data d nm) 2 3 := fun hb => nb1 (hb.up (moves_dir (.inr rfl)) (by decide))
  rw [if_neg (fun hh => by rw [hok] at hh; cases hh), if_neg (fun hh => nb hh.2)] at h
  have hfn : findN as (dirN 493 (if d = 3 then [(nm, 4)] else []) 1 1).names = none := by
    show findN as (if d = 3 then [(nm, 4)] else []) = none
    split
    · unfold findN; simp [Ne.symm hne]
    · rfl
  rw [hfn] at h
  dsimp only at h
  rw [if_neg (fun hh => by
    have h2 : (if d = 3 then [(nm, 4)] else ([] : List (Bytes × Nat))).length ≥ 40 := hh.2
    split at h2 <;> simp at h2)] at h
  obtain ⟨a1, q1, m1, hq, hm1, rfl⟩ := h
  rw [del_at_x (by decide)] at hm1
  rw [del_at (by decide) (by decide), moves_dir (.inr rfl)] at hq
  obtain rfl := Option.some.inj hm1
  obtain rfl := Option.some.inj hq
  exact ⟨a1, rfl, ⟨_, rfl⟩, _, rfl⟩
/-- And not that one into it then. -/
theorem moves_end3 {ok : Bytes → Bool} {S S' : Tr} {as : Bytes} {e : Int} (hok : ok as = true) (h1 : S 1 = some (dirN 493 [([98], 3)] 0 1)) (h2 : ∃ l, S 2 = some (dirN 493 l 1 3)) (h3 : ∃ l, S 3 = some (dirN 493 l 1 1)) (h : isMove ok S 1 [98] 2 as e S') : e = 8 := by
  obtain ⟨l2, h2⟩ := h2
  obtain ⟨l3, h3⟩ := h3
  unfold isMove at h
  rw [h1, h2] at h
  dsimp only at h
  rw [if_neg (by intro hh; rcases hh with hh | hh <;> exact hh rfl)] at h
  rw [show (dirN 493 [([98], 3)] 0 1).names = [([98], 3)] from rfl, show findN [98] [([98], 3)] = some 3 from rfl] at h
  obtain ⟨m, hm, h⟩ := h
  rw [h3] at hm
  obtain rfl := Option.some.inj hm
  rw [if_neg (fun hh => by rw [hok] at hh; cases hh), if_pos ⟨rfl, .step h2 rfl (show (3 : Nat) ≠ 2 by decide) .self⟩] at h
  exact h.1
end Go.Proofs.Ytafonmnfeibaiaa.IT
