/- A tree of inodes, plain: entries in whatever order are names in order. No program in sight. -/
import Derived.Test.YtafonmnfeibaiaaITRk
namespace Go.Proofs.Ytafonmnfeibaiaa.IT
open Go.RowKit

/-- Names in order are one row alone. -/
theorem ord_perm : ∀ {l l' : List (Bytes × Nat)}, Ord l → Ord l' → l.Perm l' → l = l'
  | [], l', _, _, h => (List.Perm.nil_eq h)
  | p :: l, [], _, _, h => absurd h.length_eq (by simp)
  | p :: l, q :: l', h1, h2, h => by
    have a1 := List.pairwise_cons.1 h1
    have a2 := List.pairwise_cons.1 h2
    have e : p = q := by
      rcases List.mem_cons.1 (h.mem_iff.1 (List.mem_cons_self (a := p) (l := l))) with e | e
      · exact e
      · rcases List.mem_cons.1 (h.mem_iff.2 (List.mem_cons_self (a := q) (l := l'))) with e2 | e2
        · exact e2.symm
        · exact absurd (List.lt_trans (a1.1 q e2) (a2.1 p e)) (List.lt_irrefl _)
    subst e
    rw [ord_perm a1.2 a2.2 ((List.perm_cons p).1 h)]
/-- An entry more, in whatever order. -/
theorem perm_ins {l e : List (Bytes × Nat)} (h : e.Perm l) (nm : Bytes) (x : Nat) : (e ++ [(nm, x)]).Perm (insN nm x l) :=
  (List.perm_append_comm.trans (h.cons (nm, x))).trans (ins_perm nm x l).symm
theorem perm_del {l e : List (Bytes × Nat)} (h : e.Perm l) (nm : Bytes) : (delN nm e).Perm (delN nm l) := h.filter _
/-- Names that stand once each are found in whatever order. -/
theorem find_of {l : List (Bytes × Nat)} (ho : Ord l) {nm : Bytes} {x : Nat} (h : (nm, x) ∈ l) : findN nm l = some x := by
  cases hf : findN nm l with
  | none => exact absurd rfl (find_none hf (nm, x) h)
  | some y => rw [names_one ho (find_mem hf) h]
theorem perm_find {l e : List (Bytes × Nat)} (ho : Ord l) (h : e.Perm l) (nm : Bytes) : findN nm e = findN nm l := by
  cases hf : findN nm e with
  | none =>
    cases hg : findN nm l with
    | none => rfl
    | some y => exact absurd rfl (find_none hf (nm, y) (h.mem_iff.2 (find_mem hg)))
  | some x => exact (find_of ho (h.mem_iff.1 (find_mem hf))).symm
/-- Two entries taken away, in whatever order. -/
theorem del_comm (a b : Bytes) (l : List (Bytes × Nat)) : delN a (delN b l) = delN b (delN a l) := by
  unfold delN
  rw [List.filter_filter, List.filter_filter]
  congr 1
  funext p
  exact Bool.and_comm _ _
end Go.Proofs.Ytafonmnfeibaiaa.IT
