/- A tree of inodes, plain: how many entries lead to one, when a node is another one; names in order. No program in sight. -/
import Derived.Test.YtafonmnfeibaiaaITGc
namespace Go.Proofs.Ytafonmnfeibaiaa.IT
open Go.RowKit

def upd (S : Tr) (k : Nat) (o : Option Nd) : Tr := fun j => if j = k then o else S j
theorem upd_same (S : Tr) (k : Nat) (o : Option Nd) : upd S k o k = o := if_pos rfl
theorem upd_other (S : Tr) {k j : Nat} (o : Option Nd) (h : j ≠ k) : upd S k o j = S j := if_neg h
theorem upd_self (S : Tr) (k : Nat) : upd S k (S k) = S := by
  funext j
  by_cases h : j = k
  · subst h; exact upd_same _ _ _
  · exact upd_other _ _ h
theorem sum_eq {f g : Nat → Nat} : ∀ (l : List Nat), (∀ k ∈ l, f k = g k) → (l.map f).sum = (l.map g).sum
  | [], _ => rfl
  | a :: l, h => by
    simp only [List.map_cons, List.sum_cons]
    rw [h a (by simp), sum_eq l (fun k hk => h k (by simp [hk]))]
theorem sum_upd {f g : Nat → Nat} {k : Nat} (hfg : ∀ j, j ≠ k → f j = g j) : ∀ (l : List Nat), l.Nodup → k ∈ l → (l.map f).sum + g k = (l.map g).sum + f k
  | [], _, h => by cases h
  | a :: l, hn, h => by
    simp only [List.map_cons, List.sum_cons]
    rw [List.nodup_cons] at hn
    by_cases e : a = k
    · subst e
      rw [sum_eq l (fun j hj => hfg j (fun e => hn.1 (e ▸ hj)))]
      omega
    · have := sum_upd hfg l hn.2 ((List.mem_cons.1 h).resolve_left fun e2 => e e2.symm)
      rw [hfg a e]; omega
theorem lnk_upd (S : Tr) {k : Nat} (hk : k ≤ 200) (o : Option Nd) (x : Nat) : lnk (upd S k o) x + leadO x (S k) = lnk S x + leadO x o := by
  have := sum_upd (f := fun j => leadO x (upd S k o j)) (g := fun j => leadO x (S j)) (k := k) (fun j hj => by show leadO x (upd S k o j) = _; rw [upd_other S o hj]) (List.range 201) List.nodup_range (by simp; omega)
  simp only [upd_same] at this
  exact this
/-- A node that keeps its names changes no count. -/
theorem lnk_same {S : Tr} {k : Nat} (hk : k ≤ 200) {n n' : Nd} (h : S k = some n) (hn : n'.names = n.names) (x : Nat) : lnk (upd S k (some n')) x = lnk S x := by
  have h1 := lnk_upd S hk (some n') x
  have h2 : leadO x (S k) = lead x n := by rw [h]; rfl
  have h3 : leadO x (some n') = lead x n := by show lead x n' = _; unfold lead; rw [hn]
  omega
theorem lead_perm {x : Nat} {a b : Nd} (h : a.names.Perm b.names) : lead x a = lead x b := by
  unfold lead; exact (h.filter _).length_eq
/-! Names in order. -/
def ltB (a b : Bytes) : Bool := decide (a < b)
def insN (nm : Bytes) (x : Nat) : List (Bytes × Nat) → List (Bytes × Nat)
  | [] => [(nm, x)]
  | p :: l => if p.1 < nm then p :: insN nm x l else (nm, x) :: p :: l
def delN (nm : Bytes) (l : List (Bytes × Nat)) : List (Bytes × Nat) := l.filter fun p => !decide (p.1 = nm)
def findN (nm : Bytes) (l : List (Bytes × Nat)) : Option Nat := (l.find? fun p => decide (p.1 = nm)).map (·.2)
theorem ins_perm (nm : Bytes) (x : Nat) : ∀ l, (insN nm x l).Perm ((nm, x) :: l)
  | [] => List.Perm.refl _
  | p :: l => by
    unfold insN
    by_cases h : p.1 < nm
    · rw [if_pos h]
      exact ((ins_perm nm x l).cons p).trans (List.Perm.swap _ _ _)
    · rw [if_neg h]
theorem ins_len (nm : Bytes) (x : Nat) (l) : (insN nm x l).length = l.length + 1 := by rw [(ins_perm nm x l).length_eq]; rfl
theorem ins_lead (nm : Bytes) (x y : Nat) (l : List (Bytes × Nat)) : ((insN nm x l).filter fun p => decide (p.2 = y)).length = (l.filter fun p => decide (p.2 = y)).length + if x = y then 1 else 0 := by
  rw [((ins_perm nm x l).filter _).length_eq, List.filter_cons]
  by_cases h : x = y
  · simp [h]
  · simp [h]
/-- The names stand in order, each once. -/
def Ord (l : List (Bytes × Nat)) : Prop := l.Pairwise fun p q => p.1 < q.1
theorem ord_del {l : List (Bytes × Nat)} (h : Ord l) (nm : Bytes) : Ord (delN nm l) := List.Pairwise.filter _ h
theorem find_mem {nm : Bytes} {x : Nat} : ∀ {l : List (Bytes × Nat)}, findN nm l = some x → (nm, x) ∈ l
  | [], h => by cases h
  | p :: l, h => by
    unfold findN at h
    rw [List.find?_cons] at h
    by_cases hp : p.1 = nm
    · rw [decide_eq_true hp] at h
      obtain rfl : p.2 = x := by simpa using h
      rw [← hp]; simp
    · rw [decide_eq_false hp] at h
      exact List.mem_cons_of_mem _ (find_mem h)
theorem find_none {nm : Bytes} : ∀ {l : List (Bytes × Nat)}, findN nm l = none → ∀ p ∈ l, p.1 ≠ nm
  | [], _, p, hp => by cases hp
  | q :: l, h, p, hp => by
    unfold findN at h
    rw [List.find?_cons] at h
    by_cases hq : q.1 = nm
    · rw [decide_eq_true hq] at h; simp at h
    · rw [decide_eq_false hq] at h
      rcases List.mem_cons.1 hp with rfl | hp
      · exact hq
      · exact find_none h p hp
theorem del_none {nm : Bytes} {l : List (Bytes × Nat)} (h : findN nm l = none) : delN nm l = l := by
  unfold delN
  rw [List.filter_eq_self]
  intro p hp
  have := find_none h p hp
  simpa using this
/-- An entry taken away: one less leads there. -/
theorem del_perm {nm : Bytes} {x : Nat} : ∀ {l : List (Bytes × Nat)}, Ord l → findN nm l = some x → l.Perm ((nm, x) :: delN nm l)
  | [], _, h => by cases h
  | q :: l, ho, h => by
    have ho2 := List.pairwise_cons.1 ho
    unfold findN at h
    rw [List.find?_cons] at h
    by_cases hq : q.1 = nm
    · rw [decide_eq_true hq] at h
      obtain rfl : q.2 = x := by simpa using h
      subst hq
      have e : delN q.1 (q :: l) = l := by
        unfold delN
        rw [List.filter_cons]
        simp only [decide_true, Bool.not_true, Bool.false_eq_true, if_false]
        rw [List.filter_eq_self]
        intro p hp
        have hlt := ho2.1 p hp
        have : p.1 ≠ q.1 := fun e => by rw [e] at hlt; exact absurd hlt (List.lt_irrefl _)
        simpa using this
      rw [e]
    · rw [decide_eq_false hq] at h
      have e : delN nm (q :: l) = q :: delN nm l := by
        unfold delN
        rw [List.filter_cons]
        simp [hq]
      rw [e]
      exact ((del_perm ho2.2 h).cons q).trans (List.Perm.swap _ _ _)
end Go.Proofs.Ytafonmnfeibaiaa.IT
