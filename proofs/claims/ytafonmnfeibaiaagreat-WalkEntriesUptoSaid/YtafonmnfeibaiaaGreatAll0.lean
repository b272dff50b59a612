/- Part 1 of the proof: contracts of functions that the statement reaches, and plain lemmas. -/
import Derived.RowKit
set_option linter.all false
set_option maxRecDepth 100000
set_option maxHeartbeats 100000000
namespace Go.Proofs.YtafonmnfeibaiaaGreat.IT
open Go.RowKit
abbrev Bytes := List UInt8
structure Nd where
 kind : Int
 mode : Int
 owner : Int
 group : Int
 tty : Int
 holds : Nat
 data : Bytes
 names : List (Bytes × Nat)
 parent : Nat
deriving DecidableEq
abbrev Tr := Nat → Option Nd
def lead (x : Nat) (n : Nd) : Nat := (n.names.filter fun p => decide (p.2 = x)).length
def leadO (x : Nat) (o : Option Nd) : Nat := match o with
 | none => 0
 | some n => lead x n
def lnk (S : Tr) (x : Nat) : Nat := ((List.range 201).map fun k => leadO x (S k)).sum
def alone (x : Nat) (n : Nd) : Nd := if n.kind = 1 then { n with parent := x } else n
theorem alone_names (x : Nat) (n : Nd) : (alone x n).names = n.names := by unfold alone; split <;> rfl
theorem alone_kind (x : Nat) (n : Nd) : (alone x n).kind = n.kind := by unfold alone; split <;> rfl
theorem alone_holds (x : Nat) (n : Nd) : (alone x n).holds = n.holds := by unfold alone; split <;> rfl
theorem alone_alone (x : Nat) (n : Nd) : alone x (alone x n) = alone x n := by
 unfold alone
 by_cases h : n.kind = 1
 · simp [h]
 · simp [h]
def rem (S : Tr) (i : Nat) : Tr := fun j => if j = i then none else if leadO j (S i) = 0 then S j else (S j).map (alone j)
def can (S : Tr) (i : Nat) : Prop := i ≠ 1 ∧ i ≤ 200 ∧ (∃ n, S i = some n ∧ n.holds = 0) ∧ lnk S i = 0
theorem lead_map (x : Nat) (S : Tr) (i j : Nat) : leadO x (rem S i j) = if j = i then 0 else leadO x (S j) := by
 unfold rem
 by_cases h : j = i
 · rw [if_pos h, if_pos h]; rfl
 · rw [if_neg h, if_neg h]
   by_cases h2 : leadO j (S i) = 0
   · rw [if_pos h2]
   · rw [if_neg h2]
     cases S j with
     | none => rfl
     | some n => show lead x (alone j n) = lead x n; unfold lead; rw [alone_names]
theorem sum_le {f g : Nat → Nat} : ∀ (l : List Nat), (∀ k ∈ l, f k ≤ g k) → (l.map f).sum ≤ (l.map g).sum
 | [], _ => Nat.le_refl _
 | a :: l, h => by
   simp only [List.map_cons, List.sum_cons]
   have h1 := h a (by simp)
   have h2 := sum_le l (fun k hk => h k (by simp [hk]))
   omega
theorem lnk_rem_le (S : Tr) (i x : Nat) : lnk (rem S i) x ≤ lnk S x := sum_le _ (fun k _ => by rw [lead_map]; split <;> omega)
theorem sum_zero {f : Nat → Nat} : ∀ (l : List Nat), (l.map f).sum = 0 → ∀ k ∈ l, f k = 0
 | [], _, k, hk => by cases hk
 | a :: l, h, k, hk => by
   simp only [List.map_cons, List.sum_cons] at h
   rcases List.mem_cons.1 hk with rfl | hk
   · omega
   · exact sum_zero l (by omega) k hk
theorem none_lead {S : Tr} {x : Nat} (h : lnk S x = 0) {k : Nat} (hk : k ≤ 200) : leadO x (S k) = 0 := sum_zero _ h k (by simp; omega)
theorem rem_keep {S : Tr} {i j : Nat} (hi : i ≤ 200) (hj : lnk S j = 0) (hne : j ≠ i) : rem S i j = S j := by
 unfold rem
 rw [if_neg hne, if_pos (none_lead hj hi)]
theorem can_rem {S : Tr} {i j : Nat} (hi : can S i) (hj : can S j) (hne : j ≠ i) : can (rem S i) j := by
 refine ⟨hj.1, hj.2.1, ?_, ?_⟩
 · rw [rem_keep hi.2.1 hj.2.2.2 hne]; exact hj.2.2.1
 · have := lnk_rem_le S i j
   have := hj.2.2.2
   omega
theorem rem_comm {S : Tr} {i j : Nat} (hi : can S i) (hj : can S j) (hne : j ≠ i) : rem (rem S i) j = rem (rem S j) i := by
 funext k
 have e1 : rem S i j = S j := rem_keep hi.2.1 hj.2.2.2 hne
 have e2 : rem S j i = S i := rem_keep hj.2.1 hi.2.2.2 (Ne.symm hne)
 by_cases hk1 : k = j
 · subst hk1
   have l1 : rem (rem S i) k k = none := by unfold rem; rw [if_pos rfl]
   rw [l1]
   show none = if k = i then none else if leadO k (rem S k i) = 0 then rem S k k else (rem S k k).map (alone k)
   rw [if_neg hne]
   have l2 : rem S k k = none := by unfold rem; rw [if_pos rfl]
   rw [l2]; split <;> rfl
 · by_cases hk2 : k = i
   · subst hk2
     have l1 : rem (rem S j) k k = none := by unfold rem; rw [if_pos rfl]
     rw [l1]
     show (if k = j then none else if leadO k (rem S k j) = 0 then rem S k k else (rem S k k).map (alone k)) = none
     rw [if_neg hk1]
     have l2 : rem S k k = none := by unfold rem; rw [if_pos rfl]
     rw [l2]; split <;> rfl
   · show (if k = j then none else if leadO k (rem S i j) = 0 then rem S i k else (rem S i k).map (alone k)) = if k = i then none else if leadO k (rem S j i) = 0 then rem S j k else (rem S j k).map (alone k)
     rw [if_neg hk1, if_neg hk2, e1, e2]
     have r1 : rem S i k = if leadO k (S i) = 0 then S k else (S k).map (alone k) := by unfold rem; rw [if_neg hk2]
     have r2 : rem S j k = if leadO k (S j) = 0 then S k else (S k).map (alone k) := by unfold rem; rw [if_neg hk1]
     rw [r1, r2]
     by_cases a : leadO k (S i) = 0
     · by_cases b : leadO k (S j) = 0
       · simp [a, b]
       · simp [a, b]
     · by_cases b : leadO k (S j) = 0
       · simp [a, b]
       · simp only [if_neg a, if_neg b]
inductive NF : Tr → Tr → Prop
 | done {S} : (∀ i, ¬ can S i) → NF S S
 | step {S S' : Tr} {i : Nat} : can S i → NF (rem S i) S' → NF S S'
theorem NF.pass {S A : Tr} (h : NF S A) : ∀ {i}, can S i → NF (rem S i) A := by
 induction h with
 | done hn => intro i hi; exact absurd hi (hn i)
 | @step S S' j hj _ ih =>
   intro i hi
   by_cases e : i = j
   · subst e; assumption
   · have h1 := ih (can_rem hj hi e)
     rw [rem_comm hj hi e] at h1
     exact .step (can_rem hi hj (Ne.symm e)) h1
theorem NF.unique {S A B : Tr} (h : NF S A) : NF S B → A = B := by
 induction h with
 | done hn =>
   intro hb
   cases hb with
   | done _ => rfl
   | step hc _ => exact absurd hc (hn _)
 | @step S S' i hi _ ih =>
   intro hb
   exact ih (hb.pass hi)
def upd (S : Tr) (k : Nat) (o : Option Nd) : Tr := fun j => if j = k then o else S j
theorem uY (S : Tr) (k : Nat) (o : Option Nd) : upd S k o k = o := if_pos rfl
theorem uX (S : Tr) {k j : Nat} (o : Option Nd) (h : j ≠ k) : upd S k o j = S j := if_neg h
theorem upd_self (S : Tr) (k : Nat) : upd S k (S k) = S := by
 funext j
 by_cases h : j = k
 · subst h; exact uY _ _ _
 · exact uX _ _ h
theorem sum_eq {f g : Nat → Nat} : ∀ (l : List Nat), (∀ k ∈ l, f k = g k) → (l.map f).sum = (l.map g).sum
 | [], _ => rfl
 | a :: l, h => by
   simp only [List.map_cons, List.sum_cons]
   rw [h a (by simp), sum_eq l (fun k hk => h k (by simp [hk]))]
theorem sum_upd {f g : Nat → Nat} {k : Nat} (hfg : ∀ j, j ≠ k → f j = g j) : ∀ (l : List Nat), l.Nodup → k ∈ l → (l.map f).sum + g k = (l.map g).sum + f k
 | [], _, h => by cases h
 | a :: l, hn, h => by
   simp only [List.map_cons, List.sum_cons]
   rw [List.nodup_cons] at hn
   by_cases e : a = k
   · subst e
     rw [sum_eq l (fun j hj => hfg j (fun e => hn.1 (e ▸ hj)))]
     omega
   · have := sum_upd hfg l hn.2 ((List.mem_cons.1 h).resolve_left fun e2 => e e2.symm)
     rw [hfg a e]; omega
theorem lnk_upd (S : Tr) {k : Nat} (hk : k ≤ 200) (o : Option Nd) (x : Nat) : lnk (upd S k o) x + leadO x (S k) = lnk S x + leadO x o := by
 have := sum_upd (f := fun j => leadO x (upd S k o j)) (g := fun j => leadO x (S j)) (k := k) (fun j hj => by show leadO x (upd S k o j) = _; rw [uX S o hj]) (List.range 201) List.nodup_range (by simp; omega)
 simp only [uY] at this
 exact this
theorem lnk_same {S : Tr} {k : Nat} (hk : k ≤ 200) {n n' : Nd} (h : S k = some n) (hn : n'.names = n.names) (x : Nat) : lnk (upd S k (some n')) x = lnk S x := by
 have h1 := lnk_upd S hk (some n') x
 have h2 : leadO x (S k) = lead x n := by rw [h]; rfl
 have h3 : leadO x (some n') = lead x n := by show lead x n' = _; unfold lead; rw [hn]
 omega
def ltB (a b : Bytes) : Bool := decide (a < b)
def insN (nm : Bytes) (x : Nat) : List (Bytes × Nat) → List (Bytes × Nat)
 | [] => [(nm, x)]
 | p :: l => if p.1 < nm then p :: insN nm x l else (nm, x) :: p :: l
def delN (nm : Bytes) (l : List (Bytes × Nat)) : List (Bytes × Nat) := l.filter fun p => !decide (p.1 = nm)
def findN (nm : Bytes) (l : List (Bytes × Nat)) : Option Nat := (l.find? fun p => decide (p.1 = nm)).map (·.2)
theorem ins_perm (nm : Bytes) (x : Nat) : ∀ l, (insN nm x l).Perm ((nm, x) :: l)
 | [] => List.Perm.refl _
 | p :: l => by
   unfold insN
   by_cases h : p.1 < nm
   · rw [if_pos h]
     exact ((ins_perm nm x l).cons p).trans (List.Perm.swap _ _ _)
   · rw [if_neg h]
theorem ins_len (nm : Bytes) (x : Nat) (l) : (insN nm x l).length = l.length + 1 := by rw [(ins_perm nm x l).length_eq]; rfl
theorem ins_lead (nm : Bytes) (x y : Nat) (l : List (Bytes × Nat)) : ((insN nm x l).filter fun p => decide (p.2 = y)).length = (l.filter fun p => decide (p.2 = y)).length + if x = y then 1 else 0 := by
 rw [((ins_perm nm x l).filter _).length_eq, List.filter_cons]
 by_cases h : x = y
 · simp [h]
 · simp [h]
def Ord (l : List (Bytes × Nat)) : Prop := l.Pairwise fun p q => p.1 < q.1
theorem ord_del {l : List (Bytes × Nat)} (h : Ord l) (nm : Bytes) : Ord (delN nm l) := List.Pairwise.filter _ h
theorem find_mem {nm : Bytes} {x : Nat} : ∀ {l : List (Bytes × Nat)}, findN nm l = some x → (nm, x) ∈ l
 | [], h => by cases h
 | p :: l, h => by
   unfold findN at h
   rw [List.find?_cons] at h
   by_cases hp : p.1 = nm
   · rw [decide_eq_true hp] at h
     obtain rfl : p.2 = x := by simpa using h
     rw [← hp]; simp
   · rw [decide_eq_false hp] at h
     exact List.mem_cons_of_mem _ (find_mem h)
theorem find_none {nm : Bytes} : ∀ {l : List (Bytes × Nat)}, findN nm l = none → ∀ p ∈ l, p.1 ≠ nm
 | [], _, p, hp => by cases hp
 | q :: l, h, p, hp => by
   unfold findN at h
   rw [List.find?_cons] at h
   by_cases hq : q.1 = nm
   · rw [decide_eq_true hq] at h; simp at h
   · rw [decide_eq_false hq] at h
     rcases List.mem_cons.1 hp with rfl | hp
     · exact hq
     · exact find_none h p hp
theorem del_perm {nm : Bytes} {x : Nat} : ∀ {l : List (Bytes × Nat)}, Ord l → findN nm l = some x → l.Perm ((nm, x) :: delN nm l)
 | [], _, h => by cases h
 | q :: l, ho, h => by
   have ho2 := List.pairwise_cons.1 ho
   unfold findN at h
   rw [List.find?_cons] at h
   by_cases hq : q.1 = nm
   · rw [decide_eq_true hq] at h
     obtain rfl : q.2 = x := by simpa using h
     subst hq
     have e : delN q.1 (q :: l) = l := by
      unfold delN
      rw [List.filter_cons]
      simp only [decide_true, Bool.not_true, Bool.false_eq_true, if_false]
      rw [List.filter_eq_self]
      intro p hp
      have hlt := ho2.1 p hp
      have : p.1 ≠ q.1 := fun e => by rw [e] at hlt; exact absurd hlt (List.lt_irrefl _)
      simpa using this
     rw [e]
   · rw [decide_eq_false hq] at h
     have e : delN nm (q :: l) = q :: delN nm l := by
      unfold delN
      rw [List.filter_cons]
      simp [hq]
     rw [e]
     exact ((del_perm ho2.2 h).cons q).trans (List.Perm.swap _ _ _)
def up1 (S : Tr) (k : Nat) : Nat := match S k with
 | some n => n.parent
 | none => k
structure Sound0 (ok : Bytes → Bool) (S : Tr) : Prop where
 rng : ∀ k n, S k = some n → 1 ≤ k ∧ k ≤ 200
 root : ∃ n, S 1 = some n ∧ n.kind = 1 ∧ n.parent = 1
 root0 : lnk S 1 = 0
 kind : ∀ k n, S k = some n → n.kind = 0 ∨ n.kind = 1 ∨ n.kind = 2
 leaf : ∀ k n, S k = some n → n.kind ≠ 1 → n.names = []
 ord : ∀ k n, S k = some n → Ord n.names
 okn : ∀ k n p, S k = some n → p ∈ n.names → ok p.1 = true
 lead : ∀ k n p, S k = some n → p ∈ n.names → ∃ m, S p.2 = some m
 few : ∀ k n, S k = some n → n.names.length ≤ 40
 many : ∀ k, lnk S k ≤ 8
 once : ∀ k n, S k = some n → n.kind = 1 → lnk S k ≤ 1
 up : ∀ k n p m, S k = some n → p ∈ n.names → S p.2 = some m → m.kind = 1 → m.parent = k ∧ p.2 ≠ k
 top : ∀ k n, S k = some n → n.kind = 1 → lnk S k = 0 → n.parent = k
 size : ∀ k n, S k = some n → n.data.length ≤ 4096
 chain : ∃ h : Nat → Nat, ∀ k n, S k = some n → n.kind = 1 → n.parent ≠ k → h n.parent < h k ∧ ∃ m, S n.parent = some m ∧ m.kind = 1
theorem get_upd {S : Tr} {k j : Nat} {o : Option Nd} {m : Nd} (h : upd S k o j = some m) : (j = k ∧ o = some m) ∨ (j ≠ k ∧ S j = some m) := by
 by_cases e : j = k
 · subst e; rw [uY] at h; exact .inl ⟨rfl, h⟩
 · rw [uX _ _ e] at h; exact .inr ⟨e, h⟩
def Sound (ok : Bytes → Bool) (S : Tr) : Prop := Sound0 ok S ∧ ∀ i, ¬ can S i
theorem Sound0.same {ok : Bytes → Bool} {S : Tr} (h : Sound0 ok S) {k : Nat} {n n' : Nd} (hk : S k = some n) (hkind : n'.kind = n.kind) (hn : n'.names = n.names) (hp : n'.parent = n.parent) (hsz : n'.data.length ≤ 4096) : Sound0 ok (upd S k (some n')) := by
 have hk2 := (h.rng k n hk).2
 have hl : ∀ x, lnk (upd S k (some n')) x = lnk S x := lnk_same hk2 hk hn
 have tr : ∀ {j m}, upd S k (some n') j = some m → ∃ m0, S j = some m0 ∧ m.kind = m0.kind ∧ m.names = m0.names ∧ m.parent = m0.parent := fun {j m} hj => by
  rcases get_upd hj with ⟨rfl, e⟩ | ⟨_, e⟩
  · obtain rfl := Option.some.inj e
    exact ⟨n, hk, hkind, hn, hp⟩
  · exact ⟨m, e, rfl, rfl, rfl⟩
 have bk : ∀ {j m}, S j = some m → ∃ m1, upd S k (some n') j = some m1 ∧ m1.kind = m.kind := fun {j m} hj => by
  by_cases e : j = k
  · subst e
    rw [hk] at hj
    obtain rfl := Option.some.inj hj
    exact ⟨n', uY _ _ _, hkind⟩
  · exact ⟨m, by rw [uX _ _ e]; exact hj, rfl⟩
 refine ⟨?_, ?_, ?_, ?_, ?_, ?_, ?_, ?_, ?_, ?_, ?_, ?_, ?_, ?_, ?_⟩
 · intro j m hj; obtain ⟨m0, h1, _⟩ := tr hj; exact h.rng j m0 h1
 · obtain ⟨r, h1, h2, h3⟩ := h.root
   by_cases e : (1 : Nat) = k
   · subst e
     rw [hk] at h1
     obtain rfl := Option.some.inj h1
     exact ⟨n', uY _ _ _, hkind.trans h2, hp.trans h3⟩
   · exact ⟨r, by rw [uX _ _ e]; exact h1, h2, h3⟩
 · rw [hl]; exact h.root0
 · intro j m hj; obtain ⟨m0, h1, h2, _⟩ := tr hj; rw [h2]; exact h.kind j m0 h1
 · intro j m hj hm; obtain ⟨m0, h1, h2, h3, _⟩ := tr hj; rw [h3]; exact h.leaf j m0 h1 (by rw [← h2]; exact hm)
 · intro j m hj; obtain ⟨m0, h1, _, h3, _⟩ := tr hj; rw [h3]; exact h.ord j m0 h1
 · intro j m p hj hp2; obtain ⟨m0, h1, _, h3, _⟩ := tr hj; rw [h3] at hp2; exact h.okn j m0 p h1 hp2
 · intro j m p hj hp2
   obtain ⟨m0, h1, _, h3, _⟩ := tr hj
   rw [h3] at hp2
   obtain ⟨m2, h4⟩ := h.lead j m0 p h1 hp2
   obtain ⟨m3, h5, _⟩ := bk h4
   exact ⟨m3, h5⟩
 · intro j m hj; obtain ⟨m0, h1, _, h3, _⟩ := tr hj; rw [h3]; exact h.few j m0 h1
 · intro j; rw [hl]; exact h.many j
 · intro j m hj hm; obtain ⟨m0, h1, h2, _⟩ := tr hj; rw [hl]; exact h.once j m0 h1 (by rw [← h2]; exact hm)
 · intro j m p q hj hp2 hq hqk
   obtain ⟨m0, h1, _, h3, _⟩ := tr hj
   rw [h3] at hp2
   obtain ⟨q0, g1, g2, _, g4⟩ := tr hq
   rw [g4]
   exact h.up j m0 p q0 h1 hp2 g1 (by rw [← g2]; exact hqk)
 · intro j m hj hm hl0
   obtain ⟨m0, h1, h2, _, h4⟩ := tr hj
   rw [hl] at hl0
   rw [h4]; exact h.top j m0 h1 (by rw [← h2]; exact hm) hl0
 · intro j m hj
   rcases get_upd hj with ⟨rfl, e⟩ | ⟨_, e⟩
   · obtain rfl := Option.some.inj e; exact hsz
   · exact h.size j m e
 · obtain ⟨rk, hrk⟩ := h.chain
   refine ⟨rk, fun j m hj hm hne => ?_⟩
   obtain ⟨m0, h1, h2, _, h4⟩ := tr hj
   rw [h4] at hne ⊢
   obtain ⟨g1, m2, g2, g3⟩ := hrk j m0 h1 (by rw [← h2]; exact hm) hne
   obtain ⟨m3, g4, g5⟩ := bk g2
   exact ⟨g1, m3, g4, g5.trans g3⟩
theorem lnk_rem (S : Tr) {i : Nat} (hi : i ≤ 200) (x : Nat) : lnk (rem S i) x + leadO x (S i) = lnk S x := by
 have := sum_upd (f := fun j => leadO x (rem S i j)) (g := fun j => leadO x (S j)) (k := i) (fun j hj => by show leadO x (rem S i j) = _; rw [lead_map, if_neg hj]) (List.range 201) List.nodup_range (by simp; omega)
 simp only [lead_map, if_pos] at this
 show ((List.range 201).map fun j => leadO x (rem S i j)).sum + _ = ((List.range 201).map fun j => leadO x (S j)).sum
 simp only [lead_map]
 omega
theorem sum_pos {f : Nat → Nat} : ∀ (l : List Nat), (l.map f).sum ≠ 0 → ∃ k ∈ l, f k ≠ 0
 | [], h => absurd rfl h
 | a :: l, h => by
   simp only [List.map_cons, List.sum_cons] at h
   by_cases h1 : f a = 0
   · obtain ⟨k, hk, h2⟩ := sum_pos (f := f) l (by omega)
     exact ⟨k, by simp [hk], h2⟩
   · exact ⟨a, by simp, h1⟩
theorem lead_mem {x : Nat} {n : Nd} (h : lead x n ≠ 0) : ∃ p ∈ n.names, p.2 = x := by
 unfold lead at h
 cases hl : n.names.filter fun p => decide (p.2 = x) with
 | nil => rw [hl] at h; exact absurd rfl h
 | cons p l =>
   have hm : p ∈ n.names.filter fun p => decide (p.2 = x) := by rw [hl]; simp
   rw [List.mem_filter] at hm
   exact ⟨p, hm.1, of_decide_eq_true hm.2⟩
theorem mem_lead {x : Nat} {n : Nd} {p : Bytes × Nat} (hp : p ∈ n.names) (hx : p.2 = x) : lead x n ≠ 0 := by
 unfold lead
 intro h
 have hm : p ∈ n.names.filter fun p => decide (p.2 = x) := List.mem_filter.2 ⟨hp, decide_eq_true hx⟩
 rw [List.eq_nil_of_length_eq_zero h] at hm
 cases hm
theorem lnk_from {S : Tr} {x : Nat} (h : lnk S x ≠ 0) : ∃ k n p, S k = some n ∧ p ∈ n.names ∧ p.2 = x := by
 obtain ⟨k, _, hk⟩ := sum_pos _ h
 cases hS : S k with
 | none => rw [hS] at hk; exact absurd rfl hk
 | some n =>
   rw [hS] at hk
   obtain ⟨p, hp, hx⟩ := lead_mem hk
   exact ⟨k, n, p, hS, hp, hx⟩
theorem sum_ge {f : Nat → Nat} {a b : Nat} (hab : a ≠ b) : ∀ (l : List Nat), a ∈ l → b ∈ l → f a + f b ≤ (l.map f).sum
 | [], h, _ => by cases h
 | c :: l, ha, hb => by
   simp only [List.map_cons, List.sum_cons]
   have one : ∀ {x : Nat} {l : List Nat}, x ∈ l → f x ≤ (l.map f).sum := by
    intro x l
    induction l with
    | nil => intro h; cases h
    | cons y l ih =>
      intro h
      simp only [List.map_cons, List.sum_cons]
      rcases List.mem_cons.1 h with rfl | h
      · omega
      · have := ih h; omega
   by_cases e1 : a = c
   · by_cases e2 : b = c
     · exact absurd (e1.trans e2.symm) hab
     · have h2 := one ((List.mem_cons.1 hb).resolve_left e2)
       rw [← e1]; omega
   · have ha2 := (List.mem_cons.1 ha).resolve_left e1
     by_cases e2 : b = c
     · have h1 := one ha2
       rw [← e2]; omega
     · have := sum_ge (f := f) hab l ha2 ((List.mem_cons.1 hb).resolve_left e2)
       omega
theorem lnk_two {S : Tr} {x a b : Nat} (hab : a ≠ b) (ha : a ≤ 200) (hb : b ≤ 200) (h1 : leadO x (S a) ≠ 0) (h2 : leadO x (S b) ≠ 0) : 2 ≤ lnk S x := by
 have := sum_ge (f := fun k => leadO x (S k)) hab (List.range 201) (by simp; omega) (by simp; omega)
 unfold lnk
 omega
theorem rem_get {S : Tr} {i j : Nat} {m : Nd} (h : rem S i j = some m) : j ≠ i ∧ ∃ m0, S j = some m0 ∧ ((leadO j (S i) = 0 ∧ m = m0) ∨ (leadO j (S i) ≠ 0 ∧ m = alone j m0)) := by
 unfold rem at h
 by_cases e : j = i
 · rw [if_pos e] at h; cases h
 · rw [if_neg e] at h
   refine ⟨e, ?_⟩
   by_cases hl : leadO j (S i) = 0
   · rw [if_pos hl] at h; exact ⟨m, h, .inl ⟨hl, rfl⟩⟩
   · rw [if_neg hl] at h
     cases hj : S j with
     | none => rw [hj] at h; cases h
     | some m0 => rw [hj] at h; exact ⟨m0, rfl, .inr ⟨hl, (Option.some.inj h).symm⟩⟩
theorem rem_some {S : Tr} {i j : Nat} {m : Nd} (h : S j = some m) (hj : j ≠ i) : ∃ m1, rem S i j = some m1 ∧ m1.kind = m.kind := by
 unfold rem
 rw [if_neg hj, h]
 by_cases hl : leadO j (S i) = 0
 · rw [if_pos hl]; exact ⟨m, rfl, rfl⟩
 · rw [if_neg hl]; exact ⟨alone j m, rfl, alone_kind _ _⟩
theorem alone_data (x : Nat) (n : Nd) : (alone x n).data = n.data := by unfold alone; split <;> rfl
theorem Sound0.rem {ok : Bytes → Bool} {S : Tr} (h : Sound0 ok S) {i : Nat} (hi : can S i) : Sound0 ok (rem S i) := by
 have tr : ∀ {j m}, IT.rem S i j = some m → j ≠ i ∧ ∃ m0, S j = some m0 ∧ m.kind = m0.kind ∧ m.names = m0.names ∧ m.data = m0.data ∧ ((leadO j (S i) = 0 ∧ m = m0) ∨ (leadO j (S i) ≠ 0 ∧ m = alone j m0)) := fun {j m} hj => by
  obtain ⟨e, m0, h1, h2⟩ := rem_get hj
  refine ⟨e, m0, h1, ?_⟩
  rcases h2 with ⟨a, rfl⟩ | ⟨a, rfl⟩
  · exact ⟨rfl, rfl, rfl, .inl ⟨a, rfl⟩⟩
  · exact ⟨alone_kind _ _, alone_names _ _, alone_data _ _, .inr ⟨a, rfl⟩⟩
 have hle : ∀ x, lnk (IT.rem S i) x ≤ lnk S x := lnk_rem_le S i
 have noto : ∀ {j m p}, S j = some m → p ∈ m.names → p.2 ≠ i := fun {j m p} hj hp e => by
  have h1 : leadO i (S j) ≠ 0 := by rw [hj]; exact mem_lead hp e
  exact h1 (none_lead hi.2.2.2 (h.rng j m hj).2)
 refine ⟨?_, ?_, ?_, ?_, ?_, ?_, ?_, ?_, ?_, ?_, ?_, ?_, ?_, ?_, ?_⟩
 · intro j m hj; obtain ⟨_, m0, h1, _⟩ := tr hj; exact h.rng j m0 h1
 · obtain ⟨r, h1, h2, h3⟩ := h.root
   refine ⟨r, ?_, h2, h3⟩
   rw [rem_keep hi.2.1 h.root0 (Ne.symm hi.1)]; exact h1
 · have := hle 1; have := h.root0; omega
 · intro j m hj; obtain ⟨_, m0, h1, h2, _⟩ := tr hj; rw [h2]; exact h.kind j m0 h1
 · intro j m hj hm; obtain ⟨_, m0, h1, h2, h3, _⟩ := tr hj; rw [h3]; exact h.leaf j m0 h1 (by rw [← h2]; exact hm)
 · intro j m hj; obtain ⟨_, m0, h1, _, h3, _⟩ := tr hj; rw [h3]; exact h.ord j m0 h1
 · intro j m p hj hp; obtain ⟨_, m0, h1, _, h3, _⟩ := tr hj; rw [h3] at hp; exact h.okn j m0 p h1 hp
 · intro j m p hj hp
   obtain ⟨_, m0, h1, _, h3, _⟩ := tr hj
   rw [h3] at hp
   obtain ⟨m2, h4⟩ := h.lead j m0 p h1 hp
   obtain ⟨m3, h5, _⟩ := rem_some (i := i) h4 (noto h1 hp)
   exact ⟨m3, h5⟩
 · intro j m hj; obtain ⟨_, m0, h1, _, h3, _⟩ := tr hj; rw [h3]; exact h.few j m0 h1
 · intro j; exact Nat.le_trans (hle j) (h.many j)
 · intro j m hj hm; obtain ⟨_, m0, h1, h2, _⟩ := tr hj; exact Nat.le_trans (hle j) (h.once j m0 h1 (by rw [← h2]; exact hm))
 · intro j m p q hj hp hq hqk
   obtain ⟨hji, m0, h1, _, h3, _⟩ := tr hj
   rw [h3] at hp
   obtain ⟨_, q0, g1, g2, _, _, g5⟩ := tr hq
   rcases g5 with ⟨_, rfl⟩ | ⟨a, rfl⟩
   · exact h.up j m0 p q h1 hp g1 hqk
   · exfalso
     have l1 : leadO p.2 (S j) ≠ 0 := by rw [h1]; exact mem_lead hp rfl
     have := lnk_two hji (h.rng j m0 h1).2 hi.2.1 l1 a
     have := h.once p.2 q0 g1 (by rw [← g2]; exact hqk)
     omega
 · intro j m hj hm hl0
   obtain ⟨_, m0, h1, h2, _, _, h5⟩ := tr hj
   rcases h5 with ⟨a, rfl⟩ | ⟨a, rfl⟩
   · have := lnk_rem S hi.2.1 j
     exact h.top j m h1 hm (by omega)
   · unfold alone
     rw [if_pos (by rw [← h2]; exact hm)]
 · intro j m hj; obtain ⟨_, m0, h1, _, _, h4, _⟩ := tr hj; rw [h4]; exact h.size j m0 h1
 · obtain ⟨rk, hrk⟩ := h.chain
   refine ⟨rk, fun j m hj hm hne => ?_⟩
   obtain ⟨hji, m0, h1, h2, _, _, h5⟩ := tr hj
   rcases h5 with ⟨a, rfl⟩ | ⟨a, rfl⟩
   · obtain ⟨g1, m2, g2, g3⟩ := hrk j m h1 hm hne
     have hpi : m.parent ≠ i := fun e => by
      by_cases hl : lnk S j = 0
      · exact hne (h.top j m h1 hm hl)
      · obtain ⟨d, n, p, hd, hp, hx⟩ := lnk_from hl
        have hup := h.up d n p m hd hp (by rw [hx]; exact h1) hm
        rw [hup.1] at e
        subst e
        rw [hd] at a
        exact mem_lead hp hx a
     obtain ⟨m3, g4, g5⟩ := rem_some (i := i) g2 hpi
     exact ⟨g1, m3, g4, g5.trans g3⟩
   · exfalso
     apply hne
     unfold alone
     rw [if_pos (by rw [← h2]; exact hm)]
theorem NF.sound {ok : Bytes → Bool} {S A : Tr} (h : NF S A) : Sound0 ok S → Sound ok A := by
 induction h with
 | done hn => intro hs; exact ⟨hs, hn⟩
 | step hc _ ih => intro hs; exact ih (hs.rem hc)
theorem ord_ins {nm : Bytes} {x : Nat} : ∀ {l : List (Bytes × Nat)}, Ord l → (∀ p ∈ l, p.1 ≠ nm) → Ord (insN nm x l)
 | [], _, _ => List.pairwise_singleton _ _
 | q :: l, ho, hn => by
   have ho2 := List.pairwise_cons.1 ho
   unfold insN
   by_cases hq : q.1 < nm
   · rw [if_pos hq]
     refine List.pairwise_cons.2 ⟨fun p hp => ?_, ord_ins ho2.2 fun p hp => hn p (List.mem_cons_of_mem _ hp)⟩
     rcases List.mem_cons.1 ((ins_perm nm x l).mem_iff.1 hp) with rfl | hp
     · exact hq
     · exact ho2.1 p hp
   · rw [if_neg hq]
     have hlt : nm < q.1 := by
      rcases Decidable.em (nm < q.1) with h | h
      · exact h
      · exact absurd (List.le_antisymm (List.not_lt.1 h) (List.not_lt.1 hq)) (hn q (by simp))
     refine List.pairwise_cons.2 ⟨fun p hp => ?_, ho⟩
     rcases List.mem_cons.1 hp with rfl | hp
     · exact hlt
     · exact List.lt_trans hlt (ho2.1 p hp)
inductive Bel (S : Tr) (x : Nat) : Nat → Prop
 | self : Bel S x x
 | step {k : Nat} {n : Nd} : S k = some n → n.kind = 1 → n.parent ≠ k → Bel S x n.parent → Bel S x k
theorem Bel.up {S : Tr} {x k : Nat} {n : Nd} (h : Bel S x k) (hk : S k = some n) (hx : k ≠ x) : Bel S x n.parent := by
 cases h with
 | self => exact absurd rfl hx
 | step h1 _ _ h4 => rw [hk] at h1; obtain rfl := Option.some.inj h1; exact h4
def under (d : Nat) (m : Nd) : Nd := if m.kind = 1 then { m with parent := d } else m
theorem under_names (x : Nat) (n : Nd) : (under x n).names = n.names := by unfold under; split <;> rfl
theorem under_kind (x : Nat) (n : Nd) : (under x n).kind = n.kind := by unfold under; split <;> rfl
theorem under_data (x : Nat) (n : Nd) : (under x n).data = n.data := by unfold under; split <;> rfl
theorem under_holds (x : Nat) (n : Nd) : (under x n).holds = n.holds := by unfold under; split <;> rfl
theorem under_parent {x : Nat} {n : Nd} (h : n.kind = 1) : (under x n).parent = x := by unfold under; rw [if_pos h]
def entT (S : Tr) (d x : Nat) (nm : Bytes) (n m : Nd) : Tr := upd (upd S x (some (under d m))) d (some { n with names := insN nm x n.names })
theorem ent_lnk {S : Tr} {d x : Nat} {nm : Bytes} {n m : Nd} (hd : S d = some n) (hx : S x = some m) (hne : x ≠ d) (hd2 : d ≤ 200) (hx2 : x ≤ 200) (y : Nat) : lnk (entT S d x nm n m) y = lnk S y + if x = y then 1 else 0 := by
 unfold entT
 have h1 := lnk_upd (upd S x (some (under d m))) hd2 (some { n with names := insN nm x n.names }) y
 rw [uX _ _ (Ne.symm hne), hd, lnk_same hx2 hx (under_names d m)] at h1
 have h2 : leadO y (some { n with names := insN nm x n.names }) = leadO y (some n) + if x = y then 1 else 0 := ins_lead nm x y n.names
 omega
theorem Sound0.enter {ok : Bytes → Bool} {S : Tr} (h : Sound0 ok S) {d x : Nat} {nm : Bytes} {n m : Nd} (hd : S d = some n) (hdk : n.kind = 1) (hx : S x = some m) (hf : ∀ p ∈ n.names, p.1 ≠ nm) (hok : ok nm = true) (h40 : n.names.length < 40) (h8 : lnk S x < 8) (hdir : m.kind = 1 → x ≠ 1 ∧ lnk S x = 0 ∧ ¬ Bel S x d) : Sound0 ok (entT S d x nm n m) := by
 have hne : x ≠ d := fun e => by
  subst e; rw [hd] at hx; obtain rfl := Option.some.inj hx
  exact (hdir hdk).2.2 Bel.self
 have hx1 : x ≠ 1 := fun e => by
  subst e
  obtain ⟨r, h1, h2, _⟩ := h.root
  rw [hx] at h1; obtain rfl := Option.some.inj h1
  exact (hdir h2).1 rfl
 have hl : ∀ y, lnk (entT S d x nm n m) y = lnk S y + if x = y then 1 else 0 := ent_lnk hd hx hne (h.rng d n hd).2 (h.rng x m hx).2
 have tr : ∀ {j q}, entT S d x nm n m j = some q → (j = d ∧ q = { n with names := insN nm x n.names }) ∨ (j ≠ d ∧ j = x ∧ q = under d m) ∨ (j ≠ d ∧ j ≠ x ∧ S j = some q) := fun {j q} hj => by
  unfold entT at hj
  rcases get_upd hj with ⟨rfl, e⟩ | ⟨e1, e⟩
  · exact .inl ⟨rfl, (Option.some.inj e).symm⟩
  · rcases get_upd e with ⟨rfl, e2⟩ | ⟨e2, e3⟩
    · exact .inr (.inl ⟨e1, rfl, (Option.some.inj e2).symm⟩)
    · exact .inr (.inr ⟨e1, e2, e3⟩)
 have bk : ∀ {j q}, S j = some q → ∃ q1, entT S d x nm n m j = some q1 ∧ q1.kind = q.kind := fun {j q} hj => by
  unfold entT
  by_cases e : j = d
  · subst e; rw [hd] at hj; obtain rfl := Option.some.inj hj
    exact ⟨_, uY _ _ _, rfl⟩
  · rw [uX _ _ e]
    by_cases e2 : j = x
    · subst e2; rw [hx] at hj; obtain rfl := Option.some.inj hj
      exact ⟨_, uY _ _ _, under_kind _ _⟩
    · exact ⟨q, by rw [uX _ _ e2]; exact hj, rfl⟩
 have mem : ∀ {p : Bytes × Nat}, p ∈ insN nm x n.names → p = (nm, x) ∨ p ∈ n.names := fun {p} hp => List.mem_cons.1 ((ins_perm nm x n.names).mem_iff.1 hp)
 have sm : ∀ {j q}, entT S d x nm n m j = some q → ∃ q0, S j = some q0 ∧ q.kind = q0.kind ∧ q.data = q0.data := fun {j q} hj => by
  rcases tr hj with ⟨rfl, rfl⟩ | ⟨_, rfl, rfl⟩ | ⟨_, _, e⟩
  · exact ⟨n, hd, rfl, rfl⟩
  · exact ⟨m, hx, under_kind _ _, under_data _ _⟩
  · exact ⟨q, e, rfl, rfl⟩
 have nms : ∀ {j q p}, entT S d x nm n m j = some q → p ∈ q.names → (j = d ∧ p = (nm, x)) ∨ (∃ q0, S j = some q0 ∧ p ∈ q0.names) := fun {j q p} hj hp => by
  rcases tr hj with ⟨rfl, rfl⟩ | ⟨_, rfl, rfl⟩ | ⟨_, _, e⟩
  · rcases mem hp with rfl | hp
    · exact .inl ⟨rfl, rfl⟩
    · exact .inr ⟨n, hd, hp⟩
  · rw [under_names] at hp; exact .inr ⟨m, hx, hp⟩
  · exact .inr ⟨q, e, hp⟩
 refine ⟨?_, ?_, ?_, ?_, ?_, ?_, ?_, ?_, ?_, ?_, ?_, ?_, ?_, ?_, ?_⟩
 · intro j q hj; obtain ⟨q0, e, _⟩ := sm hj; exact h.rng j q0 e
 · obtain ⟨r, h1, h2, h3⟩ := h.root
   by_cases e : (1 : Nat) = d
   · subst e; rw [hd] at h1; obtain rfl := Option.some.inj h1
     exact ⟨_, uY _ _ _, h2, h3⟩
   · refine ⟨r, ?_, h2, h3⟩
     unfold entT
     rw [uX _ _ e, uX _ _ (Ne.symm hx1)]; exact h1
 · have := h.root0
   rw [hl, if_neg hx1]; omega
 · intro j q hj; obtain ⟨q0, e, e2, _⟩ := sm hj; rw [e2]; exact h.kind j q0 e
 · intro j q hj hq
   rcases tr hj with ⟨rfl, rfl⟩ | ⟨_, rfl, rfl⟩ | ⟨_, _, e⟩
   · exact absurd hdk hq
   · rw [under_names]; exact h.leaf j m hx (by rw [under_kind] at hq; exact hq)
   · exact h.leaf j q e hq
 · intro j q hj
   rcases tr hj with ⟨rfl, rfl⟩ | ⟨_, rfl, rfl⟩ | ⟨_, _, e⟩
   · exact ord_ins (h.ord j n hd) hf
   · rw [under_names]; exact h.ord j m hx
   · exact h.ord j q e
 · intro j q p hj hp
   rcases nms hj hp with ⟨_, rfl⟩ | ⟨q0, e, hp⟩
   · exact hok
   · exact h.okn j q0 p e hp
 · intro j q p hj hp
   rcases nms hj hp with ⟨_, rfl⟩ | ⟨q0, e, hp⟩
   · obtain ⟨q1, e1, _⟩ := bk hx; exact ⟨q1, e1⟩
   · obtain ⟨m2, e2⟩ := h.lead j q0 p e hp
     obtain ⟨q1, e1, _⟩ := bk e2; exact ⟨q1, e1⟩
 · intro j q hj
   rcases tr hj with ⟨rfl, rfl⟩ | ⟨_, rfl, rfl⟩ | ⟨_, _, e⟩
   · show (insN nm x n.names).length ≤ 40
     rw [ins_len]; omega
   · rw [under_names]; exact h.few j m hx
   · exact h.few j q e
 · intro j; rw [hl]
   have := h.many j
   by_cases e : x = j
   · subst e; rw [if_pos rfl]; omega
   · rw [if_neg e]; omega
 · intro j q hj hq
   obtain ⟨q0, e, e2, _⟩ := sm hj
   rw [hl]
   by_cases e3 : x = j
   · subst e3; rw [hx] at e; obtain rfl := Option.some.inj e
     rw [if_pos rfl, (hdir (by rw [← e2]; exact hq)).2.1]; omega
   · have := h.once j q0 e (by rw [← e2]; exact hq)
     rw [if_neg e3]; omega
 · intro j q p r hj hp hr hrk
   rcases nms hj hp with ⟨rfl, rfl⟩ | ⟨q0, e, hp⟩
   · rcases tr hr with ⟨e1, _⟩ | ⟨_, _, rfl⟩ | ⟨_, e2, _⟩
     · exact absurd e1 hne
     · exact ⟨under_parent (by rw [under_kind] at hrk; exact hrk), hne⟩
     · exact absurd rfl e2
   · rcases tr hr with ⟨e1, rfl⟩ | ⟨_, e1, rfl⟩ | ⟨_, _, e2⟩
     · exact h.up j q0 p n e hp (by rw [e1]; exact hd) hdk
     · exfalso
       have hk2 := hrk; rw [under_kind] at hk2
       have l1 : leadO x (S j) ≠ 0 := by rw [e]; exact mem_lead hp e1
       exact l1 (none_lead (hdir hk2).2.1 (h.rng j q0 e).2)
     · exact h.up j q0 p r e hp e2 hrk
 · intro j q hj hq hl0
   rw [hl] at hl0
   rcases tr hj with ⟨rfl, rfl⟩ | ⟨_, rfl, rfl⟩ | ⟨_, _, e⟩
   · exact h.top j n hd hq (by omega)
   · rw [if_pos rfl] at hl0; omega
   · exact h.top j q e hq (by omega)
 · intro j q hj; obtain ⟨q0, e, _, e3⟩ := sm hj; rw [e3]; exact h.size j q0 e
 · obtain ⟨rk, hrk⟩ := h.chain
   have hdec : ∀ k, Decidable (Bel S x k) := fun k => Classical.propDecidable _
   refine ⟨fun k => @ite _ (Bel S x k ∧ m.kind = 1) (Classical.propDecidable _) (rk k + rk d + 1) (rk k), fun j q hj hq hnep => ?_⟩
   by_cases hmk : m.kind = 1
   · have hnb := (hdir hmk).2.2
     have gen : ∀ {q0 : Nd}, S j = some q0 → q0.kind = 1 → q0.parent ≠ j → j ≠ x → (@ite _ (Bel S x q0.parent ∧ m.kind = 1) (Classical.propDecidable _) (rk q0.parent + rk d + 1) (rk q0.parent)) < (@ite _ (Bel S x j ∧ m.kind = 1) (Classical.propDecidable _) (rk j + rk d + 1) (rk j)) ∧ ∃ r, entT S d x nm n m q0.parent = some r ∧ r.kind = 1 := fun {q0} e1 e2 e3 e4 => by
      obtain ⟨g1, r, g2, g3⟩ := hrk j q0 e1 e2 e3
      obtain ⟨r1, g4, g5⟩ := bk g2
      refine ⟨?_, r1, g4, g5.trans g3⟩
      by_cases hb : Bel S x j
      · rw [if_pos ⟨hb.up e1 e4, hmk⟩, if_pos ⟨hb, hmk⟩]; omega
      · rw [if_neg (fun hh => hb (Bel.step e1 e2 e3 hh.1)), if_neg (fun hh => hb hh.1)]; exact g1
     rcases tr hj with ⟨rfl, rfl⟩ | ⟨_, rfl, rfl⟩ | ⟨_, e1, e⟩
     · exact gen (q0 := n) hd hdk hnep (Ne.symm hne)
     · rw [under_parent hmk]
       obtain ⟨r1, g4, g5⟩ := bk hd
       refine ⟨?_, r1, g4, g5.trans hdk⟩
       show (@ite _ (Bel S j d ∧ m.kind = 1) (Classical.propDecidable _) (rk d + rk d + 1) (rk d)) < (@ite _ (Bel S j j ∧ m.kind = 1) (Classical.propDecidable _) (rk j + rk d + 1) (rk j))
       rw [if_neg (fun hh => hnb hh.1), if_pos ⟨Bel.self, hmk⟩]; omega
     · exact gen e hq hnep e1
   · show (@ite _ (Bel S x q.parent ∧ m.kind = 1) (Classical.propDecidable _) (rk q.parent + rk d + 1) (rk q.parent)) < (@ite _ (Bel S x j ∧ m.kind = 1) (Classical.propDecidable _) (rk j + rk d + 1) (rk j)) ∧ _
     rw [if_neg (fun hh => hmk hh.2), if_neg (fun hh => hmk hh.2)]
     have gen : ∀ {q0 : Nd}, S j = some q0 → q0.kind = 1 → q0.parent ≠ j → rk q0.parent < rk j ∧ ∃ r, entT S d x nm n m q0.parent = some r ∧ r.kind = 1 := fun {q0} e1 e2 e3 => by
      obtain ⟨g1, r, g2, g3⟩ := hrk j q0 e1 e2 e3
      obtain ⟨r1, g4, g5⟩ := bk g2
      exact ⟨g1, r1, g4, g5.trans g3⟩
     rcases tr hj with ⟨rfl, rfl⟩ | ⟨_, rfl, rfl⟩ | ⟨_, e1, e⟩
     · exact gen (q0 := n) hd hdk hnep
     · exfalso; rw [under_kind] at hq; exact hmk hq
     · exact gen e hq hnep
def delT (S : Tr) (d x : Nat) (nm : Bytes) (n m : Nd) : Tr := upd (upd S x (some (alone x m))) d (some { n with names := delN nm n.names })
theorem alone_parent {x : Nat} {n : Nd} (h : n.kind = 1) : (alone x n).parent = x := by unfold alone; rw [if_pos h]
theorem del_lead {nm : Bytes} {x : Nat} {n : Nd} (ho : Ord n.names) (hf : findN nm n.names = some x) (y : Nat) : lead y { n with names := delN nm n.names } + (if x = y then 1 else 0) = lead y n := by
 unfold lead
 show ((delN nm n.names).filter fun p => decide (p.2 = y)).length + _ = _
 rw [((del_perm ho hf).filter _).length_eq, List.filter_cons]
 by_cases h : x = y
 · simp [h]
 · simp [h]
theorem del_lnk {S : Tr} {d x : Nat} {nm : Bytes} {n m : Nd} (hd : S d = some n) (hx : S x = some m) (hne : x ≠ d) (hd2 : d ≤ 200) (hx2 : x ≤ 200) (ho : Ord n.names) (hf : findN nm n.names = some x) (y : Nat) : lnk (delT S d x nm n m) y + (if x = y then 1 else 0) = lnk S y := by
 unfold delT
 have h1 := lnk_upd (upd S x (some (alone x m))) hd2 (some { n with names := delN nm n.names }) y
 rw [uX _ _ (Ne.symm hne), hd, lnk_same hx2 hx (alone_names x m)] at h1
 have h2 : leadO y (some { n with names := delN nm n.names }) + (if x = y then 1 else 0) = leadO y (some n) := del_lead ho hf y
 omega
theorem del_get {S : Tr} {d x : Nat} {nm : Bytes} {n m : Nd} {j : Nat} {q : Nd} (hj : delT S d x nm n m j = some q) : (j = d ∧ q = { n with names := delN nm n.names }) ∨ (j ≠ d ∧ j = x ∧ q = alone x m) ∨ (j ≠ d ∧ j ≠ x ∧ S j = some q) := by
 unfold delT at hj
 rcases get_upd hj with ⟨rfl, e⟩ | ⟨e1, e⟩
 · exact .inl ⟨rfl, (Option.some.inj e).symm⟩
 · rcases get_upd e with ⟨rfl, e2⟩ | ⟨e2, e3⟩
   · exact .inr (.inl ⟨e1, rfl, (Option.some.inj e2).symm⟩)
   · exact .inr (.inr ⟨e1, e2, e3⟩)
theorem del_back {S : Tr} {d x : Nat} {nm : Bytes} {n m : Nd} (hd : S d = some n) (hx : S x = some m) {j : Nat} {q : Nd} (hj : S j = some q) : ∃ q1, delT S d x nm n m j = some q1 ∧ q1.kind = q.kind := by
 unfold delT
 by_cases e : j = d
 · subst e; rw [hd] at hj; obtain rfl := Option.some.inj hj
   exact ⟨_, uY _ _ _, rfl⟩
 · rw [uX _ _ e]
   by_cases e2 : j = x
   · subst e2; rw [hx] at hj; obtain rfl := Option.some.inj hj
     exact ⟨_, uY _ _ _, alone_kind _ _⟩
   · exact ⟨q, by rw [uX _ _ e2]; exact hj, rfl⟩
theorem Sound0.apart {ok : Bytes → Bool} {S : Tr} (h : Sound0 ok S) {d x : Nat} {nm : Bytes} {n m : Nd} (hd : S d = some n) (hx : S x = some m) (hf : findN nm n.names = some x) : x ≠ d := fun e => by
 subst e
 rw [hd] at hx; obtain rfl := Option.some.inj hx
 by_cases hk : n.kind = 1
 · exact (h.up x n (nm, x) n hd (find_mem hf) hd hk).2 rfl
 · have := h.leaf x n hd hk
   rw [this] at hf; cases hf
theorem Sound0.del {ok : Bytes → Bool} {S : Tr} (h : Sound0 ok S) {d x : Nat} {nm : Bytes} {n m : Nd} (hd : S d = some n) (hx : S x = some m) (hf : findN nm n.names = some x) : Sound0 ok (delT S d x nm n m) := by
 have hne := h.apart hd hx hf
 have hl : ∀ y, lnk (delT S d x nm n m) y + (if x = y then 1 else 0) = lnk S y := del_lnk hd hx hne (h.rng d n hd).2 (h.rng x m hx).2 (h.ord d n hd) hf
 have hle : ∀ y, lnk (delT S d x nm n m) y ≤ lnk S y := fun y => by have := hl y; omega
 have bk : ∀ {j q}, S j = some q → ∃ q1, delT S d x nm n m j = some q1 ∧ q1.kind = q.kind := fun {j q} hj => del_back hd hx hj
 have mem : ∀ {p : Bytes × Nat}, p ∈ delN nm n.names → p ∈ n.names := fun {p} hp => (List.mem_filter.1 hp).1
 have hlx : lnk S x ≠ 0 := by
  have := hl x; rw [if_pos rfl] at this; omega
 have hx1 : x ≠ 1 := fun e => by subst e; exact hlx h.root0
 have sm : ∀ {j q}, delT S d x nm n m j = some q → ∃ q0, S j = some q0 ∧ q.kind = q0.kind ∧ q.data = q0.data ∧ ∀ p ∈ q.names, p ∈ q0.names := fun {j q} hj => by
  rcases del_get hj with ⟨rfl, rfl⟩ | ⟨_, rfl, rfl⟩ | ⟨_, _, e⟩
  · exact ⟨n, hd, rfl, rfl, fun p hp => mem hp⟩
  · exact ⟨m, hx, alone_kind _ _, alone_data _ _, fun p hp => by rw [alone_names] at hp; exact hp⟩
  · exact ⟨q, e, rfl, rfl, fun p hp => hp⟩
 refine ⟨?_, ?_, ?_, ?_, ?_, ?_, ?_, ?_, ?_, ?_, ?_, ?_, ?_, ?_, ?_⟩
 · intro j q hj; obtain ⟨q0, e, _⟩ := sm hj; exact h.rng j q0 e
 · obtain ⟨r, h1, h2, h3⟩ := h.root
   by_cases e : (1 : Nat) = d
   · subst e; rw [hd] at h1; obtain rfl := Option.some.inj h1
     exact ⟨_, uY _ _ _, h2, h3⟩
   · refine ⟨r, ?_, h2, h3⟩
     unfold delT
     rw [uX _ _ e, uX _ _ (Ne.symm hx1)]; exact h1
 · have := h.root0; have := hle 1; omega
 · intro j q hj; obtain ⟨q0, e, e2, _⟩ := sm hj; rw [e2]; exact h.kind j q0 e
 · intro j q hj hq
   obtain ⟨q0, e, e2, _, e4⟩ := sm hj
   have := h.leaf j q0 e (by rw [← e2]; exact hq)
   rw [this] at e4
   cases hqn : q.names with
   | nil => rfl
   | cons a l => exact absurd (e4 a (by rw [hqn]; simp)) (by simp)
 · intro j q hj
   rcases del_get hj with ⟨rfl, rfl⟩ | ⟨_, rfl, rfl⟩ | ⟨_, _, e⟩
   · exact ord_del (h.ord j n hd) nm
   · rw [alone_names]; exact h.ord j m hx
   · exact h.ord j q e
 · intro j q p hj hp
   obtain ⟨q0, e, _, _, e4⟩ := sm hj
   exact h.okn j q0 p e (e4 p hp)
 · intro j q p hj hp
   obtain ⟨q0, e, _, _, e4⟩ := sm hj
   obtain ⟨m2, e2⟩ := h.lead j q0 p e (e4 p hp)
   obtain ⟨q1, e1, _⟩ := bk e2; exact ⟨q1, e1⟩
 · intro j q hj
   rcases del_get hj with ⟨rfl, rfl⟩ | ⟨_, rfl, rfl⟩ | ⟨_, _, e⟩
   · show (delN nm n.names).length ≤ 40
     have h1 := h.few j n hd
     have h2 : (delN nm n.names).length ≤ n.names.length := List.length_filter_le _ _
     omega
   · rw [alone_names]; exact h.few j m hx
   · exact h.few j q e
 · intro j; exact Nat.le_trans (hle j) (h.many j)
 · intro j q hj hq
   obtain ⟨q0, e, e2, _⟩ := sm hj
   exact Nat.le_trans (hle j) (h.once j q0 e (by rw [← e2]; exact hq))
 · intro j q p r hj hp hr hrk
   obtain ⟨q0, e, _, _, e4⟩ := sm hj
   have hp0 := e4 p hp
   rcases del_get hr with ⟨e1, rfl⟩ | ⟨_, e1, rfl⟩ | ⟨_, _, e2⟩
   · exact h.up j q0 p n e hp0 (by rw [e1]; exact hd) hrk
   · exfalso
     rw [alone_kind] at hrk
     have l1 : leadO x (delT S d x nm n m j) ≠ 0 := by rw [hj]; exact mem_lead hp e1
     have l2 : lnk (delT S d x nm n m) x = 0 := by
      have := hl x; rw [if_pos rfl] at this
      have := h.once x m hx hrk; omega
     exact l1 (none_lead l2 (h.rng j q0 e).2)
   · exact h.up j q0 p r e hp0 e2 hrk
 · intro j q hj hq hl0
   have hlj := hl j
   rcases del_get hj with ⟨rfl, rfl⟩ | ⟨_, rfl, rfl⟩ | ⟨_, e1, e⟩
   · rw [if_neg hne] at hlj
     exact h.top j n hd hq (by omega)
   · exact alone_parent (by rw [alone_kind] at hq; exact hq)
   · rw [if_neg (Ne.symm e1)] at hlj
     exact h.top j q e hq (by omega)
 · intro j q hj; obtain ⟨q0, e, _, e3, _⟩ := sm hj; rw [e3]; exact h.size j q0 e
 · obtain ⟨rk, hrk⟩ := h.chain
   refine ⟨rk, fun j q hj hq hnep => ?_⟩
   have gen : ∀ {q0 : Nd}, S j = some q0 → q0.kind = 1 → q0.parent ≠ j → rk q0.parent < rk j ∧ ∃ r, delT S d x nm n m q0.parent = some r ∧ r.kind = 1 := fun {q0} e1 e2 e3 => by
    obtain ⟨g1, r, g2, g3⟩ := hrk j q0 e1 e2 e3
    obtain ⟨r1, g4, g5⟩ := bk g2
    exact ⟨g1, r1, g4, g5.trans g3⟩
   rcases del_get hj with ⟨rfl, rfl⟩ | ⟨_, rfl, rfl⟩ | ⟨_, e1, e⟩
   · exact gen (q0 := n) hd hq hnep
   · exact absurd (alone_parent (by rw [alone_kind] at hq; exact hq)) hnep
   · exact gen e hq hnep
theorem Bel.del {S : Tr} {d x : Nat} {nm : Bytes} {n m : Nd} (hd : S d = some n) (hx : S x = some m) {y k : Nat} (h : Bel (delT S d x nm n m) y k) : Bel S y k := by
 induction h with
 | self => exact .self
 | step h1 h2 h3 _ ih =>
   rcases del_get h1 with ⟨rfl, rfl⟩ | ⟨_, rfl, rfl⟩ | ⟨_, _, e⟩
   · exact .step hd h2 h3 ih
   · exact absurd (alone_parent (by rw [alone_kind] at h2; exact h2)) h3
   · exact .step e h2 h3 ih
open Go.RowKit Classical
theorem del_not {nm : Bytes} {l : List (Bytes × Nat)} : ∀ p ∈ delN nm l, p.1 ≠ nm := fun p hp => by
 have := (List.mem_filter.1 hp).2
 simpa using this
theorem del_len {nm : Bytes} {x : Nat} {l : List (Bytes × Nat)} (ho : Ord l) (hf : findN nm l = some x) : (delN nm l).length + 1 = l.length := by
 rw [(del_perm ho hf).length_eq]; rfl
def isEnter (ok : Bytes → Bool) (S : Tr) (d : Nat) (nm : Bytes) (x : Nat) (e : Int) (S' : Tr) : Prop := match S d, S x with
 | some n, some m =>
   if n.kind ≠ 1 then e = 6 ∧ S' = S
   else if ok nm = false then e = 1 ∧ S' = S
   else if findN nm n.names ≠ none then e = 5 ∧ S' = S
   else if x = 1 ∨ (m.kind = 1 ∧ lnk S x > 0) ∨ lnk S x ≥ 8 then e = 12 ∧ S' = S
   else if n.names.length ≥ 40 then e = 9 ∧ S' = S
   else if m.kind = 1 ∧ Bel S x d then e = 8 ∧ S' = S
   else e = 0 ∧ S' = entT S d x nm n m
 | _, _ => e = 3 ∧ S' = S
def isRemove (S : Tr) (d : Nat) (nm : Bytes) (e : Int) (S' : Tr) : Prop := match S d with
 | none => e = 3 ∧ S' = S
 | some n =>
   if n.kind ≠ 1 then e = 6 ∧ S' = S
   else match findN nm n.names with
    | none => e = 3 ∧ S' = S
    | some x => ∃ m, S x = some m ∧ if m.names ≠ [] then e = 8 ∧ S' = S else e = 0 ∧ NF (delT S d x nm n m) S'
def isMove (ok : Bytes → Bool) (S : Tr) (d : Nat) (nm : Bytes) (b : Nat) (as : Bytes) (e : Int) (S' : Tr) : Prop := match S d, S b with
 | some n, some q =>
   if n.kind ≠ 1 ∨ q.kind ≠ 1 then e = 6 ∧ S' = S
   else match findN nm n.names with
    | none => e = 3 ∧ S' = S
    | some x => ∃ m, S x = some m ∧
      if ok as = false then e = 1 ∧ S' = S
      else if m.kind = 1 ∧ Bel S x b then e = 8 ∧ S' = S
      else match findN as q.names with
       | none =>
         if d ≠ b ∧ q.names.length ≥ 40 then e = 9 ∧ S' = S
         else e = 0 ∧ ∃ q1 m1, delT S d x nm n m b = some q1 ∧ delT S d x nm n m x = some m1 ∧ S' = entT (delT S d x nm n m) b x as q1 m1
       | some w => if w = x then e = 0 ∧ S' = S
         else ∃ mw, S w = some mw ∧
          if ¬ (mw.kind = 1 ↔ m.kind = 1) then e = 7 ∧ S' = S
          else if mw.names ≠ [] then e = 8 ∧ S' = S
          else e = 0 ∧ ∃ q1 q2 m2, delT S d x nm n m b = some q1 ∧ delT (delT S d x nm n m) b w as q1 mw b = some q2 ∧ delT (delT S d x nm n m) b w as q1 mw x = some m2 ∧ NF (entT (delT (delT S d x nm n m) b w as q1 mw) b x as q2 m2) S'
 | _, _ => e = 3 ∧ S' = S
theorem ent_can {S : Tr} {d x : Nat} {nm : Bytes} {n m : Nd} (hd : S d = some n) (hx : S x = some m) (hne : x ≠ d) (hd2 : d ≤ 200) (hx2 : x ≤ 200) {i : Nat} (h : can (entT S d x nm n m) i) : i ≠ x ∧ can S i := by
 obtain ⟨c1, c2, ⟨q, hq, c3⟩, c4⟩ := h
 have hl := ent_lnk (nm := nm) hd hx hne hd2 hx2 i
 have hix : i ≠ x := fun e => by subst e; rw [if_pos rfl] at hl; omega
 rw [if_neg (Ne.symm hix)] at hl
 refine ⟨hix, c1, c2, ?_, by omega⟩
 unfold entT at hq
 rcases get_upd hq with ⟨rfl, e⟩ | ⟨e1, e⟩
 · obtain rfl := Option.some.inj e; exact ⟨n, hd, c3⟩
 · rcases get_upd e with ⟨rfl, _⟩ | ⟨_, e3⟩
   · exact absurd rfl hix
   · exact ⟨q, e3, c3⟩
theorem del_can {S : Tr} {d x : Nat} {nm : Bytes} {n m : Nd} (hd : S d = some n) (hx : S x = some m) (hne : x ≠ d) (hd2 : d ≤ 200) (hx2 : x ≤ 200) (ho : Ord n.names) (hf : findN nm n.names = some x) {i : Nat} (h : can (delT S d x nm n m) i) : i = x ∨ can S i := by
 obtain ⟨c1, c2, ⟨q, hq, c3⟩, c4⟩ := h
 by_cases hix : i = x
 · exact .inl hix
 have hl := del_lnk hd hx hne hd2 hx2 ho hf i
 rw [if_neg (Ne.symm hix)] at hl
 refine .inr ⟨c1, c2, ?_, by omega⟩
 rcases del_get hq with ⟨rfl, rfl⟩ | ⟨_, e, _⟩ | ⟨_, _, e⟩
 · exact ⟨n, hd, c3⟩
 · exact absurd e hix
 · exact ⟨q, e, c3⟩
theorem isEnter.sound {ok : Bytes → Bool} {S S' : Tr} {d x : Nat} {nm : Bytes} {e : Int} (h : isEnter ok S d nm x e S') (hs : Sound ok S) : Sound ok S' := by
 unfold isEnter at h
 cases hd : S d with
 | none => rw [hd] at h; exact h.2 ▸ hs
 | some n =>
   cases hx : S x with
   | none => rw [hd, hx] at h; exact h.2 ▸ hs
   | some m =>
     rw [hd, hx] at h
     dsimp only at h
     split at h
     · exact h.2 ▸ hs
     rename_i h1
     split at h
     · exact h.2 ▸ hs
     rename_i h2
     split at h
     · exact h.2 ▸ hs
     rename_i h3
     split at h
     · exact h.2 ▸ hs
     rename_i h4
     split at h
     · exact h.2 ▸ hs
     rename_i h5
     split at h
     · exact h.2 ▸ hs
     rename_i h6
     obtain ⟨_, rfl⟩ := h
     have hdk : n.kind = 1 := Decidable.not_not.1 h1
     have hfn : findN nm n.names = none := Decidable.not_not.1 h3
     have hne : x ≠ d := fun e2 => by
      subst e2; rw [hd] at hx; obtain rfl := Option.some.inj hx
      exact h6 ⟨hdk, .self⟩
     refine ⟨hs.1.enter hd hdk hx (find_none hfn) (by cases hb : ok nm with | true => rfl | false => exact absurd hb h2) (by omega) ?_ ?_, fun i hi => ?_⟩
     · exact Nat.lt_of_not_le fun hh => h4 (.inr (.inr hh))
     · intro hk
       refine ⟨fun hh => h4 (.inl hh), ?_, fun hh => h6 ⟨hk, hh⟩⟩
       exact Nat.eq_zero_of_not_pos fun hh => h4 (.inr (.inl ⟨hk, hh⟩))
     · exact hs.2 i (ent_can hd hx hne (hs.1.rng d n hd).2 (hs.1.rng x m hx).2 hi).2
theorem isRemove.sound {ok : Bytes → Bool} {S S' : Tr} {d : Nat} {nm : Bytes} {e : Int} (h : isRemove S d nm e S') (hs : Sound ok S) : Sound ok S' := by
 unfold isRemove at h
 cases hd : S d with
 | none => rw [hd] at h; exact h.2 ▸ hs
 | some n =>
   rw [hd] at h
   dsimp only at h
   split at h
   · exact h.2 ▸ hs
   split at h
   · exact h.2 ▸ hs
   · rename_i x hf
     obtain ⟨m, hx, h⟩ := h
     split at h
     · exact h.2 ▸ hs
     · exact h.2.sound (hs.1.del hd hx hf)
end Go.Proofs.YtafonmnfeibaiaaGreat.IT
namespace Go.Proofs.YtafonmnfeibaiaaGreat.IT
open Go.RowKit Classical
theorem del_at_x {S : Tr} {d x : Nat} {nm : Bytes} {n m : Nd} (hne : x ≠ d) : delT S d x nm n m x = some (alone x m) := by
 unfold delT; rw [uX _ _ hne, uY]
theorem del_at_d {S : Tr} {d x : Nat} {nm : Bytes} {n m : Nd} : delT S d x nm n m d = some { n with names := delN nm n.names } := uY _ _ _
theorem del_at {S : Tr} {d x j : Nat} {nm : Bytes} {n m : Nd} (h1 : j ≠ d) (h2 : j ≠ x) : delT S d x nm n m j = S j := by
 unfold delT; rw [uX _ _ h1, uX _ _ h2]
theorem names_one {l : List (Bytes × Nat)} (ho : Ord l) {nm : Bytes} {a b : Nat} (ha : (nm, a) ∈ l) (hb : (nm, b) ∈ l) : a = b := by
 induction l with
 | nil => cases ha
 | cons p l ih =>
   have ho2 := List.pairwise_cons.1 ho
   rcases List.mem_cons.1 ha with e1 | ha1
   · rcases List.mem_cons.1 hb with e | hb1
     · rw [← e1] at e; exact (Prod.mk.inj e).2.symm
     · have := ho2.1 _ hb1
       rw [← e1] at this
       exact absurd this (List.lt_irrefl _)
   · rcases List.mem_cons.1 hb with e | hb1
     · have := ho2.1 _ ha1
       rw [← e] at this
       exact absurd this (List.lt_irrefl _)
     · exact ih ho2.2 ha1 hb1
theorem isMove.sound {ok : Bytes → Bool} {S S' : Tr} {d b : Nat} {nm as : Bytes} {e : Int} (h : isMove ok S d nm b as e S') (hs : Sound ok S) : Sound ok S' := by
 unfold isMove at h
 cases hd : S d with
 | none => rw [hd] at h; exact h.2 ▸ hs
 | some n =>
   cases hb : S b with
   | none => rw [hd, hb] at h; exact h.2 ▸ hs
   | some q =>
     rw [hd, hb] at h
     dsimp only at h
     split at h
     · exact h.2 ▸ hs
     rename_i hk
     have hdk : n.kind = 1 := Decidable.not_not.1 fun hh => hk (.inl hh)
     have hbk : q.kind = 1 := Decidable.not_not.1 fun hh => hk (.inr hh)
     split at h
     · exact h.2 ▸ hs
     rename_i x hf
     obtain ⟨m, hx, h⟩ := h
     split at h
     · exact h.2 ▸ hs
     rename_i hok
     have hok : ok as = true := by cases hb : ok as with | true => rfl | false => exact absurd hb hok
     split at h
     · exact h.2 ▸ hs
     rename_i hw
     have hne := hs.1.apart hd hx hf
     have hd2 := (hs.1.rng d n hd).2
     have hx2 := (hs.1.rng x m hx).2
     have hb2 := (hs.1.rng b q hb).2
     have hxb : x ≠ b := fun e2 => by
      subst e2; rw [hx] at hb; obtain rfl := Option.some.inj hb
      exact hw ⟨hbk, .self⟩
     have s1 := hs.1.del hd hx hf
     have l1 : ∀ y, lnk (delT S d x nm n m) y + (if x = y then 1 else 0) = lnk S y := del_lnk hd hx hne hd2 hx2 (hs.1.ord d n hd) hf
     have l1x := l1 x
     rw [if_pos rfl] at l1x
     have hx1 : x ≠ 1 := fun e2 => by subst e2; have := hs.1.root0; omega
     have e1 : delT S d x nm n m x = some (alone x m) := del_at_x hne
     split at h
     · rename_i hfa
       split at h
       · exact h.2 ▸ hs
       rename_i hfull
       obtain ⟨_, q1, m1, hq1, hm1, rfl⟩ := h
       rw [e1] at hm1
       obtain rfl := Option.some.inj hm1
       have hq : q1.kind = 1 ∧ (∀ p ∈ q1.names, p.1 ≠ as) ∧ q1.names.length < 40 := by
        by_cases hdb : b = d
        · subst hdb
          rw [hd] at hb; obtain rfl := Option.some.inj hb
          rw [del_at_d] at hq1
          obtain rfl := Option.some.inj hq1
          have h2 := del_len (hs.1.ord b n hd) hf
          have h3 := hs.1.few b n hd
          exact ⟨hdk, fun p hp => find_none hfa p (List.mem_filter.1 hp).1, by show (delN nm n.names).length < 40; omega⟩
        · rw [del_at hdb (Ne.symm hxb), hb] at hq1
          obtain rfl := Option.some.inj hq1
          exact ⟨hbk, find_none hfa, Nat.lt_of_not_le fun hh => hfull ⟨Ne.symm hdb, hh⟩⟩
       refine ⟨s1.enter hq1 hq.1 e1 hq.2.1 hok hq.2.2 (by have := hs.1.many x; omega) fun hk1 => ⟨hx1, ?_, fun hh => ?_⟩, fun i hi => ?_⟩
       · rw [alone_kind] at hk1
         have := hs.1.once x m hx hk1; omega
       · rw [alone_kind] at hk1
         exact hw ⟨hk1, hh.del hd hx⟩
       · obtain ⟨g1, g2⟩ := ent_can hq1 e1 hxb hb2 hx2 hi
         rcases del_can hd hx hne hd2 hx2 (hs.1.ord d n hd) hf g2 with g3 | g3
         · exact g1 g3
         · exact hs.2 i g3
     · rename_i w hfa
       split at h
       · exact h.2 ▸ hs
       rename_i hwx
       obtain ⟨mw, hwS, h⟩ := h
       split at h
       · exact h.2 ▸ hs
       split at h
       · exact h.2 ▸ hs
       rename_i hemp
       have hemp : mw.names = [] := Decidable.not_not.1 hemp
       obtain ⟨_, q1, q2, m2, hq1, hq2, hm2, hnf⟩ := h
       have hwd : w ≠ d := fun e2 => by
        subst e2; rw [hd] at hwS; obtain rfl := Option.some.inj hwS
        rw [hemp] at hf; cases hf
       have hwb : w ≠ b := hs.1.apart hb hwS hfa
       have ew : delT S d x nm n m w = some mw := by rw [del_at hwd hwx]; exact hwS
       have hfq : q1.kind = 1 ∧ findN as q1.names = some w := by
        by_cases hdb : b = d
        · subst hdb
          rw [hd] at hb; obtain rfl := Option.some.inj hb
          rw [del_at_d] at hq1
          obtain rfl := Option.some.inj hq1
          refine ⟨hdk, ?_⟩
          show findN as (delN nm n.names) = some w
          have hna : as ≠ nm := fun e2 => by rw [e2, hf] at hfa; exact hwx (Option.some.inj hfa).symm
          have hp := del_perm (hs.1.ord b n hd) hf
          cases hff : findN as (delN nm n.names) with
          | none =>
            have := find_none hff (as, w) (List.mem_filter.2 ⟨find_mem hfa, by simp [hna]⟩)
            exact absurd rfl this
          | some w2 =>
            have hm := (List.mem_filter.1 (find_mem hff)).1
            have hm2 := find_mem hfa
            exact congrArg some (names_one (hs.1.ord b n hd) hm hm2)
        · rw [del_at hdb (Ne.symm hxb), hb] at hq1
          obtain rfl := Option.some.inj hq1
          exact ⟨hbk, hfa⟩
       have s2 := s1.del hq1 ew hfq.2
       have l2 := del_lnk hq1 ew hwb hb2 (hs.1.rng w mw hwS).2 (s1.ord b q1 hq1) hfq.2 x
       rw [if_neg hwx] at l2
       have e2 : delT (delT S d x nm n m) b w as q1 mw x = some (alone x m) := by
        rw [del_at hxb (Ne.symm hwx)]; exact e1
       rw [e2] at hm2
       obtain rfl := Option.some.inj hm2
       have hq2' := hq2
       rw [del_at_d] at hq2'
       obtain rfl := Option.some.inj hq2'
       refine hnf.sound (s2.enter hq2 hfq.1 e2 del_not hok ?_ (by have := hs.1.many x; omega) fun hk1 => ⟨hx1, ?_, fun hh => ?_⟩)
       · have h2 := del_len (s1.ord b q1 hq1) hfq.2
         have h3 := s1.few b q1 hq1
         show (delN as q1.names).length < 40
         omega
       · rw [alone_kind] at hk1
         have := hs.1.once x m hx hk1; omega
       · rw [alone_kind] at hk1
         exact hw ⟨hk1, (hh.del hq1 ew).del hd hx⟩
end Go.Proofs.YtafonmnfeibaiaaGreat.IT
namespace Go.Proofs.YtafonmnfeibaiaaGreat.IT
open Go.RowKit
theorem Sound0.free {ok : Bytes → Bool} {S : Tr} (h : Sound0 ok S) {k : Nat} (hk : S k = none) : lnk S k = 0 := by
 cases hz : decide (lnk S k = 0) with
 | true => exact of_decide_eq_true hz
 | false =>
   obtain ⟨d, n, p, h1, h2, h3⟩ := lnk_from (of_decide_eq_false hz)
   obtain ⟨m, hm⟩ := h.lead d n p h1 h2
   rw [h3, hk] at hm
   cases hm
theorem Sound.make {ok : Bytes → Bool} {S : Tr} (h : Sound ok S) {k : Nat} {n : Nd} (hk : S k = none) (h1 : 1 ≤ k) (h2 : k ≤ 200) (hkind : n.kind = 0 ∨ n.kind = 1 ∨ n.kind = 2) (hn : n.names = []) (hp : n.kind = 1 → n.parent = k) (hd : n.data = []) (hh : n.holds ≠ 0) : Sound ok (upd S k (some n)) := by
 obtain ⟨h0, hst⟩ := h
 have hl0 : ∀ x, leadO x (some n) = 0 := fun x => by show lead x n = 0; unfold lead; rw [hn]; rfl
 have hl : ∀ x, lnk (upd S k (some n)) x = lnk S x := fun x => by
  have e := lnk_upd S h2 (some n) x
  have e1 : leadO x (some n) = 0 := hl0 x
  rw [hk] at e
  show lnk (upd S k (some n)) x = _
  have e2 : leadO x none = 0 := rfl
  omega
 have bk : ∀ {j m}, S j = some m → upd S k (some n) j = some m := fun {j m} hj => by
  rw [uX _ _ (fun e => by rw [e, hk] at hj; cases hj)]; exact hj
 have hf := h0.free hk
 refine ⟨⟨?_, ?_, ?_, ?_, ?_, ?_, ?_, ?_, ?_, ?_, ?_, ?_, ?_, ?_, ?_⟩, ?_⟩
 · intro j m hj
   rcases get_upd hj with ⟨rfl, _⟩ | ⟨_, e⟩
   · exact ⟨h1, h2⟩
   · exact h0.rng j m e
 · obtain ⟨r, r1, r2, r3⟩ := h0.root
   exact ⟨r, bk r1, r2, r3⟩
 · rw [hl]; exact h0.root0
 · intro j m hj
   rcases get_upd hj with ⟨rfl, e⟩ | ⟨_, e⟩
   · obtain rfl := Option.some.inj e; exact hkind
   · exact h0.kind j m e
 · intro j m hj hm
   rcases get_upd hj with ⟨rfl, e⟩ | ⟨_, e⟩
   · obtain rfl := Option.some.inj e; exact hn
   · exact h0.leaf j m e hm
 · intro j m hj
   rcases get_upd hj with ⟨rfl, e⟩ | ⟨_, e⟩
   · obtain rfl := Option.some.inj e; rw [hn]; exact List.Pairwise.nil
   · exact h0.ord j m e
 · intro j m p hj hp2
   rcases get_upd hj with ⟨rfl, e⟩ | ⟨_, e⟩
   · obtain rfl := Option.some.inj e; rw [hn] at hp2; cases hp2
   · exact h0.okn j m p e hp2
 · intro j m p hj hp2
   rcases get_upd hj with ⟨rfl, e⟩ | ⟨_, e⟩
   · obtain rfl := Option.some.inj e; rw [hn] at hp2; cases hp2
   · obtain ⟨m2, e2⟩ := h0.lead j m p e hp2
     exact ⟨m2, bk e2⟩
 · intro j m hj
   rcases get_upd hj with ⟨rfl, e⟩ | ⟨_, e⟩
   · obtain rfl := Option.some.inj e; rw [hn]; simp
   · exact h0.few j m e
 · intro j; rw [hl]; exact h0.many j
 · intro j m hj hm
   rw [hl]
   rcases get_upd hj with ⟨rfl, e⟩ | ⟨_, e⟩
   · omega
   · exact h0.once j m e hm
 · intro j m p q hj hp2 hq hqk
   rcases get_upd hj with ⟨rfl, e⟩ | ⟨_, e⟩
   · obtain rfl := Option.some.inj e; rw [hn] at hp2; cases hp2
   · rcases get_upd hq with ⟨e3, _⟩ | ⟨_, e2⟩
     · obtain ⟨m2, e4⟩ := h0.lead j m p e hp2
       rw [e3, hk] at e4; cases e4
     · exact h0.up j m p q e hp2 e2 hqk
 · intro j m hj hm hlk
   rw [hl] at hlk
   rcases get_upd hj with ⟨rfl, e⟩ | ⟨_, e⟩
   · obtain rfl := Option.some.inj e; exact hp hm
   · exact h0.top j m e hm hlk
 · intro j m hj
   rcases get_upd hj with ⟨rfl, e⟩ | ⟨_, e⟩
   · obtain rfl := Option.some.inj e; rw [hd]; simp
   · exact h0.size j m e
 · obtain ⟨rk, hrk⟩ := h0.chain
   refine ⟨rk, fun j m hj hm hne => ?_⟩
   rcases get_upd hj with ⟨rfl, e⟩ | ⟨_, e⟩
   · obtain rfl := Option.some.inj e; exact absurd (hp hm) hne
   · obtain ⟨g1, m2, g2, g3⟩ := hrk j m e hm hne
     exact ⟨g1, m2, bk g2, g3⟩
 · intro i ⟨c1, c2, ⟨m, hm, c3⟩, c4⟩
   rw [hl] at c4
   rcases get_upd hm with ⟨rfl, e⟩ | ⟨_, e⟩
   · obtain rfl := Option.some.inj e; exact hh c3
   · exact hst i ⟨c1, c2, ⟨m, e, c3⟩, c4⟩
def rootT (m o g : Int) : Tr := fun k => if k = 1 then some ⟨1, m, o, g, 0, 0, [], [], 1⟩ else none
theorem rootT_get {m o g : Int} {k : Nat} {n : Nd} (h : rootT m o g k = some n) : k = 1 ∧ n = ⟨1, m, o, g, 0, 0, [], [], 1⟩ := by
 unfold rootT at h
 by_cases e : k = 1
 · rw [if_pos e] at h; exact ⟨e, (Option.some.inj h).symm⟩
 · rw [if_neg e] at h; cases h
theorem rootT_lnk (m o g : Int) (x : Nat) : lnk (rootT m o g) x = 0 := by
 cases hz : decide (lnk (rootT m o g) x = 0) with
 | true => exact of_decide_eq_true hz
 | false =>
   obtain ⟨d, n, p, h1, h2, _⟩ := lnk_from (of_decide_eq_false hz)
   obtain ⟨_, rfl⟩ := rootT_get h1
   cases h2
theorem rootT_sound (ok : Bytes → Bool) (m o g : Int) : Sound ok (rootT m o g) := by
 have hr : rootT m o g 1 = some ⟨1, m, o, g, 0, 0, [], [], 1⟩ := if_pos rfl
 refine ⟨⟨?_, ⟨_, hr, rfl, rfl⟩, rootT_lnk _ _ _ _, ?_, ?_, ?_, ?_, ?_, ?_, ?_, ?_, ?_, ?_, ?_, ⟨fun _ => 0, ?_⟩⟩, ?_⟩
 · intro k n h; obtain ⟨rfl, _⟩ := rootT_get h; omega
 · intro k n h; obtain ⟨_, rfl⟩ := rootT_get h; exact .inr (.inl rfl)
 · intro k n h _; obtain ⟨_, rfl⟩ := rootT_get h; rfl
 · intro k n h; obtain ⟨_, rfl⟩ := rootT_get h; exact List.Pairwise.nil
 · intro k n p h hp; obtain ⟨_, rfl⟩ := rootT_get h; cases hp
 · intro k n p h hp; obtain ⟨_, rfl⟩ := rootT_get h; cases hp
 · intro k n h; obtain ⟨_, rfl⟩ := rootT_get h; simp
 · intro k; rw [rootT_lnk]; omega
 · intro k n h _; rw [rootT_lnk]; omega
 · intro k n p q h hp; obtain ⟨_, rfl⟩ := rootT_get h; cases hp
 · intro k n h _ _; obtain ⟨rfl, rfl⟩ := rootT_get h; rfl
 · intro k n h; obtain ⟨_, rfl⟩ := rootT_get h; simp
 · intro k n h _ hne; obtain ⟨rfl, rfl⟩ := rootT_get h; exact absurd rfl hne
 · intro i ⟨c1, _, ⟨n, hn, _⟩, _⟩; exact c1 (rootT_get hn).1
open Go.RowKit Classical
theorem same_can {S : Tr} {k : Nat} {n n' : Nd} (hk : S k = some n) (hk2 : k ≤ 200) (hn : n'.names = n.names) {i : Nat} (h : can (upd S k (some n')) i) : (i = k ∧ n'.holds = 0) ∨ can S i := by
 obtain ⟨c1, c2, ⟨q, hq, c3⟩, c4⟩ := h
 rw [lnk_same hk2 hk hn] at c4
 rcases get_upd hq with ⟨rfl, e⟩ | ⟨_, e⟩
 · obtain rfl := Option.some.inj e; exact .inl ⟨rfl, c3⟩
 · exact .inr ⟨c1, c2, ⟨q, e, c3⟩, c4⟩
theorem Sound.same {ok : Bytes → Bool} {S : Tr} (h : Sound ok S) {k : Nat} {n n' : Nd} (hk : S k = some n) (hkind : n'.kind = n.kind) (hn : n'.names = n.names) (hp : n'.parent = n.parent) (hsz : n'.data.length ≤ 4096) (hh : n'.holds = 0 → n.holds = 0) : Sound ok (upd S k (some n')) := by
 have hk2 := (h.1.rng k n hk).2
 refine ⟨h.1.same hk hkind hn hp hsz, fun i hi => ?_⟩
 rcases same_can hk hk2 hn hi with ⟨rfl, e⟩ | e
 · obtain ⟨c1, c2, _, c4⟩ := hi
   rw [lnk_same hk2 hk hn] at c4
   exact h.2 i ⟨c1, c2, ⟨n, hk, hh e⟩, c4⟩
 · exact h.2 i e
def isMake (rt : Int → Int → Int → Prop) (S : Tr) (kind m o g tty : Int) (i : Nat) (e : Int) (S' : Tr) : Prop :=
 if kind < 0 ∨ kind > 2 ∨ ¬ rt m o g then i = 0 ∧ e = 1 ∧ S' = S
 else if kind = 2 ∧ (tty < 0 ∨ tty ≥ 4) then i = 0 ∧ e = 1 ∧ S' = S
 else if ∀ k, 1 ≤ k → k ≤ 200 → S k ≠ none then i = 0 ∧ e = 9 ∧ S' = S
 else e = 0 ∧ 1 ≤ i ∧ i ≤ 200 ∧ S i = none ∧ (∀ k, 1 ≤ k → k < i → S k ≠ none) ∧ S' = upd S i (some ⟨kind, m, o, g, if kind = 2 then tty else 0, 1, [], [], if kind = 1 then i else 0⟩)
theorem isMake.sound {ok : Bytes → Bool} {rt : Int → Int → Int → Prop} {S S' : Tr} {kind m o g tty e : Int} {i : Nat} (h : isMake rt S kind m o g tty i e S') (hs : Sound ok S) : Sound ok S' := by
 unfold isMake at h
 split at h
 · exact h.2.2 ▸ hs
 rename_i h1
 split at h
 · exact h.2.2 ▸ hs
 split at h
 · exact h.2.2 ▸ hs
 obtain ⟨_, g1, g2, g3, _, rfl⟩ := h
 have a1 : ¬ kind < 0 := fun hh => h1 (.inl hh)
 have a2 : ¬ kind > 2 := fun hh => h1 (.inr (.inl hh))
 refine hs.make g3 g1 g2 ?_ rfl (fun hk => ?_) rfl (by show (1 : Nat) ≠ 0; omega)
 · show kind = 0 ∨ kind = 1 ∨ kind = 2
   omega
 · show (if kind = 1 then i else 0) = i
   rw [if_pos hk]
def isHold (S : Tr) (k : Nat) (r : Bool) (S' : Tr) : Prop := match S k with
 | none => r = false ∧ S' = S
 | some n => r = true ∧ S' = upd S k (some { n with holds := n.holds + 1 })
def isDrop (S : Tr) (k : Nat) (r : Bool) (S' : Tr) : Prop := match S k with
 | none => r = false ∧ S' = S
 | some n => if n.holds = 0 then r = false ∧ S' = S else r = true ∧ NF (upd S k (some { n with holds := n.holds - 1 })) S'
theorem isHold.sound {ok : Bytes → Bool} {S S' : Tr} {k : Nat} {r : Bool} (h : isHold S k r S') (hs : Sound ok S) : Sound ok S' := by
 unfold isHold at h
 cases hk : S k with
 | none => rw [hk] at h; exact h.2 ▸ hs
 | some n =>
   rw [hk] at h
   obtain ⟨_, rfl⟩ := h
   exact hs.same hk rfl rfl rfl (hs.1.size k n hk) (fun hh => by cases hh)
theorem isDrop.sound {ok : Bytes → Bool} {S S' : Tr} {k : Nat} {r : Bool} (h : isDrop S k r S') (hs : Sound ok S) : Sound ok S' := by
 unfold isDrop at h
 cases hk : S k with
 | none => rw [hk] at h; exact h.2 ▸ hs
 | some n =>
   rw [hk] at h
   dsimp only at h
   split at h
   · exact h.2 ▸ hs
   · exact h.2.sound (hs.1.same hk rfl rfl rfl (hs.1.size k n hk))
def isSet (rt : Int → Int → Int → Prop) (S : Tr) (k : Nat) (m o g e : Int) (S' : Tr) : Prop := match S k with
 | none => e = 3 ∧ S' = S
 | some n => if ¬ rt m o g then e = 1 ∧ S' = S else e = 0 ∧ S' = upd S k (some { n with mode := m, owner := o, group := g })
def isPut (S : Tr) (k : Nat) (at0 : Int) (s : Bytes) (e : Int) (S' : Tr) : Prop := match S k with
 | none => e = 3 ∧ S' = S
 | some n =>
   if n.kind = 1 then e = 7 ∧ S' = S
   else if n.kind = 2 then e = 1 ∧ S' = S
   else if at0 < 0 ∨ at0 > n.data.length then e = 1 ∧ S' = S
   else if (s.length : Int) > 4096 - at0 then e = 9 ∧ S' = S
   else e = 0 ∧ S' = upd S k (some { n with data := n.data.take at0.toNat ++ s ++ n.data.drop (at0.toNat + s.length) })
def isCut (S : Tr) (k : Nat) (e : Int) (S' : Tr) : Prop := match S k with
 | none => e = 3 ∧ S' = S
 | some n =>
   if n.kind = 1 then e = 7 ∧ S' = S
   else if n.kind = 2 then e = 1 ∧ S' = S
   else e = 0 ∧ S' = upd S k (some { n with data := [] })
theorem isSet.sound {ok : Bytes → Bool} {rt : Int → Int → Int → Prop} {S S' : Tr} {k : Nat} {m o g e : Int} (h : isSet rt S k m o g e S') (hs : Sound ok S) : Sound ok S' := by
 unfold isSet at h
 cases hk : S k with
 | none => rw [hk] at h; exact h.2 ▸ hs
 | some n =>
   rw [hk] at h
   dsimp only at h
   split at h
   · exact h.2 ▸ hs
   · obtain ⟨_, rfl⟩ := h
     exact hs.same hk rfl rfl rfl (hs.1.size k n hk) (fun hh => hh)
theorem isPut.sound {ok : Bytes → Bool} {S S' : Tr} {k : Nat} {at0 : Int} {s : Bytes} {e : Int} (h : isPut S k at0 s e S') (hs : Sound ok S) : Sound ok S' := by
 unfold isPut at h
 cases hk : S k with
 | none => rw [hk] at h; exact h.2 ▸ hs
 | some n =>
   rw [hk] at h
   dsimp only at h
   split at h
   · exact h.2 ▸ hs
   split at h
   · exact h.2 ▸ hs
   split at h
   · exact h.2 ▸ hs
   rename_i h3
   split at h
   · exact h.2 ▸ hs
   rename_i h4
   obtain ⟨_, rfl⟩ := h
   have hz := hs.1.size k n hk
   have a1 : 0 ≤ at0 := Int.not_lt.1 fun hh => h3 (.inl hh)
   have a2 : at0 ≤ n.data.length := Int.not_lt.1 fun hh => h3 (.inr hh)
   refine hs.same hk rfl rfl rfl ?_ (fun hh => hh)
   show (n.data.take at0.toNat ++ s ++ n.data.drop (at0.toNat + s.length)).length ≤ 4096
   rw [List.length_append, List.length_append, List.length_take, List.length_drop]
   omega
theorem isCut.sound {ok : Bytes → Bool} {S S' : Tr} {k : Nat} {e : Int} (h : isCut S k e S') (hs : Sound ok S) : Sound ok S' := by
 unfold isCut at h
 cases hk : S k with
 | none => rw [hk] at h; exact h.2 ▸ hs
 | some n =>
   rw [hk] at h
   dsimp only at h
   split at h
   · exact h.2 ▸ hs
   split at h
   · exact h.2 ▸ hs
   obtain ⟨_, rfl⟩ := h
   exact hs.same hk rfl rfl rfl (by simp) (fun hh => hh)
end Go.Proofs.YtafonmnfeibaiaaGreat.IT
namespace Go.Proofs.YtafonmnfeibaiaaGreat.IT
open Go.RowKit
inductive Steps : Tr → Tr → Prop
 | refl {S : Tr} : Steps S S
 | step {S A : Tr} {i : Nat} : can S i → Steps (rem S i) A → Steps S A
theorem Steps.trans {S A B : Tr} (h : Steps S A) (h2 : Steps A B) : Steps S B := by
 induction h with
 | refl => exact h2
 | step hc _ ih => exact .step hc (ih h2)
theorem Steps.nf {S A : Tr} (h : Steps S A) (hn : ∀ i, ¬ can A i) : NF S A := by
 induction h with
 | refl => exact .done hn
 | step hc _ ih => exact .step hc (ih hn)
theorem Steps.sound {ok : Bytes → Bool} {S A : Tr} (h : Steps S A) : Sound0 ok S → Sound0 ok A := by
 induction h with
 | refl => exact fun hs => hs
 | step hc _ ih => exact fun hs => ih (hs.rem hc)
theorem Steps.get {S A : Tr} (h : Steps S A) {j : Nat} {m : Nd} (hj : A j = some m) : ∃ m0, S j = some m0 ∧ m.kind = m0.kind ∧ m.names = m0.names ∧ m.holds = m0.holds := by
 induction h with
 | refl => exact ⟨m, hj, rfl, rfl, rfl⟩
 | step _ _ ih =>
   obtain ⟨m1, h1, h2, h3, h4⟩ := ih hj
   obtain ⟨_, m0, g1, g2⟩ := rem_get h1
   refine ⟨m0, g1, ?_⟩
   rcases g2 with ⟨_, rfl⟩ | ⟨_, rfl⟩
   · exact ⟨h2, h3, h4⟩
   · rw [alone_kind] at h2; rw [alone_names] at h3; rw [alone_holds] at h4
     exact ⟨h2, h3, h4⟩
def Only (S : Tr) (pend : Nat → Nat) : Prop := ∀ k, can S k → pend k ≠ 0
theorem pend_rem {S : Tr} {i : Nat} {n : Nd} (hS : S i = some n) (hi : i ≤ 200) (pend : Nat → Nat) (x : Nat) : lnk (rem S i) x + (pend x + lead x n) = lnk S x + pend x := by
 have h := lnk_rem S hi x
 have e : leadO x (S i) = lead x n := by rw [hS]; rfl
 omega
theorem Only.rem {S : Tr} {i : Nat} {n : Nd} {pend : Nat → Nat} (h : ∀ k, can S k → pend k ≠ 0 ∨ k = i) (hS : S i = some n) (hi : i ≤ 200) : Only (IT.rem S i) fun x => pend x + lead x n := by
 intro k ⟨c1, c2, ⟨m, hm, c3⟩, c4⟩
 obtain ⟨hki, m0, g1, g2⟩ := rem_get hm
 have hl := pend_rem hS hi pend k
 show pend k + lead k n ≠ 0
 intro hz
 have hz1 : pend k = 0 := by omega
 have hz2 : lead k n = 0 := by omega
 have hh : m0.holds = 0 := by
  rcases g2 with ⟨_, rfl⟩ | ⟨_, rfl⟩
  · exact c3
  · rw [alone_holds] at c3; exact c3
 rcases h k ⟨c1, c2, ⟨m0, g1, hh⟩, by omega⟩ with e | e
 · exact e hz1
 · exact hki e
def less (pend : Nat → Nat) (x : Nat) : Nat → Nat := fun j => if j = x then pend j - 1 else pend j
theorem Only.less {S : Tr} {pend : Nat → Nat} (h : Only S pend) (x : Nat) : ∀ k, can S k → IT.less pend x k ≠ 0 ∨ k = x := fun k hk => by
 by_cases e : k = x
 · exact .inr e
 · refine .inl ?_
   unfold IT.less
   rw [if_neg e]; exact h k hk
theorem Only.stay {S : Tr} {pend : Nat → Nat} {i : Nat} (h : ∀ k, can S k → pend k ≠ 0 ∨ k = i) (hi : ¬ can S i ∨ pend i ≠ 0) : Only S pend := fun k hk => by
 rcases h k hk with e | e
 · exact e
 · subst e
   rcases hi with g | g
   · exact absurd hk g
   · exact g
def pendL (l : List (Bytes × Nat)) (x : Nat) : Nat := (l.filter fun p => decide (p.2 = x)).length
theorem pendL_cons (p : Bytes × Nat) (l : List (Bytes × Nat)) (x : Nat) : pendL (p :: l) x = pendL l x + if p.2 = x then 1 else 0 := by
 unfold pendL
 rw [List.filter_cons]
 by_cases h : p.2 = x
 · simp [h]
 · simp [h]
theorem pendL_perm {l l' : List (Bytes × Nat)} (h : l.Perm l') (x : Nat) : pendL l x = pendL l' x := (h.filter _).length_eq
theorem less_cons (base : Nat → Nat) (p : Bytes × Nat) (l : List (Bytes × Nat)) : less (fun x => base x + pendL (p :: l) x) p.2 = fun x => base x + pendL l x := by
 funext x
 unfold less
 dsimp only
 by_cases h : x = p.2
 · subst h; rw [if_pos rfl, pendL_cons, if_pos rfl]; omega
 · rw [if_neg h, pendL_cons, if_neg (Ne.symm h)]; omega
theorem bel_step {S : Tr} {x k : Nat} {n : Nd} (hk : S k = some n) (hkind : n.kind = 1) (hx : k ≠ x) (hp : n.parent ≠ k) : Bel S x k ↔ Bel S x n.parent := ⟨fun h => h.up hk hx, fun h => .step hk hkind hp h⟩
theorem bel_top {S : Tr} {x k : Nat} {n : Nd} (hk : S k = some n) (hx : k ≠ x) (hp : n.parent = k) : ¬ Bel S x k := fun h => by
 cases h with
 | self => exact hx rfl
 | step h1 _ h3 _ => rw [hk] at h1; obtain rfl := Option.some.inj h1; exact h3 hp
open Go.RowKit Classical
theorem sum_lt {f g : Nat → Nat} {a : Nat} : ∀ (l : List Nat), (∀ k ∈ l, f k ≤ g k) → a ∈ l → f a < g a → (l.map f).sum < (l.map g).sum
 | [], _, h, _ => by cases h
 | c :: l, h, ha, hlt => by
   simp only [List.map_cons, List.sum_cons]
   have h1 := h c (by simp)
   have h2 := sum_le l (fun k hk => h k (by simp [hk]))
   rcases List.mem_cons.1 ha with e | ha
   · subst e; omega
   · have := sum_lt (f := f) (g := g) l (fun k hk => h k (by simp [hk])) ha hlt
     omega
noncomputable def under1 (S : Tr) (h : Nat → Nat) (k j : Nat) : Nat := if S j ≠ none ∧ h j < h k then 1 else 0
noncomputable def rk2 (S : Tr) (h : Nat → Nat) (k : Nat) : Nat := ((List.range 201).map (under1 S h k)).sum
theorem rk2_lt {S : Tr} {h : Nat → Nat} {a b : Nat} (ha : S a ≠ none) (ha2 : a ≤ 200) (hlt : h a < h b) : rk2 S h a < rk2 S h b := by
 unfold rk2
 refine sum_lt (a := a) _ (fun k _ => ?_) (by simp; omega) ?_
 · unfold under1
   by_cases e : S k ≠ none ∧ h k < h a
   · rw [if_pos e, if_pos ⟨e.1, by omega⟩]; omega
   · rw [if_neg e]; omega
 · unfold under1
   rw [if_neg (fun e => Nat.lt_irrefl _ e.2), if_pos ⟨ha, hlt⟩]; omega
theorem ones_sum : ((List.range 201).map fun j => if j = 0 then 0 else 1).sum = 200 := by decide +kernel
theorem rk2_small {S : Tr} {h : Nat → Nat} {k : Nat} (h0 : S 0 = none) (hk : S k ≠ none) (hk2 : k ≤ 200) : rk2 S h k < 200 := by
 rw [← ones_sum]
 unfold rk2
 refine sum_lt (a := k) _ (fun j _ => ?_) (by simp; omega) ?_
 · unfold under1
   by_cases e : S j ≠ none ∧ h j < h k
   · rw [if_pos e, if_neg (fun e2 => e.1 (by rw [e2]; exact h0))]; omega
   · rw [if_neg e]; omega
 · unfold under1
   rw [if_neg (fun e => Nat.lt_irrefl _ e.2), if_neg (fun e2 => hk (by rw [e2]; exact h0))]; omega
theorem Sound0.no0 {ok : Bytes → Bool} {S : Tr} (h : Sound0 ok S) : S 0 = none := by
 cases h0 : S 0 with
 | none => rfl
 | some n => have := h.rng 0 n h0; omega
theorem Sound0.rank {ok : Bytes → Bool} {S : Tr} (hs : Sound0 ok S) : ∃ h : Nat → Nat, (∀ k n, S k = some n → h k < 200) ∧ ∀ k n, S k = some n → n.kind = 1 → n.parent ≠ k → h n.parent < h k ∧ ∃ m, S n.parent = some m ∧ m.kind = 1 := by
 obtain ⟨rk, hrk⟩ := hs.chain
 refine ⟨rk2 S rk, fun k n hk => rk2_small hs.no0 (by rw [hk]; intro e; cases e) (hs.rng k n hk).2, fun k n hk hkind hne => ?_⟩
 obtain ⟨g1, m, g2, g3⟩ := hrk k n hk hkind hne
 exact ⟨rk2_lt (by rw [g2]; intro e; cases e) (hs.rng _ m g2).2 g1, m, g2, g3⟩
def above (S : Tr) : Nat → Nat → Nat
 | 0, k => k
 | j + 1, k => above S j (up1 S k)
end Go.Proofs.YtafonmnfeibaiaaGreat.IT
namespace Go.Proofs.YtafonmnfeibaiaaGreat.IT
open Go.RowKit
theorem perm_ins {l e : List (Bytes × Nat)} (h : e.Perm l) (nm : Bytes) (x : Nat) : (e ++ [(nm, x)]).Perm (insN nm x l) :=
 (List.perm_append_comm.trans (h.cons (nm, x))).trans (ins_perm nm x l).symm
theorem perm_del {l e : List (Bytes × Nat)} (h : e.Perm l) (nm : Bytes) : (delN nm e).Perm (delN nm l) := h.filter _
theorem find_of {l : List (Bytes × Nat)} (ho : Ord l) {nm : Bytes} {x : Nat} (h : (nm, x) ∈ l) : findN nm l = some x := by
 cases hf : findN nm l with
 | none => exact absurd rfl (find_none hf (nm, x) h)
 | some y => rw [names_one ho (find_mem hf) h]
theorem perm_find {l e : List (Bytes × Nat)} (ho : Ord l) (h : e.Perm l) (nm : Bytes) : findN nm e = findN nm l := by
 cases hf : findN nm e with
 | none =>
   cases hg : findN nm l with
   | none => rfl
   | some y => exact absurd rfl (find_none hf (nm, y) (h.mem_iff.2 (find_mem hg)))
 | some x => exact (find_of ho (h.mem_iff.1 (find_mem hf))).symm
theorem del_comm (a b : Bytes) (l : List (Bytes × Nat)) : delN a (delN b l) = delN b (delN a l) := by
 unfold delN
 rw [List.filter_filter, List.filter_filter]
 congr 1
 funext p
 exact Bool.and_comm _ _
structure Kp where
 kind : Int
 mode : Int
 owner : Int
 group : Int
 links : Int
 tty : Int
 holds : Int
 data : Bytes
 names : List (Bytes × Nat)
 parent : Nat
structure Ties (P : Nat → Option Kp) (S : Tr) (pend : Nat → Nat) : Prop where
 none : ∀ k, P k = none ↔ S k = none
 some : ∀ k p n, P k = some p → S k = some n → p.kind = n.kind ∧ p.mode = n.mode ∧ p.owner = n.owner ∧ p.group = n.group ∧ p.tty = n.tty ∧ p.holds = n.holds ∧ p.data = n.data ∧ p.names.Perm n.names ∧ p.links = ((lnk S k + pend k : Nat) : Int) ∧ (p.parent = n.parent ∨ (n.kind = 1 ∧ pend k ≠ 0 ∧ n.parent = k))
 lone : ∀ k n, S k = Option.some n → n.kind = 1 → pend k ≠ 0 → n.parent = k
def updK (P : Nat → Option Kp) (k : Nat) (o : Option Kp) : Nat → Option Kp := fun j => if j = k then o else P j
theorem Ties.get {P : Nat → Option Kp} {S : Tr} {pend : Nat → Nat} (h : Ties P S pend) {k : Nat} {p : Kp} (hk : P k = Option.some p) : ∃ n, S k = Option.some n := by
 cases hS : S k with
 | none => rw [(h.none k).2 hS] at hk; cases hk
 | some n => exact ⟨n, rfl⟩
theorem Ties.rem {P : Nat → Option Kp} {S : Tr} {pend : Nat → Nat} (h : Ties P S pend) {i : Nat} {n : Nd} (hS : S i = Option.some n) (hi : i ≤ 200) : Ties (updK P i Option.none) (IT.rem S i) fun x => pend x + lead x n := by
 refine ⟨fun k => ?_, fun k p m hp hm => ?_, fun k m hm hk1 hp1 => ?_⟩
 · unfold updK IT.rem
   by_cases e : k = i
   · rw [if_pos e, if_pos e]; simp
   · rw [if_neg e, if_neg e, h.none k]
     split
     · exact Iff.rfl
     · cases S k <;> simp
 · obtain ⟨e, m0, hm0, hmm⟩ := rem_get hm
   have hp0 : P k = Option.some p := by
    unfold updK at hp; rw [if_neg e] at hp; exact hp
   obtain ⟨a1, a2, a3, a4, a5, a6, a7, a8, a9, a10⟩ := h.some k p m0 hp0 hm0
   have hl := pend_rem hS hi pend k
   have a9' : p.links = ((lnk (IT.rem S i) k + (pend k + lead k n) : Nat) : Int) := by rw [a9, hl]
   have hlead : leadO k (S i) = lead k n := by rw [hS]; rfl
   rcases hmm with ⟨g1, rfl⟩ | ⟨g1, rfl⟩
   · refine ⟨a1, a2, a3, a4, a5, a6, a7, a8, a9', ?_⟩
     rcases a10 with b | ⟨b1, b2, b3⟩
     · exact .inl b
     · exact .inr ⟨b1, by show pend k + lead k n ≠ 0; omega, b3⟩
   · have e2 : (alone k m0).mode = m0.mode ∧ (alone k m0).owner = m0.owner ∧ (alone k m0).group = m0.group ∧ (alone k m0).tty = m0.tty := by unfold alone; split <;> exact ⟨rfl, rfl, rfl, rfl⟩
     refine ⟨by rw [alone_kind]; exact a1, by rw [e2.1]; exact a2, by rw [e2.2.1]; exact a3, by rw [e2.2.2.1]; exact a4, by rw [e2.2.2.2]; exact a5, by rw [alone_holds]; exact a6, by rw [alone_data]; exact a7, by rw [alone_names]; exact a8, a9', ?_⟩
     by_cases hk : m0.kind = 1
     · refine .inr ⟨by rw [alone_kind]; exact hk, ?_, alone_parent hk⟩
       show pend k + lead k n ≠ 0
       omega
     · refine .inl ?_
       unfold alone
       rw [if_neg hk]
       rcases a10 with b | ⟨b1, _, _⟩
       · exact b
       · exact absurd b1 hk
 · obtain ⟨e, m0, hm0, hmm⟩ := rem_get hm
   have hlead : leadO k (S i) = lead k n := by rw [hS]; rfl
   rcases hmm with ⟨g1, rfl⟩ | ⟨g1, rfl⟩
   · exact h.lone k m hm0 hk1 (fun hz => hp1 (by show pend k + lead k n = 0; omega))
   · exact alone_parent (by rw [alone_kind] at hk1; exact hk1)
def losK (x : Nat) (p : Kp) : Kp := { p with links := p.links - 1, parent := if p.kind = 1 then x else p.parent }
theorem Ties.less {P : Nat → Option Kp} {S : Tr} {pend : Nat → Nat} (h : Ties P S pend) {x : Nat} {p : Kp} (hx : P x = Option.some p) (hp : pend x ≠ 0) : Ties (updK P x (Option.some (losK x p))) S (IT.less pend x) := by
 refine ⟨fun k => ?_, fun k q m hq hm => ?_, fun k m hm hk1 hp1 => h.lone k m hm hk1 (fun hz => hp1 (by unfold IT.less; split <;> omega))⟩
 · unfold updK
   by_cases e : k = x
   · rw [if_pos e, e, ← h.none x, hx]; simp
   · rw [if_neg e]; exact h.none k
 · unfold updK at hq
   by_cases e : k = x
   · subst e
     rw [if_pos rfl] at hq
     obtain rfl := Option.some.inj hq
     obtain ⟨a1, a2, a3, a4, a5, a6, a7, a8, a9, a10⟩ := h.some k p m hx hm
     refine ⟨a1, a2, a3, a4, a5, a6, a7, a8, ?_, .inl ?_⟩
     · show p.links - 1 = _
       unfold IT.less
       rw [if_pos rfl, a9]
       omega
     · show (if p.kind = 1 then k else p.parent) = m.parent
       by_cases hk : p.kind = 1
       · rw [if_pos hk, h.lone k m hm (by rw [← a1]; exact hk) hp]
       · rw [if_neg hk]
         rcases a10 with b | ⟨b, _, _⟩
         · exact b
         · exact absurd (a1.trans b) hk
   · rw [if_neg e] at hq
     have hz : IT.less pend x k = pend k := by unfold IT.less; rw [if_neg e]
     rw [hz]; exact h.some k q m hq hm
theorem updK_same (P : Nat → Option Kp) (k : Nat) (o : Option Kp) : updK P k o k = o := if_pos rfl
theorem updK_other (P : Nat → Option Kp) {k j : Nat} (o : Option Kp) (h : j ≠ k) : updK P k o j = P j := if_neg h
def calm : Nat → Nat := fun _ => 0
structure Kept (p : Kp) (n : Nd) (l : Nat) : Prop where
 kind : p.kind = n.kind
 mode : p.mode = n.mode
 owner : p.owner = n.owner
 group : p.group = n.group
 tty : p.tty = n.tty
 holds : p.holds = n.holds
 data : p.data = n.data
 names : p.names.Perm n.names
 links : p.links = (l : Int)
 parent : p.parent = n.parent
theorem Ties.kept {P : Nat → Option Kp} {S : Tr} (h : Ties P S calm) {k : Nat} {p : Kp} {n : Nd} (hp : P k = Option.some p) (hn : S k = Option.some n) : Kept p n (lnk S k) := by
 obtain ⟨a1, a2, a3, a4, a5, a6, a7, a8, a9, a10⟩ := h.some k p n hp hn
 rw [show calm k = 0 from rfl, Nat.add_zero] at a9
 refine ⟨a1, a2, a3, a4, a5, a6, a7, a8, a9, ?_⟩
 rcases a10 with b | ⟨_, b, _⟩
 · exact b
 · exact absurd rfl b
theorem ties_calm {P : Nat → Option Kp} {S : Tr} (h0 : ∀ k, P k = Option.none ↔ S k = Option.none) (h1 : ∀ k p n, P k = Option.some p → S k = Option.some n → Kept p n (lnk S k)) : Ties P S calm :=
 ⟨h0, fun k p n hp hn => by
  obtain ⟨a1, a2, a3, a4, a5, a6, a7, a8, a9, a10⟩ := h1 k p n hp hn
  exact ⟨a1, a2, a3, a4, a5, a6, a7, a8, by rw [show calm k = 0 from rfl, Nat.add_zero]; exact a9, .inl a10⟩, fun k n _ _ hz => absurd rfl hz⟩
theorem Ties.same {P : Nat → Option Kp} {S : Tr} (h : Ties P S calm) {k : Nat} {n n' : Nd} {p' : Kp} (hk : S k = Option.some n) (hk2 : k ≤ 200) (hn : n'.names = n.names) (hp' : Kept p' n' (lnk S k)) : Ties (updK P k (Option.some p')) (upd S k (Option.some n')) calm := by
 refine ties_calm (fun j => ?_) fun j q m hq hm => ?_
 · by_cases e : j = k
   · subst e; rw [updK_same, uY]; simp
   · rw [updK_other _ _ e, uX _ _ e]; exact h.none j
 · rw [lnk_same hk2 hk hn]
   by_cases e : j = k
   · subst e
     rw [updK_same] at hq; rw [uY] at hm
     obtain rfl := Option.some.inj hq
     obtain rfl := Option.some.inj hm
     exact hp'
   · rw [updK_other _ _ e] at hq; rw [uX _ _ e] at hm
     exact h.kept hq hm
theorem Ties.ent {P : Nat → Option Kp} {S : Tr} (h : Ties P S calm) {d x : Nat} {nm : Bytes} {n m : Nd} {p q : Kp} (hd : S d = Option.some n) (hx : S x = Option.some m) (hne : x ≠ d) (hd2 : d ≤ 200) (hx2 : x ≤ 200) (hp : P d = Option.some p) (hq : P x = Option.some q) (l : List (Bytes × Nat)) (hl : l.Perm ((nm, x) :: p.names)) : Ties (updK (updK P x (Option.some { q with links := q.links + 1, parent := if q.kind = 1 then d else q.parent })) d (Option.some { p with names := l })) (entT S d x nm n m) calm := by
 have kd := h.kept hp hd
 have kx := h.kept hq hx
 refine ties_calm (fun j => ?_) fun j r s hr hs => ?_
 · unfold entT
   by_cases e : j = d
   · subst e; rw [updK_same, uY]; simp
   · rw [updK_other _ _ e, uX _ _ e]
     by_cases e2 : j = x
     · subst e2; rw [updK_same, uY]; simp
     · rw [updK_other _ _ e2, uX _ _ e2]; exact h.none j
 · rw [ent_lnk hd hx hne hd2 hx2]
   unfold entT at hs
   by_cases e : j = d
   · subst e
     rw [updK_same] at hr; rw [uY] at hs
     obtain rfl := Option.some.inj hr
     obtain rfl := Option.some.inj hs
     rw [if_neg hne, Nat.add_zero]
     exact ⟨kd.kind, kd.mode, kd.owner, kd.group, kd.tty, kd.holds, kd.data, (hl.trans (kd.names.cons _)).trans (ins_perm nm x n.names).symm, kd.links, kd.parent⟩
   · rw [updK_other _ _ e] at hr; rw [uX _ _ e] at hs
     by_cases e2 : j = x
     · subst e2
       rw [updK_same] at hr; rw [uY] at hs
       obtain rfl := Option.some.inj hr
       obtain rfl := Option.some.inj hs
       rw [if_pos rfl]
       have eo : (under d m).mode = m.mode ∧ (under d m).owner = m.owner ∧ (under d m).group = m.group ∧ (under d m).tty = m.tty := by unfold under; split <;> exact ⟨rfl, rfl, rfl, rfl⟩
       refine ⟨by rw [under_kind]; exact kx.kind, by rw [eo.1]; exact kx.mode, by rw [eo.2.1]; exact kx.owner, by rw [eo.2.2.1]; exact kx.group, by rw [eo.2.2.2]; exact kx.tty, by rw [under_holds]; exact kx.holds, by rw [under_data]; exact kx.data, by rw [under_names]; exact kx.names, ?_, ?_⟩
       · show q.links + 1 = _
         rw [kx.links]; omega
       · show (if q.kind = 1 then d else q.parent) = _
         unfold under
         rw [← kx.kind]
         by_cases hk : q.kind = 1
         · rw [if_pos hk, if_pos hk]
         · rw [if_neg hk, if_neg hk]; exact kx.parent
     · rw [updK_other _ _ e2] at hr; rw [uX _ _ e2] at hs
       rw [if_neg (Ne.symm e2), Nat.add_zero]
       exact h.kept hr hs
theorem Ties.del {P : Nat → Option Kp} {S : Tr} (h : Ties P S calm) {d x : Nat} {nm : Bytes} {n m : Nd} {p : Kp} (hd : S d = Option.some n) (hx : S x = Option.some m) (hne : x ≠ d) (hd2 : d ≤ 200) (hx2 : x ≤ 200) (ho : Ord n.names) (hf : findN nm n.names = Option.some x) (hp : P d = Option.some p) (l : List (Bytes × Nat)) (hl : l.Perm (delN nm p.names)) : Ties (updK P d (Option.some { p with names := l })) (delT S d x nm n m) fun y => if y = x then 1 else 0 := by
 have kd := h.kept hp hd
 have hlk := del_lnk (m := m) hd hx hne hd2 hx2 ho hf
 refine ⟨fun j => ?_, fun j r s hr hs => ?_, fun j s hs hk hz => ?_⟩
 · unfold delT
   by_cases e : j = d
   · subst e; rw [updK_same, uY]; simp
   · rw [updK_other _ _ e, uX _ _ e]
     by_cases e2 : j = x
     · subst e2; rw [uY, h.none j, hx]; simp
     · rw [uX _ _ e2]; exact h.none j
 · have hl1 := hlk j
   by_cases e : j = d
   · subst e
     rw [updK_same] at hr; rw [del_at_d] at hs
     obtain rfl := Option.some.inj hr
     obtain rfl := Option.some.inj hs
     rw [if_neg hne] at hl1
     rw [if_neg (Ne.symm hne)]
     exact ⟨kd.kind, kd.mode, kd.owner, kd.group, kd.tty, kd.holds, kd.data, hl.trans (perm_del kd.names nm), by rw [hl1]; exact kd.links, .inl kd.parent⟩
   · rw [updK_other _ _ e] at hr
     by_cases e2 : j = x
     · subst e2
       rw [del_at_x e] at hs
       obtain rfl := Option.some.inj hs
       have kx := h.kept hr hx
       rw [if_pos rfl] at hl1
       rw [if_pos rfl]
       have eo : (alone j m).mode = m.mode ∧ (alone j m).owner = m.owner ∧ (alone j m).group = m.group ∧ (alone j m).tty = m.tty := by unfold alone; split <;> exact ⟨rfl, rfl, rfl, rfl⟩
       refine ⟨by rw [alone_kind]; exact kx.kind, by rw [eo.1]; exact kx.mode, by rw [eo.2.1]; exact kx.owner, by rw [eo.2.2.1]; exact kx.group, by rw [eo.2.2.2]; exact kx.tty, by rw [alone_holds]; exact kx.holds, by rw [alone_data]; exact kx.data, by rw [alone_names]; exact kx.names, by rw [hl1]; exact kx.links, ?_⟩
       by_cases hk : m.kind = 1
       · exact .inr ⟨by rw [alone_kind]; exact hk, by omega, alone_parent hk⟩
       · refine .inl ?_
         unfold alone; rw [if_neg hk]; exact kx.parent
     · rw [del_at e e2] at hs
       rw [if_neg (Ne.symm e2)] at hl1
       rw [if_neg e2]
       have kj := h.kept hr hs
       exact ⟨kj.kind, kj.mode, kj.owner, kj.group, kj.tty, kj.holds, kj.data, kj.names, by rw [hl1]; exact kj.links, .inl kj.parent⟩
 · by_cases e2 : j = x
   · subst e2
     rw [del_at_x hne] at hs
     obtain rfl := Option.some.inj hs
     exact alone_parent (by rw [alone_kind] at hk; exact hk)
   · exact absurd (if_neg e2) hz
open Go.RowKit Classical
inductive StepsP (pend : Nat → Nat) : Tr → Tr → Prop
 | refl {S : Tr} : StepsP pend S S
 | step {S A : Tr} {i : Nat} : can S i → pend i = 0 → StepsP pend (rem S i) A → StepsP pend S A
theorem StepsP.trans {pend : Nat → Nat} {S A B : Tr} (h : StepsP pend S A) (h2 : StepsP pend A B) : StepsP pend S B := by
 induction h with
 | refl => exact h2
 | step hc hp _ ih => exact .step hc hp (ih h2)
theorem StepsP.mono {pend pend' : Nat → Nat} (hpp : ∀ i, pend' i = 0 → pend i = 0) {S A : Tr} (h : StepsP pend' S A) : StepsP pend S A := by
 induction h with
 | refl => exact .refl
 | step hc hp _ ih => exact .step hc (hpp _ hp) ih
theorem StepsP.steps {pend : Nat → Nat} {S A : Tr} (h : StepsP pend S A) : Steps S A := by
 induction h with
 | refl => exact .refl
 | step hc _ _ ih => exact .step hc ih
theorem StepsP.keep {pend : Nat → Nat} {S A : Tr} (h : StepsP pend S A) {k : Nat} (hp : pend k ≠ 0) : ∀ {n : Nd}, S k = some n → ∃ m, A k = some m := by
 induction h with
 | refl => exact fun {n} hk => ⟨n, hk⟩
 | step _ hz _ ih =>
   intro n hk
   obtain ⟨m, hm, _⟩ := rem_some hk (fun e => hp (by rw [e]; exact hz))
   exact ih hm
noncomputable def one1 (S : Tr) (k : Nat) : Nat := if S k = none then 0 else 1
noncomputable def cnt (S : Tr) : Nat := ((List.range 201).map (one1 S)).sum
theorem rem_none {S : Tr} {i j : Nat} : rem S i j = none ↔ j = i ∨ S j = none := by
 unfold rem
 by_cases e : j = i
 · rw [if_pos e]; simp [e]
 · rw [if_neg e]
   split
   · simp [e]
   · cases S j <;> simp [e]
theorem cnt_rem {S : Tr} {i : Nat} (hi : i ≤ 200) (hS : S i ≠ none) : cnt (rem S i) < cnt S := by
 unfold cnt
 refine sum_lt (a := i) _ (fun k _ => ?_) (by simp; omega) ?_
 · unfold one1
   by_cases e : S k = none
   · rw [if_pos e, if_pos (rem_none.2 (.inr e))]; omega
   · rw [if_neg e]; split <;> omega
 · unfold one1
   rw [if_pos (rem_none.2 (.inl rfl)), if_neg hS]; omega
theorem Steps.cnt {S A : Tr} (h : Steps S A) : cnt A ≤ cnt S := by
 induction h with
 | refl => exact Nat.le_refl _
 | @step S A i hc _ ih =>
   obtain ⟨n, hn, _⟩ := hc.2.2.1
   have hne : S i ≠ none := by rw [hn]; intro e; cases e
   have := cnt_rem hc.2.1 hne
   omega
def goneP (pend : Nat → Nat) (S S' : Tr) : Prop := StepsP pend S S' ∧ Only S' pend
theorem gone_stay {pend : Nat → Nat} {S : Tr} {i : Nat} (h : ∀ k, can S k → pend k ≠ 0 ∨ k = i) (hi : ¬ can S i ∨ pend i ≠ 0) : goneP pend S S := ⟨.refl, Only.stay h hi⟩
theorem gone_goes {pend : Nat → Nat} {S S' : Tr} {i : Nat} (hc : can S i) (hz : pend i = 0) (h : goneP pend (rem S i) S') : goneP pend S S' := ⟨.step hc hz h.1, h.2⟩
theorem gone_nf {S S' : Tr} (h : goneP calm S S') : NF S S' := h.1.steps.nf fun i hi => h.2 i hi rfl
end Go.Proofs.YtafonmnfeibaiaaGreat.IT
namespace Go.Proofs.YtafonmnfeibaiaaGreat.IT
open Go.RowKit
def single (x : Nat) : Nat → Nat := fun y => if y = x then 1 else 0
theorem single_same (x : Nat) : single x x = 1 := if_pos rfl
theorem single_other {x y : Nat} (h : y ≠ x) : single x y = 0 := if_neg h
theorem less_single (pend : Nat → Nat) (x : Nat) : less (fun y => pend y + single x y) x = pend := by
 funext y
 unfold less
 by_cases e : y = x
 · subst e; simp [single_same]
 · rw [if_neg e]; simp [single_other e]
theorem updK_comm (P : Nat → Option Kp) {a b : Nat} (h : a ≠ b) (u v : Option Kp) : updK (updK P a u) b v = updK (updK P b v) a u := by
 funext j
 unfold updK
 by_cases e : j = a
 · subst e; simp [h]
 · simp [e]
theorem updK_twice (P : Nat → Option Kp) (a : Nat) (u v : Option Kp) : updK (updK P a u) a v = updK P a v := by
 funext j
 unfold updK
 by_cases e : j = a
 · simp [e]
 · simp [e]
theorem alone_rest (x : Nat) (m : Nd) : (alone x m).mode = m.mode ∧ (alone x m).owner = m.owner ∧ (alone x m).group = m.group ∧ (alone x m).tty = m.tty := by unfold alone; split <;> exact ⟨rfl, rfl, rfl, rfl⟩
theorem under_rest (x : Nat) (m : Nd) : (under x m).mode = m.mode ∧ (under x m).owner = m.owner ∧ (under x m).group = m.group ∧ (under x m).tty = m.tty := by unfold under; split <;> exact ⟨rfl, rfl, rfl, rfl⟩
theorem Ties.delP {P : Nat → Option Kp} {S : Tr} {pend : Nat → Nat} (h : Ties P S pend) {d x : Nat} {nm : Bytes} {n m : Nd} {p : Kp} (hd : S d = Option.some n) (hx : S x = Option.some m) (hne : x ≠ d) (hd2 : d ≤ 200) (hx2 : x ≤ 200) (ho : Ord n.names) (hf : findN nm n.names = Option.some x) (hp : P d = Option.some p) (l : List (Bytes × Nat)) (hl : l.Perm (delN nm p.names)) : Ties (updK P d (Option.some { p with names := l })) (delT S d x nm n m) fun y => pend y + single x y := by
 have hlk := del_lnk (m := m) hd hx hne hd2 hx2 ho hf
 refine ⟨fun j => ?_, fun j r s hr hs => ?_, fun j s hs hk hz => ?_⟩
 · unfold delT
   by_cases e : j = d
   · subst e; rw [updK_same, uY]; simp
   · rw [updK_other _ _ e, uX _ _ e]
     by_cases e2 : j = x
     · subst e2; rw [uY, h.none j, hx]; simp
     · rw [uX _ _ e2]; exact h.none j
 · have hl1 := hlk j
   by_cases e : j = d
   · subst e
     rw [updK_same] at hr; rw [del_at_d] at hs
     obtain rfl := Option.some.inj hr
     obtain rfl := Option.some.inj hs
     rw [if_neg hne, Nat.add_zero] at hl1
     obtain ⟨a1, a2, a3, a4, a5, a6, a7, a8, a9, a10⟩ := h.some j p n hp hd
     refine ⟨a1, a2, a3, a4, a5, a6, a7, hl.trans (perm_del a8 nm), ?_, ?_⟩
     · rw [single_other (Ne.symm hne), Nat.add_zero]
       rw [hl1]
       exact a9
     · rw [single_other (Ne.symm hne), Nat.add_zero]; exact a10
   · rw [updK_other _ _ e] at hr
     by_cases e2 : j = x
     · subst e2
       rw [del_at_x e] at hs
       obtain rfl := Option.some.inj hs
       obtain ⟨a1, a2, a3, a4, a5, a6, a7, a8, a9, a10⟩ := h.some j r m hr hx
       rw [if_pos rfl] at hl1
       obtain ⟨b1, b2, b3, b4⟩ := alone_rest j m
       refine ⟨by rw [alone_kind]; exact a1, by rw [b1]; exact a2, by rw [b2]; exact a3, by rw [b3]; exact a4, by rw [b4]; exact a5, by rw [alone_holds]; exact a6, by rw [alone_data]; exact a7, by rw [alone_names]; exact a8, ?_, ?_⟩
       · rw [a9, ← hl1, single_same, Nat.add_assoc, Nat.add_comm 1]
       · by_cases hk : m.kind = 1
         · exact .inr ⟨by rw [alone_kind]; exact hk, by rw [single_same]; omega, alone_parent hk⟩
         · refine .inl ?_
           unfold alone; rw [if_neg hk]
           rcases a10 with b | ⟨b, _, _⟩
           · exact b
           · exact absurd b hk
     · rw [del_at e e2] at hs
       rw [if_neg (Ne.symm e2), Nat.add_zero] at hl1
       obtain ⟨a1, a2, a3, a4, a5, a6, a7, a8, a9, a10⟩ := h.some j r s hr hs
       refine ⟨a1, a2, a3, a4, a5, a6, a7, a8, ?_, ?_⟩
       · rw [single_other e2, Nat.add_zero, hl1]; exact a9
       · rw [single_other e2, Nat.add_zero]; exact a10
 · by_cases e2 : j = x
   · subst e2
     rw [del_at_x hne] at hs
     obtain rfl := Option.some.inj hs
     exact alone_parent (by rw [alone_kind] at hk; exact hk)
   · rw [single_other e2, Nat.add_zero] at hz
     by_cases e : j = d
     · subst e
       rw [del_at_d] at hs
       obtain rfl := Option.some.inj hs
       exact h.lone j n hd hk hz
     · rw [del_at e e2] at hs
       exact h.lone j s hs hk hz
theorem Ties.entP {P : Nat → Option Kp} {S : Tr} {pend : Nat → Nat} {x : Nat} (h : Ties P S fun y => pend y + single x y) {d : Nat} {nm : Bytes} {n m : Nd} {p q : Kp} (hz : pend x = 0) (hd : S d = Option.some n) (hx : S x = Option.some m) (hne : x ≠ d) (hd2 : d ≤ 200) (hx2 : x ≤ 200) (hp : P d = Option.some p) (hq : P x = Option.some q) (l : List (Bytes × Nat)) (hl : l.Perm ((nm, x) :: p.names)) : Ties (updK (updK P x (Option.some { q with parent := if q.kind = 1 then d else q.parent })) d (Option.some { p with names := l })) (entT S d x nm n m) pend := by
 have hlk := ent_lnk (nm := nm) (m := m) hd hx hne hd2 hx2
 have at_d : entT S d x nm n m d = Option.some { n with names := insN nm x n.names } := uY _ _ _
 have at_x : entT S d x nm n m x = Option.some (under d m) := by unfold entT; rw [uX _ _ hne, uY]
 have at_o : ∀ {j}, j ≠ d → j ≠ x → entT S d x nm n m j = S j := fun e1 e2 => by unfold entT; rw [uX _ _ e1, uX _ _ e2]
 refine ⟨fun j => ?_, fun j r s hr hs => ?_, fun j s hs hk hpz => ?_⟩
 · by_cases e : j = d
   · subst e; rw [updK_same, at_d]; simp
   · rw [updK_other _ _ e]
     by_cases e2 : j = x
     · subst e2; rw [updK_same, at_x]; simp
     · rw [updK_other _ _ e2, at_o e e2]; exact h.none j
 · rw [hlk]
   by_cases e : j = d
   · subst e
     rw [updK_same] at hr; rw [at_d] at hs
     obtain rfl := Option.some.inj hr
     obtain rfl := Option.some.inj hs
     rw [if_neg hne, Nat.add_zero]
     obtain ⟨a1, a2, a3, a4, a5, a6, a7, a8, a9, a10⟩ := h.some j p n hp hd
     rw [single_other (Ne.symm hne), Nat.add_zero] at a9 a10
     exact ⟨a1, a2, a3, a4, a5, a6, a7, (hl.trans (a8.cons _)).trans (ins_perm nm x n.names).symm, a9, a10⟩
   · rw [updK_other _ _ e] at hr
     by_cases e2 : j = x
     · subst e2
       rw [updK_same] at hr; rw [at_x] at hs
       obtain rfl := Option.some.inj hr
       obtain rfl := Option.some.inj hs
       rw [if_pos rfl]
       obtain ⟨a1, a2, a3, a4, a5, a6, a7, a8, a9, a10⟩ := h.some j q m hq hx
       rw [single_same] at a9
       obtain ⟨b1, b2, b3, b4⟩ := under_rest d m
       refine ⟨by rw [under_kind]; exact a1, by rw [b1]; exact a2, by rw [b2]; exact a3, by rw [b3]; exact a4, by rw [b4]; exact a5, by rw [under_holds]; exact a6, by rw [under_data]; exact a7, by rw [under_names]; exact a8, ?_, .inl ?_⟩
       · show q.links = _
         rw [a9, Nat.add_assoc, Nat.add_comm 1]
       · show (if q.kind = 1 then d else q.parent) = _
         unfold under
         rw [← a1]
         by_cases hk : q.kind = 1
         · rw [if_pos hk, if_pos hk]
         · rw [if_neg hk, if_neg hk]
           rcases a10 with b | ⟨b, _, _⟩
           · exact b
           · exact absurd (a1.trans b) hk
     · rw [updK_other _ _ e2] at hr; rw [at_o e e2] at hs
       rw [if_neg (Ne.symm e2), Nat.add_zero]
       have a := h.some j r s hr hs
       rw [single_other e2, Nat.add_zero] at a
       exact a
 · by_cases e2 : j = x
   · subst e2; exact absurd hz hpz
   · by_cases e : j = d
     · subst e
       rw [at_d] at hs
       obtain rfl := Option.some.inj hs
       exact h.lone j n hd hk (by rw [single_other e2, Nat.add_zero]; exact hpz)
     · rw [at_o e e2] at hs
       exact h.lone j s hs hk (by rw [single_other e2, Nat.add_zero]; exact hpz)
theorem Ties.congr {P : Nat → Option Kp} {S : Tr} {a b : Nat → Nat} (h : Ties P S a) (e : a = b) : Ties P S b := e ▸ h
theorem calm_single (x : Nat) : (fun y => calm y + single x y) = single x := by funext y; show 0 + single x y = _; rw [Nat.zero_add]
theorem less_one (x : Nat) : less (single x) x = calm := by
 rw [← calm_single]; exact less_single calm x
theorem lnk_new {S : Tr} {k : Nat} {n : Nd} (hk : S k = Option.none) (hk2 : k ≤ 200) (hn : n.names = []) (x : Nat) : lnk (upd S k (Option.some n)) x = lnk S x := by
 have e := lnk_upd S hk2 (Option.some n) x
 have e1 : leadO x (Option.some n) = 0 := by show lead x n = 0; unfold lead; rw [hn]; rfl
 rw [hk] at e
 have e2 : leadO x Option.none = 0 := rfl
 omega
theorem Ties.make {P : Nat → Option Kp} {S : Tr} (h : Ties P S calm) {k : Nat} {n : Nd} {p : Kp} (hk : S k = Option.none) (hk2 : k ≤ 200) (hn : n.names = []) (hl : lnk S k = 0) (hp : Kept p n 0) : Ties (updK P k (Option.some p)) (upd S k (Option.some n)) calm := by
 refine ties_calm (fun j => ?_) fun j q m hq hm => ?_
 · by_cases e : j = k
   · subst e; rw [updK_same, uY]; simp
   · rw [updK_other _ _ e, uX _ _ e]; exact h.none j
 · rw [lnk_new hk hk2 hn]
   by_cases e : j = k
   · subst e
     rw [updK_same] at hq; rw [uY] at hm
     obtain rfl := Option.some.inj hq
     obtain rfl := Option.some.inj hm
     rw [hl]; exact hp
   · rw [updK_other _ _ e] at hq; rw [uX _ _ e] at hm
     exact h.kept hq hm
theorem Ties.root {m o g : Int} {p : Kp} (hp : Kept p ⟨1, m, o, g, 0, 0, [], [], 1⟩ 0) : Ties (updK (fun _ => Option.none) 1 (Option.some p)) (rootT m o g) calm := by
 refine ties_calm (fun j => ?_) fun j q n hq hn => ?_
 · unfold updK rootT
   by_cases e : j = 1
   · rw [if_pos e, if_pos e]; simp
   · rw [if_neg e, if_neg e]; exact ⟨fun _ => rfl, fun _ => rfl⟩
 · obtain ⟨rfl, rfl⟩ := rootT_get hn
   rw [updK_same] at hq
   obtain rfl := Option.some.inj hq
   rw [rootT_lnk]; exact hp
theorem entT_names {S : Tr} {d x : Nat} {nm : Bytes} {n m : Nd} (hne : x ≠ d) : entT S d x nm n m x = Option.some (under d m) := by unfold entT; rw [uX _ _ hne, uY]
open Go.RowKit Classical
section
variable {ok : Bytes → Bool} {S : Tr} {d b x : Nat} {nm as : Bytes} {n q m : Nd}
variable (hs : Sound ok S) (hd : S d = some n) (hb : S b = some q) (hdk : n.kind = 1) (hbk : q.kind = 1) (hf : findN nm n.names = some x) (hx : S x = some m) (hok : ok as = true) (hw : ¬(m.kind = 1 ∧ Bel S x b))
include hs hd hb hdk hbk hf hx hok hw
theorem move_ne : x ≠ d ∧ x ≠ b ∧ x ≠ 1 := by
 have _ := hdk
 have _ := hok
 have hne := hs.1.apart hd hx hf
 refine ⟨hne, fun e2 => ?_, fun e2 => ?_⟩
 · subst e2; rw [hx] at hb; obtain rfl := Option.some.inj hb
   exact hw ⟨hbk, .self⟩
 · subst e2
   have l1 : lnk (delT S d 1 nm n m) 1 + (if 1 = 1 then 1 else 0) = lnk S 1 := del_lnk hd hx hne (hs.1.rng d n hd).2 (by omega) (hs.1.ord d n hd) hf 1
   have := hs.1.root0
   rw [if_pos rfl] at l1
   omega
theorem move_q : ∃ q1, delT S d x nm n m b = some q1 ∧ q1.kind = 1 ∧ (q1 = if b = d then { n with names := delN nm n.names } else q) := by
 obtain ⟨hne, hxb, hx1⟩ := move_ne hs hd hb hdk hbk hf hx hok hw
 by_cases hdb : b = d
 · subst hdb
   rw [hd] at hb; obtain rfl := Option.some.inj hb
   exact ⟨_, del_at_d, hdk, by rw [if_pos rfl]⟩
 · exact ⟨q, by rw [del_at hdb (Ne.symm hxb)]; exact hb, hbk, by rw [if_neg hdb]⟩
theorem move_can {j : Nat} (h : can (delT S d x nm n m) j) : j = x := by
 obtain ⟨hne, hxb, hx1⟩ := move_ne hs hd hb hdk hbk hf hx hok hw
 rcases del_can hd hx hne (hs.1.rng d n hd).2 (hs.1.rng x m hx).2 (hs.1.ord d n hd) hf h with g | g
 · exact g
 · exact absurd g (hs.2 j)
theorem move_lnk (y : Nat) : lnk (delT S d x nm n m) y + single x y = lnk S y := by
 obtain ⟨hne, hxb, hx1⟩ := move_ne hs hd hb hdk hbk hf hx hok hw
 have := del_lnk (m := m) hd hx hne (hs.1.rng d n hd).2 (hs.1.rng x m hx).2 (hs.1.ord d n hd) hf y
 unfold single
 by_cases e : x = y
 · subst e; rw [if_pos rfl] at this ⊢; exact this
 · rw [if_neg e] at this; rw [if_neg (Ne.symm e)]; exact this
section
variable {w : Nat} {mw : Nd} (hfa : findN as q.names = some w) (hwx : w ≠ x) (hwS : S w = some mw) (hemp : mw.names = [])
include hfa hwx hwS hemp
theorem move_over : ∃ q1, delT S d x nm n m b = some q1 ∧ q1.kind = 1 ∧ (q1 = if b = d then { n with names := delN nm n.names } else q) ∧ findN as q1.names = some w ∧ w ≠ b ∧ w ≠ d ∧ delT S d x nm n m w = some mw ∧
  Sound0 ok (delT S d x nm n m) ∧
  Sound0 ok (entT (delT (delT S d x nm n m) b w as q1 mw) b x as { q1 with names := delN as q1.names } (alone x m)) ∧
  (∀ j, can (entT (delT (delT S d x nm n m) b w as q1 mw) b x as { q1 with names := delN as q1.names } (alone x m)) j → j = w) ∧
  ∀ y, lnk (entT (delT (delT S d x nm n m) b w as q1 mw) b x as { q1 with names := delN as q1.names } (alone x m)) y + single w y = lnk S y := by
 obtain ⟨hne, hxb, hx1⟩ := move_ne hs hd hb hdk hbk hf hx hok hw
 obtain ⟨q1, hq1, hq1k, hq1e⟩ := move_q hs hd hb hdk hbk hf hx hok hw
 have hd2 := (hs.1.rng d n hd).2
 have hx2 := (hs.1.rng x m hx).2
 have hb2 := (hs.1.rng b q hb).2
 have hw2 := (hs.1.rng w mw hwS).2
 have s1 := hs.1.del hd hx hf
 have e1 : delT S d x nm n m x = some (alone x m) := del_at_x hne
 have hwd : w ≠ d := fun e2 => by
  subst e2; rw [hd] at hwS; obtain rfl := Option.some.inj hwS
  rw [hemp] at hf; cases hf
 have hwb : w ≠ b := hs.1.apart hb hwS hfa
 have ew : delT S d x nm n m w = some mw := by rw [del_at hwd hwx]; exact hwS
 have hfq : findN as q1.names = some w := by
  by_cases hdb : b = d
  · rw [if_pos hdb] at hq1e
    subst hq1e
    subst hdb
    rw [hd] at hb; obtain rfl := Option.some.inj hb
    show findN as (delN nm n.names) = some w
    have hna : as ≠ nm := fun e2 => by rw [e2, hf] at hfa; exact hwx (Option.some.inj hfa).symm
    cases hff : findN as (delN nm n.names) with
    | none =>
      have := find_none hff (as, w) (List.mem_filter.2 ⟨find_mem hfa, by simp [hna]⟩)
      exact absurd rfl this
    | some w2 =>
      have hm := (List.mem_filter.1 (find_mem hff)).1
      have hm2 := find_mem hfa
      exact congrArg some (names_one (hs.1.ord b n hd) hm hm2)
  · rw [if_neg hdb] at hq1e
    subst hq1e
    exact hfa
 have s2 := s1.del hq1 ew hfq
 have l2 := del_lnk hq1 ew hwb hb2 hw2 (s1.ord b q1 hq1) hfq
 have e2 : delT (delT S d x nm n m) b w as q1 mw x = some (alone x m) := by
  rw [del_at hxb (Ne.symm hwx)]; exact e1
 have hq2 : delT (delT S d x nm n m) b w as q1 mw b = some { q1 with names := delN as q1.names } := del_at_d
 have l1 := move_lnk hs hd hb hdk hbk hf hx hok hw
 have l1x := l1 x
 rw [single_same] at l1x
 have l2x := l2 x
 rw [if_neg hwx] at l2x
 refine ⟨q1, hq1, hq1k, hq1e, hfq, hwb, hwd, ew, s1, s2.enter hq2 hq1k e2 del_not hok ?_ (by have := hs.1.many x; omega) fun hk1 => ⟨hx1, ?_, fun hh => ?_⟩, fun j hj => ?_, fun y => ?_⟩
 · have h2 := del_len (s1.ord b q1 hq1) hfq
   have h3 := s1.few b q1 hq1
   show (delN as q1.names).length < 40
   omega
 · rw [alone_kind] at hk1
   have := hs.1.once x m hx hk1; omega
 · rw [alone_kind] at hk1
   exact hw ⟨hk1, (hh.del hq1 ew).del hd hx⟩
 · obtain ⟨g1, g2⟩ := ent_can hq2 e2 hxb hb2 hx2 hj
   rcases del_can hq1 ew hwb hb2 hw2 (s1.ord b q1 hq1) hfq g2 with g3 | g3
   · exact g3
   · exact absurd (move_can hs hd hb hdk hbk hf hx hok hw g3) g1
 · have h1 := ent_lnk (nm := as) hq2 e2 hxb hb2 hx2 y
   have h2 := l2 y
   have h3 := l1 y
   unfold single at h3 ⊢
   by_cases ex : x = y
   · subst ex
     rw [if_pos rfl] at h1 h3
     rw [if_neg hwx] at h2
     rw [if_neg (Ne.symm hwx)]
     omega
   · rw [if_neg ex] at h1
     rw [if_neg (Ne.symm ex)] at h3
     by_cases ew2 : w = y
     · subst ew2
       rw [if_pos rfl] at h2
       rw [if_pos rfl]
       omega
     · rw [if_neg ew2] at h2
       rw [if_neg (Ne.symm ew2)]
       omega
end
end
end Go.Proofs.YtafonmnfeibaiaaGreat.IT
namespace Go.Proofs.YtafonmnfeibaiaaGreat.IT
open Go.RowKit Classical
theorem isHold.one {S A B : Tr} {k : Nat} {r q : Bool} (h : isHold S k r A) (g : isHold S k q B) : r = q ∧ A = B := by
 unfold isHold at h g
 cases hk : S k with
 | none => rw [hk] at h g; exact ⟨h.1.trans g.1.symm, h.2.trans g.2.symm⟩
 | some n => rw [hk] at h g; exact ⟨h.1.trans g.1.symm, h.2.trans g.2.symm⟩
theorem isDrop.one {S A B : Tr} {k : Nat} {r q : Bool} (h : isDrop S k r A) (g : isDrop S k q B) : r = q ∧ A = B := by
 unfold isDrop at h g
 cases hk : S k with
 | none => rw [hk] at h g; exact ⟨h.1.trans g.1.symm, h.2.trans g.2.symm⟩
 | some n =>
   rw [hk] at h g
   dsimp only at h g
   by_cases e : n.holds = 0
   · rw [if_pos e] at h g; exact ⟨h.1.trans g.1.symm, h.2.trans g.2.symm⟩
   · rw [if_neg e] at h g; exact ⟨h.1.trans g.1.symm, NF.unique h.2 g.2⟩
theorem isSet.one {rt : Int → Int → Int → Prop} {S A B : Tr} {k : Nat} {m o g e f : Int} (h : isSet rt S k m o g e A) (h2 : isSet rt S k m o g f B) : e = f ∧ A = B := by
 unfold isSet at h h2
 cases hk : S k with
 | none => rw [hk] at h h2; exact ⟨h.1.trans h2.1.symm, h.2.trans h2.2.symm⟩
 | some n =>
   rw [hk] at h h2
   dsimp only at h h2
   by_cases c : rt m o g
   · simp only [c, not_true_eq_false, if_false, if_true] at h h2; exact ⟨h.1.trans h2.1.symm, h.2.trans h2.2.symm⟩
   · simp only [c, not_false_eq_true, if_false, if_true] at h h2; exact ⟨h.1.trans h2.1.symm, h.2.trans h2.2.symm⟩
theorem isPut.one {S A B : Tr} {k : Nat} {a e f : Int} {s : Bytes} (h : isPut S k a s e A) (g : isPut S k a s f B) : e = f ∧ A = B := by
 unfold isPut at h g
 cases hk : S k with
 | none => rw [hk] at h g; exact ⟨h.1.trans g.1.symm, h.2.trans g.2.symm⟩
 | some n =>
   rw [hk] at h g
   dsimp only at h g
   split at h
   · rename_i c; rw [if_pos c] at g; exact ⟨h.1.trans g.1.symm, h.2.trans g.2.symm⟩
   rename_i c1; rw [if_neg c1] at g
   split at h
   · rename_i c; rw [if_pos c] at g; exact ⟨h.1.trans g.1.symm, h.2.trans g.2.symm⟩
   rename_i c2; rw [if_neg c2] at g
   split at h
   · rename_i c; rw [if_pos c] at g; exact ⟨h.1.trans g.1.symm, h.2.trans g.2.symm⟩
   rename_i c3; rw [if_neg c3] at g
   split at h
   · rename_i c; rw [if_pos c] at g; exact ⟨h.1.trans g.1.symm, h.2.trans g.2.symm⟩
   rename_i c4; rw [if_neg c4] at g
   exact ⟨h.1.trans g.1.symm, h.2.trans g.2.symm⟩
theorem isCut.one {S A B : Tr} {k : Nat} {e f : Int} (h : isCut S k e A) (g : isCut S k f B) : e = f ∧ A = B := by
 unfold isCut at h g
 cases hk : S k with
 | none => rw [hk] at h g; exact ⟨h.1.trans g.1.symm, h.2.trans g.2.symm⟩
 | some n =>
   rw [hk] at h g
   dsimp only at h g
   split at h
   · rename_i c; rw [if_pos c] at g; exact ⟨h.1.trans g.1.symm, h.2.trans g.2.symm⟩
   rename_i c1; rw [if_neg c1] at g
   split at h
   · rename_i c; rw [if_pos c] at g; exact ⟨h.1.trans g.1.symm, h.2.trans g.2.symm⟩
   rename_i c2; rw [if_neg c2] at g
   exact ⟨h.1.trans g.1.symm, h.2.trans g.2.symm⟩
theorem isMake.one {rt : Int → Int → Int → Prop} {S A B : Tr} {kind m o g tty e f : Int} {i j : Nat} (h : isMake rt S kind m o g tty i e A) (h2 : isMake rt S kind m o g tty j f B) : i = j ∧ e = f ∧ A = B := by
 unfold isMake at h h2
 split at h
 · rename_i c; rw [if_pos c] at h2; exact ⟨h.1.trans h2.1.symm, h.2.1.trans h2.2.1.symm, h.2.2.trans h2.2.2.symm⟩
 rename_i c1; rw [if_neg c1] at h2
 split at h
 · rename_i c; rw [if_pos c] at h2; exact ⟨h.1.trans h2.1.symm, h.2.1.trans h2.2.1.symm, h.2.2.trans h2.2.2.symm⟩
 rename_i c2; rw [if_neg c2] at h2
 split at h
 · rename_i c; rw [if_pos c] at h2; exact ⟨h.1.trans h2.1.symm, h.2.1.trans h2.2.1.symm, h.2.2.trans h2.2.2.symm⟩
 rename_i c3; rw [if_neg c3] at h2
 obtain ⟨a1, a2, a3, a4, a5, a6⟩ := h
 obtain ⟨b1, b2, b3, b4, b5, b6⟩ := h2
 have hij : i = j := by
  by_cases c : i < j
  · exact absurd a4 (b5 i a2 c)
  · by_cases c' : j < i
    · exact absurd b4 (a5 j b2 c')
    · omega
 subst hij
 exact ⟨rfl, a1.trans b1.symm, a6.trans b6.symm⟩
theorem isEnter.one {ok : Bytes → Bool} {S A B : Tr} {d x : Nat} {nm : Bytes} {e f : Int} (h : isEnter ok S d nm x e A) (g : isEnter ok S d nm x f B) : e = f ∧ A = B := by
 unfold isEnter at h g
 cases hd : S d with
 | none => rw [hd] at h g; exact ⟨h.1.trans g.1.symm, h.2.trans g.2.symm⟩
 | some n =>
 cases hx : S x with
 | none => rw [hd, hx] at h g; exact ⟨h.1.trans g.1.symm, h.2.trans g.2.symm⟩
 | some m =>
 rw [hd, hx] at h g
 dsimp only at h g
 split at h
 · rename_i c; rw [if_pos c] at g; exact ⟨h.1.trans g.1.symm, h.2.trans g.2.symm⟩
 rename_i c1; rw [if_neg c1] at g
 split at h
 · rename_i c; rw [if_pos c] at g; exact ⟨h.1.trans g.1.symm, h.2.trans g.2.symm⟩
 rename_i c2; rw [if_neg c2] at g
 split at h
 · rename_i c; rw [if_pos c] at g; exact ⟨h.1.trans g.1.symm, h.2.trans g.2.symm⟩
 rename_i c3; rw [if_neg c3] at g
 split at h
 · rename_i c; rw [if_pos c] at g; exact ⟨h.1.trans g.1.symm, h.2.trans g.2.symm⟩
 rename_i c4; rw [if_neg c4] at g
 split at h
 · rename_i c; rw [if_pos c] at g; exact ⟨h.1.trans g.1.symm, h.2.trans g.2.symm⟩
 rename_i c5; rw [if_neg c5] at g
 split at h
 · rename_i c; rw [if_pos c] at g; exact ⟨h.1.trans g.1.symm, h.2.trans g.2.symm⟩
 rename_i c6; rw [if_neg c6] at g
 exact ⟨h.1.trans g.1.symm, h.2.trans g.2.symm⟩
theorem isRemove.one {S A B : Tr} {d : Nat} {nm : Bytes} {e f : Int} (h : isRemove S d nm e A) (g : isRemove S d nm f B) : e = f ∧ A = B := by
 unfold isRemove at h g
 cases hd : S d with
 | none => rw [hd] at h g; exact ⟨h.1.trans g.1.symm, h.2.trans g.2.symm⟩
 | some n =>
 rw [hd] at h g
 dsimp only at h g
 split at h
 · rename_i c; rw [if_pos c] at g; exact ⟨h.1.trans g.1.symm, h.2.trans g.2.symm⟩
 rename_i c1; rw [if_neg c1] at g
 cases hf : findN nm n.names with
 | none => rw [hf] at h g; exact ⟨h.1.trans g.1.symm, h.2.trans g.2.symm⟩
 | some x =>
   rw [hf] at h g
   dsimp only at h g
   obtain ⟨m, hm, h⟩ := h
   obtain ⟨m2, hm2, g⟩ := g
   obtain rfl := Option.some.inj (hm.symm.trans hm2)
   split at h
   · rename_i c; rw [if_pos c] at g; exact ⟨h.1.trans g.1.symm, h.2.trans g.2.symm⟩
   rename_i c2; rw [if_neg c2] at g
   exact ⟨h.1.trans g.1.symm, NF.unique h.2 g.2⟩
theorem isMove.one {ok : Bytes → Bool} {S A B : Tr} {d b : Nat} {nm ar : Bytes} {e f : Int} (h : isMove ok S d nm b ar e A) (g : isMove ok S d nm b ar f B) : e = f ∧ A = B := by
 unfold isMove at h g
 cases hd : S d with
 | none => rw [hd] at h g; exact ⟨h.1.trans g.1.symm, h.2.trans g.2.symm⟩
 | some n =>
 cases hb : S b with
 | none => rw [hd, hb] at h g; exact ⟨h.1.trans g.1.symm, h.2.trans g.2.symm⟩
 | some q =>
 rw [hd, hb] at h g
 dsimp only at h g
 split at h
 · rename_i c; rw [if_pos c] at g; exact ⟨h.1.trans g.1.symm, h.2.trans g.2.symm⟩
 rename_i c1; rw [if_neg c1] at g
 cases hf : findN nm n.names with
 | none => rw [hf] at h g; exact ⟨h.1.trans g.1.symm, h.2.trans g.2.symm⟩
 | some x =>
 rw [hf] at h g
 dsimp only at h g
 obtain ⟨m, hm, h⟩ := h
 obtain ⟨m2, hm2, g⟩ := g
 obtain rfl := Option.some.inj (hm.symm.trans hm2)
 split at h
 · rename_i c; rw [if_pos c] at g; exact ⟨h.1.trans g.1.symm, h.2.trans g.2.symm⟩
 rename_i c2; rw [if_neg c2] at g
 split at h
 · rename_i c; rw [if_pos c] at g; exact ⟨h.1.trans g.1.symm, h.2.trans g.2.symm⟩
 rename_i c3; rw [if_neg c3] at g
 cases hfa : findN ar q.names with
 | none =>
   rw [hfa] at h g
   dsimp only at h g
   split at h
   · rename_i c; rw [if_pos c] at g; exact ⟨h.1.trans g.1.symm, h.2.trans g.2.symm⟩
   rename_i c4; rw [if_neg c4] at g
   obtain ⟨a0, q1, m1, a1, a2, a3⟩ := h
   obtain ⟨b0, p1, n1, b1, b2, b3⟩ := g
   obtain rfl := Option.some.inj (a1.symm.trans b1)
   obtain rfl := Option.some.inj (a2.symm.trans b2)
   exact ⟨a0.trans b0.symm, a3.trans b3.symm⟩
 | some y =>
   rw [hfa] at h g
   dsimp only at h g
   split at h
   · rename_i c; rw [if_pos c] at g; exact ⟨h.1.trans g.1.symm, h.2.trans g.2.symm⟩
   rename_i c4; rw [if_neg c4] at g
   obtain ⟨mw, hw, h⟩ := h
   obtain ⟨mv, hv, g⟩ := g
   obtain rfl := Option.some.inj (hw.symm.trans hv)
   split at h
   · rename_i c; rw [if_pos c] at g; exact ⟨h.1.trans g.1.symm, h.2.trans g.2.symm⟩
   rename_i c5; rw [if_neg c5] at g
   split at h
   · rename_i c; rw [if_pos c] at g; exact ⟨h.1.trans g.1.symm, h.2.trans g.2.symm⟩
   rename_i c6; rw [if_neg c6] at g
   obtain ⟨a0, q1, q2, q3, a1, a2, a3, a4⟩ := h
   obtain ⟨b0, p1, p2, p3, b1, b2, b3, b4⟩ := g
   obtain rfl := Option.some.inj (a1.symm.trans b1)
   obtain rfl := Option.some.inj (a2.symm.trans b2)
   obtain rfl := Option.some.inj (a3.symm.trans b3)
   exact ⟨a0.trans b0.symm, NF.unique a4 b4⟩
end Go.Proofs.YtafonmnfeibaiaaGreat.IT
namespace Go.Proofs.YtafonmnfeibaiaaGreat.IT
open Go.RowKit
def canB (S : Tr) (i : Nat) : Bool := decide (i ≠ 1) && ((match S i with
 | none => false
 | some n => decide (n.holds = 0)) && decide (lnk S i = 0))
theorem nf_stay {S S' : Tr} (h : NF S S') (hn : ∀ i, ¬ can S i) : S' = S := (NF.unique (.done hn) h).symm
end Go.Proofs.YtafonmnfeibaiaaGreat.IT
