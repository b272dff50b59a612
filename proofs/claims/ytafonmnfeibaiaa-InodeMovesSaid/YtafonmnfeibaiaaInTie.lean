/- What a tree in memory is, plainly: no links kept, names in order. No program in sight. -/
import Derived.Test.YtafonmnfeibaiaaInIter
import Derived.Test.YtafonmnfeibaiaaITSp
import Derived.Lib.IndexAny
namespace Go.Proofs.Ytafonmnfeibaiaa
open Go.RowKit

def bs (s : ByteArray) : List UInt8 := s.data.toList
theorem bs_inj {a b : ByteArray} (h : bs a = bs b) : a = b := by
  have : a.data = b.data := Array.toList_inj.1 h
  exact ByteArray.ext this
theorem bs_len (s : ByteArray) : (bs s).length = s.size := by unfold bs; simp
/-- A text as it lies. -/
def tx (l : List UInt8) : ByteArray := ⟨l.toArray⟩
theorem bs_tx (l : List UInt8) : bs (tx l) = l := by unfold bs tx; simp
theorem tx_bs (s : ByteArray) : tx (bs s) = s := bs_inj (bs_tx _)
def ents (l : List (ByteArray × Nat)) : List (IT.Bytes × Nat) := l.map fun p => (bs p.1, p.2)
def kp (n : Nd) : IT.Kp := ⟨n.kind, n.mode, n.owner, n.group, n.links, n.tty, n.holds, bs n.data, ents n.names, n.parent⟩
def kpOf (S : Tab) : Nat → Option IT.Kp := fun k => (S k).map fun p => kp p.2
theorem kpOf_some {S : Tab} {k b : Nat} {n : Nd} (h : S k = some (b, n)) : kpOf S k = some (kp n) := by unfold kpOf; rw [h]; rfl
theorem kpOf_none {S : Tab} {k : Nat} (h : S k = none) : kpOf S k = none := by unfold kpOf; rw [h]; rfl
theorem kpOf_upd (S : Tab) (k b : Nat) (n : Nd) : kpOf (upd S k (some (b, n))) = IT.updK (kpOf S) k (some (kp n)) := by
  funext j
  unfold kpOf IT.updK upd
  by_cases e : j = k
  · rw [if_pos e, if_pos e]; rfl
  · rw [if_neg e, if_neg e]
theorem kpOf_del (S : Tab) (k : Nat) : kpOf (upd S k none) = IT.updK (kpOf S) k none := by
  funext j
  unfold kpOf IT.updK upd
  by_cases e : j = k
  · rw [if_pos e, if_pos e]; rfl
  · rw [if_neg e, if_neg e]
theorem look_find (s : ByteArray) : ∀ l : List (ByteArray × Nat), IT.findN (bs s) (ents l) = look l s
  | [] => rfl
  | p :: l => by
    have ih := look_find s l
    unfold IT.findN ents look at ih ⊢
    rw [List.map_cons, List.find?_cons, List.find?_cons]
    by_cases h : p.1 = s
    · rw [decide_eq_true h, decide_eq_true (show bs p.1 = bs s by rw [h])]; rfl
    · rw [decide_eq_false h, decide_eq_false (fun e => h (bs_inj e))]; exact ih
theorem ents_del (s : ByteArray) {l : List (ByteArray × Nat)} (h : (l.map (·.1)).Nodup) : ents (delL l s) = IT.delN (bs s) (ents l) := by
  rw [delL_filter s h]
  unfold ents IT.delN
  rw [List.filter_map]
  congr 1
  apply List.filter_congr
  intro p _
  show (!decide (p.1 = s)) = !decide (bs p.1 = bs s)
  congr 1
  exact decide_eq_decide.2 ⟨fun e => by rw [e], bs_inj⟩
theorem Rep.nodup {w : World} {t : Nat} {S : Tab} (h : Rep w t S) {k b : Nat} {n : Nd} (hk : S k = some (b, n)) : (n.names.map (·.1)).Nodup := by
  cases hm : n.mp with
  | none => rw [h.nomap k b n hk hm]; exact List.nodup_nil
  | some m =>
    obtain ⟨es, c, _, ho⟩ := h.map k b n m hk hm
    exact ho.keys

/-! ### The name of an entry -/
def okc (c : UInt8) : Bool := decide (32 ≤ c.toNat) && decide (c.toNat ≠ 127)
def plainB (l : List UInt8) : Bool := l.all okc
def okN (l : IT.Bytes) : Bool := decide (¬ l = [] ∧ l.length ≤ 14 ∧ ¬ l = [46] ∧ ¬ l = [46, 46] ∧ plainB l = true ∧ ¬ (0 ≤ Lib.indexByte l 47))

/-! ### A tree -/
structure Tre (w : World) (t : Nat) (S : Tab) (T : IT.Tr) : Prop where
  rep : Rep w t S
  ties : IT.Ties (kpOf S) T IT.calm
  snd : IT.Sound okN T

section
variable {w : World} {t : Nat} {S : Tab} {T : IT.Tr} (h : Tre w t S T)
include h
theorem Tre.none_iff (k : Nat) : S k = none ↔ T k = none := by
  rw [← h.ties.none k]
  constructor
  · exact kpOf_none
  · intro e
    cases hk : S k with
    | none => rfl
    | some p => obtain ⟨b, n⟩ := p; rw [kpOf_some hk] at e; cases e
theorem Tre.get {k b : Nat} {n : Nd} (hk : S k = some (b, n)) : ∃ m, T k = some m ∧ IT.Kept (kp n) m (IT.lnk T k) := by
  obtain ⟨m, hm⟩ := h.ties.get (kpOf_some hk)
  exact ⟨m, hm, h.ties.kept (kpOf_some hk) hm⟩
theorem Tre.back {k : Nat} {m : IT.Nd} (hm : T k = some m) : ∃ b n, S k = some (b, n) ∧ IT.Kept (kp n) m (IT.lnk T k) := by
  cases hk : S k with
  | none => rw [(h.none_iff k).1 hk] at hm; cases hm
  | some p =>
    obtain ⟨b, n⟩ := p
    exact ⟨b, n, rfl, h.ties.kept (kpOf_some hk) hm⟩
theorem Tre.look {k b : Nat} {n : Nd} (hk : S k = some (b, n)) {m : IT.Nd} (hm : T k = some m) (s : ByteArray) : look n.names s = IT.findN (bs s) m.names := by
  have hp : (ents n.names).Perm m.names := (h.ties.kept (kpOf_some hk) hm).names
  rw [← look_find, IT.perm_find (h.snd.1.ord k m hm) hp]
end
/-- The call has turned the tree as R says. -/
def Stp (w : World) (t : Nat) (S : Tab) (R : IT.Tr → Prop) (w' : World) : Prop := ∃ S' T', Mv w t S w' S' ∧ IT.Ties (kpOf S') T' IT.calm ∧ R T'
theorem Stp.tre {w w' : World} {t : Nat} {S : Tab} {R : IT.Tr → Prop} (h : Stp w t S R w') (hR : ∀ T', R T' → IT.Sound okN T') : ∃ S' T', Mv w t S w' S' ∧ Tre w' t S' T' ∧ R T' := by
  obtain ⟨S', T', h1, h2, h3⟩ := h
  exact ⟨S', T', h1, ⟨h1.rep, h2, hR T' h3⟩, h3⟩
theorem Stp.keep {w : World} {t : Nat} {S : Tab} {T : IT.Tr} (h : Tre w t S T) {R : IT.Tr → Prop} (hR : R T) : Stp w t S R w := ⟨S, T, Mv.refl h.rep, h.ties, hR⟩
theorem Stp.keepB {w w' : World} {t : Nat} {S : Tab} {T : IT.Tr} (h : Tre w t S T) (hb : Below w.heap.size w w') {R : IT.Tr → Prop} (hR : R T) : Stp w t S R w' := ⟨S, T, (Mv.refl h.rep).below hb, h.ties, hR⟩
theorem Tre.mv {w w' : World} {t : Nat} {S : Tab} {T : IT.Tr} (h : Tre w t S T) (g : Mv w t S w' S) : Tre w' t S T := ⟨g.rep, h.ties, h.snd⟩
end Go.Proofs.Ytafonmnfeibaiaa
