/-
  It is proved that InodeSound returns true for every input: after any calls of the tree, a hundred and twenty at most, every link is counted, every name leads somewhere, and every directory lies below the top or below one that is loose.
  Conditions: none beyond the statement's own (the reading of the arguments; internal/bytealg.MaxLen is named, not read).
-/
import Derived.Test.YtafonmnfeibaiaaAll5
import Derived.Test.YtafonmnfeibaiaaAll0
import Derived.BigRegion
import Derived.RegionTactic
import Derived.Test.YtafonmnfeibaiaaAll2
import Derived.Test.YtafonmnfeibaiaaAll3
import Derived.WalkKit
import Derived.ProofKit
import Derived.OpenShut
import Derived.ChangeOld
import Derived.SliceStrings
import Derived.ChangeSlices
import Derived.Carry
import Derived.Deep.Slices
import Derived.ChangeArms
import Derived.DataReads
import Derived.Test.YtafonmnfeibaiaaRows
import Derived.ShutString
import Derived.Below
namespace Go.Proofs.Ytafonmnfeibaiaa
open Go.RowKit

/-! ### walk: plainer, takes -/
theorem Stp.pre {w w1 w' : World} {t : Nat} {S S1 : Tab} {R : IT.Tr → Prop} (g : Mv w t S w1 S1) (s : Stp w1 t S1 R w') : Stp w t S R w' := by
  obtain ⟨S', T', h1, h2, h3⟩ := s
  exact ⟨S', T', g.trans h1, h2, h3⟩
theorem Stp.imp {w w' : World} {t : Nat} {S : Tab} {R R' : IT.Tr → Prop} (s : Stp w t S R w') (f : ∀ T', R T' → R' T') : Stp w t S R' w' := by
  obtain ⟨S', T', h1, h2, h3⟩ := s
  exact ⟨S', T', h1, h2, f T' h3⟩
theorem Stp.below {w w1 w' : World} {t : Nat} {S : Tab} {R : IT.Tr → Prop} (s : Stp w t S R w1) (hb : Below w1.heap.size w1 w') : Stp w t S R w' := by
  obtain ⟨S', T', h1, h2, h3⟩ := s
  exact ⟨S', T', h1.below hb, h2, h3⟩
/-- A mode without set-user-id. -/
def clr (m : Int) : Int := bits .andNot .i64 m 2048
def isPlainer (T : IT.Tr) (k : Nat) (T' : IT.Tr) : Prop := match T k with
  | none => T' = T
  | some m => ∃ r, IT.isSet rt T k (clr m.mode) m.owner m.group r T'
theorem isPlainer.sound {T T' : IT.Tr} {k : Nat} (h : isPlainer T k T') (hs : IT.Sound okN T) : IT.Sound okN T' := by
  unfold isPlainer at h
  split at h
  · exact h ▸ hs
  · obtain ⟨r, h⟩ := h
    exact h.sound hs
set_option maxRecDepth 100000 in
set_option maxHeartbeats 4000000 in
theorem plainer_any {w : World} {t : Nat} {S : Tab} {T : IT.Tr} (h : Tre w t S T) (ki : Int) :
    Calls Try.prog 45 #[.pointer (some ⟨t, 0, none⟩), .int .i64 ki] w fun e w' => e = .returned (.tuple #[]) ∧ Stp w t S (fun T' => isPlainer T ki.toNat T') w' := by
  have H := Lib.hid h
  cases hk : T ki.toNat with
  | none =>
    have HC : Hid (Calls Try.prog 14 #[.pointer (some ⟨t, 0, none⟩), .int .i64 ki] w fun e w' => e = .returned (.tuple #[noInfo, .bool false]) ∧ Below w.heap.size w w') := Lib.hid ((stat_any h ki).mono (by
      rintro e w' ⟨rfl, hb⟩
      refine ⟨?_, hb⟩
      rw [hk]; unfold statV; rw [hk]; rfl))
    have HK := Lib.hid hk
    clear h hk
    unfold noInfo at HC
    go_enter Try.func45, Try.ntmps45
    go_wp2_with fail
    refine HC.out.mono ?_
    rintro e w2 ⟨rfl, hb⟩
    have HB := Lib.hid hb
    clear hb
    go_wp2
    refine bodyPost_end (results_none rfl _ _ _) rfl ⟨rfl, Stp.keepB H.out (belowA HB.out _) ?_⟩
    unfold isPlainer
    rw [HK.out]
  | some m =>
    obtain ⟨d0, d1, d2, d3, d4, d5, d6, d7, hd⟩ : ∃ d0 d1 d2 d3 d4 d5 d6 d7 : Int, infC T ki.toNat m = #[.int .i64 d0, .int .i64 d1, .int .i64 d2, .int .i64 d3, .int .i64 d4, .int .i64 d5, .int .i64 d6, .int .i64 d7] := ⟨_, _, _, _, _, _, _, _, rfl⟩
    have HC : Hid (Calls Try.prog 14 #[.pointer (some ⟨t, 0, none⟩), .int .i64 ki] w fun e w' => e = .returned (.tuple #[.agg #[.int .i64 d0, .int .i64 d1, .int .i64 d2, .int .i64 d3, .int .i64 d4, .int .i64 d5, .int .i64 d6, .int .i64 d7], .bool true]) ∧ Below w.heap.size w w') := Lib.hid ((stat_any h ki).mono (by
      rintro e w' ⟨rfl, hb⟩
      refine ⟨?_, hb⟩
      rw [hk, ← stat_eq hk, hd]; rfl))
    have HK := Lib.hid hk
    have HI := Lib.hid (infC_inj hd)
    clear h hk hd
    go_enter Try.func45, Try.ntmps45
    go_wp2_with fail
    refine HC.out.mono ?_
    rintro e w2 ⟨rfl, hb⟩
    have HB := Lib.hid (belowA hb (.cells #[.int .i64 d0, .int .i64 d1, .int .i64 d2, .int .i64 d3, .int .i64 d4, .int .i64 d5, .int .i64 d6, .int .i64 d7] 35))
    clear hb HC
    go_wp2_with fail
    refine (set_any (H.out.mv ((Mv.refl H.out.rep).below HB.out)) _ _ _ _).mono ?_
    rintro e w3 ⟨r, rfl, hs⟩
    have HS := Lib.hid (Stp.pre ((Mv.refl H.out.rep).below HB.out) hs)
    clear hs
    go_wp2
    refine bodyPost_end (results_none rfl _ _ _) rfl ⟨rfl, HS.out.imp fun T' hT' => ?_⟩
    unfold isPlainer
    rw [HK.out]
    obtain ⟨e0, e1, e2, e3, e4, _, _, _⟩ := HI.out
    refine ⟨r, ?_⟩
    rw [e2, e3, e4]
    exact hT'
end Go.Proofs.Ytafonmnfeibaiaa
/- How far the holds of a tree go: a bound that each call keeps, or makes greater by one. Plain. -/
namespace Go.Proofs.Ytafonmnfeibaiaa
open Go.RowKit

theorem HB.mono {T : IT.Tr} {B B' : Nat} (h : HB T B) (hB : B ≤ B') : HB T B' := fun k m hk => Nat.le_trans (h k m hk) hB
theorem HB.upd {T : IT.Tr} {B : Nat} (h : HB T B) (k : Nat) {o : Option IT.Nd} (ho : ∀ m, o = some m → m.holds ≤ B) : HB (IT.upd T k o) B := fun j m hj => by
  by_cases e : j = k
  · subst e; rw [IT.upd_same] at hj; exact ho m hj
  · rw [IT.upd_other T o e] at hj; exact h j m hj
theorem alone_holds (j : Nat) (m : IT.Nd) : (IT.alone j m).holds = m.holds := by unfold IT.alone; split <;> rfl
theorem HB.rem {T : IT.Tr} {B : Nat} (h : HB T B) (i : Nat) : HB (IT.rem T i) B := fun j m hj => by
  unfold IT.rem at hj
  split at hj
  · cases hj
  · split at hj
    · exact h j m hj
    · obtain ⟨m0, h0, rfl⟩ := Option.map_eq_some_iff.1 hj
      rw [alone_holds]
      exact h j m0 h0
theorem HB.nf {T A : IT.Tr} (h : IT.NF T A) : ∀ {B : Nat}, HB T B → HB A B := by
  induction h with
  | done _ => exact fun hb => hb
  | step _ _ ih => exact fun hb => ih (hb.rem _)
theorem HB.make {T T' : IT.Tr} {B i : Nat} {kind m o g tty e : Int} (h : HB T B) (hB : 1 ≤ B) (hm : IT.isMake rt T kind m o g tty i e T') : HB T' B := by
  unfold IT.isMake at hm
  split at hm
  · exact hm.2.2 ▸ h
  · split at hm
    · exact hm.2.2 ▸ h
    · split at hm
      · exact hm.2.2 ▸ h
      · obtain ⟨_, _, _, _, _, rfl⟩ := hm
        exact h.upd _ (fun m hm => by cases hm; exact hB)
theorem HB.ent {T : IT.Tr} {B d x : Nat} {nm : IT.Bytes} {n m : IT.Nd} (h : HB T B) (hd : T d = some n) (hx : T x = some m) : HB (IT.entT T d x nm n m) B := by
  unfold IT.entT
  refine (h.upd _ (fun q hq => ?_)).upd _ (fun q hq => ?_)
  · cases hq; rw [IT.under_holds]; exact h x m hx
  · cases hq; exact h d n hd
theorem HB.enter {T T' : IT.Tr} {B d x : Nat} {nm : IT.Bytes} {e : Int} (h : HB T B) (hm : IT.isEnter okN T d nm x e T') : HB T' B := by
  unfold IT.isEnter at hm
  cases hd : T d with
  | none => rw [hd] at hm; exact hm.2 ▸ h
  | some n =>
    cases hx : T x with
    | none => rw [hd, hx] at hm; exact hm.2 ▸ h
    | some m =>
      rw [hd, hx] at hm
      dsimp only at hm
      repeat' split at hm
      all_goals first | exact hm.2 ▸ h | (rw [hm.2]; exact h.ent hd hx)
theorem HB.hold {T T' : IT.Tr} {B k : Nat} {r : Bool} (h : HB T B) (hm : IT.isHold T k r T') : HB T' (B + 1) := by
  unfold IT.isHold at hm
  cases hk : T k with
  | none => rw [hk] at hm; exact (hm.2 ▸ h).mono (Nat.le_succ B)
  | some n =>
    rw [hk] at hm
    dsimp only at hm
    rw [hm.2]
    exact (h.mono (Nat.le_succ B)).upd _ (fun q hq => by cases hq; exact Nat.succ_le_succ (h k n hk))
theorem HB.drop {T T' : IT.Tr} {B k : Nat} {r : Bool} (h : HB T B) (hm : IT.isDrop T k r T') : HB T' B := by
  unfold IT.isDrop at hm
  cases hk : T k with
  | none => rw [hk] at hm; exact hm.2 ▸ h
  | some n =>
    rw [hk] at hm
    dsimp only at hm
    split at hm
    · exact hm.2 ▸ h
    · exact HB.nf hm.2 (h.upd _ (fun q hq => by cases hq; exact Nat.le_trans (Nat.sub_le _ _) (h k n hk)))
theorem HB.set {T T' : IT.Tr} {B k : Nat} {m o g e : Int} (h : HB T B) (hm : IT.isSet rt T k m o g e T') : HB T' B := by
  unfold IT.isSet at hm
  cases hk : T k with
  | none => rw [hk] at hm; exact hm.2 ▸ h
  | some n =>
    rw [hk] at hm
    dsimp only at hm
    split at hm
    · exact hm.2 ▸ h
    · rw [hm.2]; exact h.upd _ (fun q hq => by cases hq; exact h k n hk)
theorem HB.put {T T' : IT.Tr} {B k : Nat} {a e : Int} {s : IT.Bytes} (h : HB T B) (hm : IT.isPut T k a s e T') : HB T' B := by
  unfold IT.isPut at hm
  cases hk : T k with
  | none => rw [hk] at hm; exact hm.2 ▸ h
  | some n =>
    rw [hk] at hm
    dsimp only at hm
    repeat' split at hm
    all_goals first | exact hm.2 ▸ h | (rw [hm.2]; exact h.upd _ (fun q hq => by cases hq; exact h k n hk))
theorem HB.cut {T T' : IT.Tr} {B k : Nat} {e : Int} (h : HB T B) (hm : IT.isCut T k e T') : HB T' B := by
  unfold IT.isCut at hm
  cases hk : T k with
  | none => rw [hk] at hm; exact hm.2 ▸ h
  | some n =>
    rw [hk] at hm
    dsimp only at hm
    repeat' split at hm
    all_goals first | exact hm.2 ▸ h | (rw [hm.2]; exact h.upd _ (fun q hq => by cases hq; exact h k n hk))
theorem HB.del' {T : IT.Tr} {B d x : Nat} {nm : IT.Bytes} {n m : IT.Nd} (h : HB T B) (hd : T d = some n) (hm : m.holds ≤ B) : HB (IT.delT T d x nm n m) B := by
  unfold IT.delT
  refine (h.upd _ (fun q hq => ?_)).upd _ (fun q hq => ?_)
  · cases hq; rw [alone_holds]; exact hm
  · cases hq; exact h d n hd
theorem HB.del {T : IT.Tr} {B d x : Nat} {nm : IT.Bytes} {n m : IT.Nd} (h : HB T B) (hd : T d = some n) (hx : T x = some m) : HB (IT.delT T d x nm n m) B := by
  unfold IT.delT
  refine (h.upd _ (fun q hq => ?_)).upd _ (fun q hq => ?_)
  · cases hq; rw [alone_holds]; exact h x m hx
  · cases hq; exact h d n hd
theorem HB.remove {T T' : IT.Tr} {B d : Nat} {nm : IT.Bytes} {e : Int} (h : HB T B) (hm : IT.isRemove T d nm e T') : HB T' B := by
  unfold IT.isRemove at hm
  cases hd : T d with
  | none => rw [hd] at hm; exact hm.2 ▸ h
  | some n =>
    rw [hd] at hm
    dsimp only at hm
    split at hm
    · exact hm.2 ▸ h
    · split at hm
      · exact hm.2 ▸ h
      · obtain ⟨m, hx, hm⟩ := hm
        split at hm
        · exact hm.2 ▸ h
        · exact HB.nf hm.2 (h.del hd hx)
theorem HB.move {T T' : IT.Tr} {B d b : Nat} {nm ar : IT.Bytes} {e : Int} (h : HB T B) (hm : IT.isMove okN T d nm b ar e T') : HB T' B := by
  unfold IT.isMove at hm
  cases hd : T d with
  | none => rw [hd] at hm; exact hm.2 ▸ h
  | some n =>
    cases hb : T b with
    | none => rw [hd, hb] at hm; exact hm.2 ▸ h
    | some q =>
      rw [hd, hb] at hm
      dsimp only at hm
      split at hm
      · exact hm.2 ▸ h
      · split at hm
        · exact hm.2 ▸ h
        · obtain ⟨m, hx, hm⟩ := hm
          split at hm
          · exact hm.2 ▸ h
          · split at hm
            · exact hm.2 ▸ h
            · split at hm
              · split at hm
                · exact hm.2 ▸ h
                · obtain ⟨_, q1, m1, h1, h2, rfl⟩ := hm
                  exact (h.del hd hx).ent h1 h2
              · split at hm
                · exact hm.2 ▸ h
                · obtain ⟨mw, hw, hm⟩ := hm
                  split at hm
                  · exact hm.2 ▸ h
                  · split at hm
                    · exact hm.2 ▸ h
                    · obtain ⟨_, q1, q2, m2, h1, h2, h3, hnf⟩ := hm
                      refine HB.nf hnf (HB.ent ?_ h2 h3)
                      exact HB.del' (h.del hd hx) h1 (h _ mw hw)
theorem HB.plainer {T T' : IT.Tr} {B k : Nat} (h : HB T B) (hm : isPlainer T k T') : HB T' B := by
  unfold isPlainer at hm
  split at hm
  · exact hm ▸ h
  · obtain ⟨r, hm⟩ := hm
    exact h.set hm
end Go.Proofs.Ytafonmnfeibaiaa
/- The program's tree and the document's, side by side. No walk in sight. -/
namespace Go.Proofs.Ytafonmnfeibaiaa
open Go.RowKit

theorem not_foot {w : World} {t : Nat} {S : Tab} (h : Rep w t S) {b : Nat} {C : Array Value} {T : TypeId} {f : Nat × Nat} (hh : w.heap[b]? = some (.cells C T f)) (h1 : T ≠ 71) (h2 : T ≠ 86) : ¬ foot S t b := by
  rintro (rfl | ⟨k, c, n, hk, rfl | hm⟩)
  · have e := hh.symm.trans h.tree
    simp only [Option.some.injEq, Obj.cells.injEq] at e
    exact h1 e.2.1
  · have e := hh.symm.trans (h.node k _ n hk)
    simp only [Option.some.injEq, Obj.cells.injEq] at e
    exact h2 e.2.1
  · obtain ⟨es, clock, e, _⟩ := h.map k c n _ hk hm
    rw [hh] at e; cases e
/-- Blocks that are neither tree's stay. -/
def Lay (w w' : World) : Prop := w.heap.size ≤ w'.heap.size ∧ ∀ (b : Nat) (C : Array Value) (T : TypeId) (f : Nat × Nat), w.heap[b]? = some (.cells C T f) → T ≠ 71 → T ≠ 86 → T ≠ 110 → w'.heap[b]? = some (.cells C T f)
theorem Lay.refl (w : World) : Lay w w := ⟨Nat.le_refl _, fun _ _ _ _ h _ _ _ => h⟩
theorem Lay.trans {a b c : World} (h : Lay a b) (g : Lay b c) : Lay a c := ⟨Nat.le_trans h.1 g.1, fun k C T f e h1 h2 h3 => g.2 k C T f (h.2 k C T f e h1 h2 h3) h1 h2 h3⟩
theorem Lay.below {w w' : World} (h : Below w.heap.size w w') : Lay w w' := ⟨h.size, fun b C T f e _ _ _ => (h.block b (lt_of_heap e)).trans e⟩
theorem RF.Rf.mv {w w' : World} {t r B : Nat} {S S' : Tab} {G : RF.Gt} (h : RF.Rf w r B G) (hr : Rep w t S) (g : Mv w t S w' S') : RF.Rf w' r B G :=
  ⟨(g.block r h.ltT (not_foot hr h.tree (by decide) (by decide))).trans h.tree, (g.block B h.ltB (not_foot hr h.row (by decide) (by decide))).trans h.row,
    fun k hk => (h.ents k hk).same fun g0 _ _ hg => g.block g0 (lt_of_heap hg) (not_foot hr hg (by decide) (by decide))⟩
theorem Rep.mo {w w' : World} {t r B : Nat} {S : Tab} {G : RF.Gt} (h : Rep w t S) (hr : RF.Rf w r B G) (g : RF.Mo B w w') : Rep w' t S :=
  h.same fun b hb => g.block b (h.foot_lt hb) (fun e => not_foot h hr.row (by decide) (by decide) (e ▸ hb))
/-- Both trees, the call's own from n0 on. -/
structure Duo (n0 : Nat) (w0 w : World) (t : Nat) (S : Tab) (T : IT.Tr) (r B : Nat) (G : RF.Gt) (T2 : IT.Tr) : Prop where
  a : Tro n0 w0 w t S T
  b : RF.Trf w r B G T2
  le : n0 ≤ B
theorem Duo.below {n0 : Nat} {w0 w w' : World} {t : Nat} {S : Tab} {T : IT.Tr} {r B : Nat} {G : RF.Gt} {T2 : IT.Tr} (h : Duo n0 w0 w t S T r B G T2) (hb : Below w.heap.size w w') : Duo n0 w0 w' t S T r B G T2 :=
  ⟨h.a.below hb, ⟨h.b.rep.below hb, h.b.ties, h.b.snd⟩, h.le⟩
theorem Duo.stp {n0 : Nat} {w0 w w' : World} {t : Nat} {S : Tab} {T : IT.Tr} {r B : Nat} {G : RF.Gt} {T2 : IT.Tr} (h : Duo n0 w0 w t S T r B G T2) {R : IT.Tr → Prop} (g : Stp w t S R w') (hR : ∀ T', R T' → IT.Sound okN T') : ∃ S' T', Duo n0 w0 w' t S' T' r B G T2 ∧ R T' ∧ Lay w w' := by
  obtain ⟨S', T', g1, g2, g3⟩ := h.a.stp g hR
  exact ⟨S', T', ⟨g1, ⟨h.b.rep.mv h.a.own.rep g3, h.b.ties, h.b.snd⟩, h.le⟩, g2, g3.size, fun b C T f e h1 h2 _ => (g3.block b (lt_of_heap e) (not_foot h.a.own.rep e h1 h2)).trans e⟩
theorem Duo.stf {n0 : Nat} {w0 w w' : World} {t : Nat} {S : Tab} {T : IT.Tr} {r B : Nat} {G : RF.Gt} {T2 : IT.Tr} (h : Duo n0 w0 w t S T r B G T2) {R : IT.Tr → Prop} (g : RF.Stf w r B R w') (hR : ∀ T', R T' → IT.Sound okN T') : ∃ G' T', Duo n0 w0 w' t S T r B G' T' ∧ R T' ∧ Lay w w' := by
  obtain ⟨G', T', g1, g2, g3, g4⟩ := g
  refine ⟨G', T', ⟨⟨⟨h.a.own.rep.mo h.b.rep g1, h.a.own.below.trans ⟨g1.os, g1.tape, g1.output, g1.size, fun b hb => g1.block b (Nat.lt_of_lt_of_le hb h.a.own.le) (by have := h.le; omega)⟩, Nat.le_trans h.a.own.le g1.size, h.a.own.own⟩, h.a.ties, h.a.snd⟩, ⟨g2, g3, hR T' g4⟩, h.le⟩, g4, g1.size, fun b C T f e _ _ h3 => (g1.block b (lt_of_heap e) (fun e2 => ?_)).trans e⟩
  subst e2
  have e3 := e.symm.trans h.b.rep.row
  simp only [Option.some.injEq, Obj.cells.injEq] at e3
  exact h3 e3.2.1
end Go.Proofs.Ytafonmnfeibaiaa
namespace Go.Proofs.Ytafonmnfeibaiaa
open Go.RowKit

def opC (K oa ob oc od : Int) (s u : ByteArray) : Array Value := #[.int .i64 K, .int .i64 oa, .int .i64 ob, .int .i64 oc, .int .i64 od, .string s, .string u]
theorem op_cells {W : World} {b : Nat} {K oa ob oc od : Int} {s u : ByteArray} (h : W.heap[b]? = some (.cells (opC K oa ob oc od s u) 60 (0, 0))) : W.cell? ⟨b, 0, none⟩ = some (.int .i64 K) ∧ W.cell? ⟨b, 1, none⟩ = some (.int .i64 oa) ∧ W.cell? ⟨b, 2, none⟩ = some (.int .i64 ob) ∧ W.cell? ⟨b, 3, none⟩ = some (.int .i64 oc) ∧ W.cell? ⟨b, 4, none⟩ = some (.int .i64 od) ∧ W.cell? ⟨b, 5, none⟩ = some (.string s) ∧ W.cell? ⟨b, 6, none⟩ = some (.string u) :=
  ⟨cell_of h 0, cell_of h 1, cell_of h 2, cell_of h 3, cell_of h 4, cell_of h 5, cell_of h 6⟩
/-- Each has done it. -/
def Did {ρ : Type} (n0 : Nat) (w0 w : World) (t : Nat) (r B : Nat) (R1 R2 : ρ → IT.Tr → Prop) (v : Value) (w' : World) : Prop := ∃ p q S' T' G' T2', (v = .bool true ↔ p = q) ∧ (∃ b, v = .bool b) ∧ Duo n0 w0 w' t S' T' r B G' T2' ∧ R1 p T' ∧ R2 q T2' ∧ Lay w w'
set_option maxRecDepth 100000 in
set_option maxHeartbeats 4000000 in
theorem does_hold {n0 : Nat} {w0 w : World} {t : Nat} {S : Tab} {T : IT.Tr} {r B : Nat} {G : RF.Gt} {T2 : IT.Tr} (h : Duo n0 w0 w t S T r B G T2) (hb : HB T 1000000) (hb2 : HB T2 1000000) (oa ob oc od : Int) (s u : ByteArray) :
    Calls Try.prog 29 #[.pointer (some ⟨t, 0, none⟩), .pointer (some ⟨r, 0, none⟩), .agg #[.int .i64 2, .int .i64 oa, .int .i64 ob, .int .i64 oc, .int .i64 od, .string s, .string u]] w fun e w' => ∃ v, e = .returned v ∧ Did n0 w0 w t r B (fun p T' => IT.isHold T oa.toNat p T') (fun p T' => IT.isHold T2 oa.toNat p T') v w' := by
  have HD0 := Lib.hid (h.below ((Below.refl _ _).alloc (Nat.le_refl _) (.cells (opC 2 oa ob oc od s u) 60)))
  have HO0 := Lib.hid (alloc_heap w (.cells (opC 2 oa ob oc od s u) 60))
  have HL0 := Lib.hid (Lay.below ((Below.refl w.heap.size w).alloc (Nat.le_refl _) (.cells (opC 2 oa ob oc od s u) 60)))
  have hWW : w.alloc (.cells (opC 2 oa ob oc od s u) 60) = w.alloc (.cells #[.int .i64 2, .int .i64 oa, .int .i64 ob, .int .i64 oc, .int .i64 od, .string s, .string u] 60) := rfl
  rw [hWW] at HD0 HO0 HL0
  clear h hWW
  go_enter Try.func29, Try.ntmps29
  go_upto_region 1 with fail
  generalize w.alloc (.cells #[.int .i64 2, .int .i64 oa, .int .i64 ob, .int .i64 oc, .int .i64 od, .string s, .string u] 60) = W at *
  obtain ⟨b5, hb5⟩ : ∃ b5, w.heap.size = b5 := ⟨_, rfl⟩
  rw [hb5] at HO0 ⊢
  clear hb5
  have HD := HD0
  have HO := HO0
  have HL := HL0
  clear HD0 HO0 HL0
  obtain ⟨o0, o1, o2, o3, o4, o5, o6⟩ := op_cells HO.out
  have KP : ∀ W' : World, W'.heap[b5]? = some (.cells (opC 2 oa ob oc od s u) 60 (0, 0)) → (W'.cell? ⟨b5, 0, none⟩ = some (.int .i64 2) ∧ W'.cell? ⟨b5, 1, none⟩ = some (.int .i64 oa) ∧ W'.cell? ⟨b5, 2, none⟩ = some (.int .i64 ob) ∧ W'.cell? ⟨b5, 3, none⟩ = some (.int .i64 oc) ∧ W'.cell? ⟨b5, 4, none⟩ = some (.int .i64 od) ∧ W'.cell? ⟨b5, 5, none⟩ = some (.string s) ∧ W'.cell? ⟨b5, 6, none⟩ = some (.string u)) := fun W' hh => op_cells hh
  go_upto_region 7 with fail
  go_region_held3 (fun W' => W'.cell? ⟨b5, 0, none⟩ = some (.int .i64 2) ∧ W'.cell? ⟨b5, 1, none⟩ = some (.int .i64 oa) ∧ W'.cell? ⟨b5, 2, none⟩ = some (.int .i64 ob) ∧ W'.cell? ⟨b5, 3, none⟩ = some (.int .i64 oc) ∧ W'.cell? ⟨b5, 4, none⟩ = some (.int .i64 od) ∧ W'.cell? ⟨b5, 5, none⟩ = some (.string s) ∧ W'.cell? ⟨b5, 6, none⟩ = some (.string u))
    (first | (refine KP _ ?_; first | with_reducible exact HO.out | exact ho2 | exact ho1 | exact HO.out))
    (first
      | (go_at_call 43; refine (hold_any (HD.out.below (Below.refl _ _).drew).a.tre hb oa).mono ?_; rintro e w2 ⟨p, rfl, hs⟩; obtain ⟨S1, T1, hd1, hr1, hl1⟩ := (HD.out.below (Below.refl _ _).drew).stp hs (fun _ hh => IT.isHold.sound hh (HD.out.below (Below.refl _ _).drew).a.snd); have ho1 := hl1.2 _ _ _ _ HO.out (by decide) (by decide) (by decide))
      | (go_at_call 59; refine (RF.rf_hold hd1.b hb2 oa).mono ?_; rintro e w3 ⟨q, rfl, hs2⟩; obtain ⟨G1, T3, hd2, hr2, hl2⟩ := hd1.stf hs2 (fun _ hh => IT.isHold.sound hh hd1.b.snd); have ho2 := hl2.2 _ _ _ _ ho1 (by decide) (by decide) (by decide))
      | (go_at_call 59; refine (RF.rf_hold (HD.out.below (Below.refl _ _).drew).b hb2 oa).mono ?_; rintro e w2 ⟨q, rfl, hs⟩; obtain ⟨G1, T3, hd1, hr2, hl1⟩ := (HD.out.below (Below.refl _ _).drew).stf hs (fun _ hh => IT.isHold.sound hh (HD.out.below (Below.refl _ _).drew).b.snd); have ho1 := hl1.2 _ _ _ _ HO.out (by decide) (by decide) (by decide))
      | (go_at_call 43; refine (hold_any hd1.a.tre hb oa).mono ?_; rintro e w3 ⟨p, rfl, hs2⟩; obtain ⟨S1, T1, hd2, hr1, hl2⟩ := hd1.stp hs2 (fun _ hh => IT.isHold.sound hh hd1.a.snd); have ho2 := hl2.2 _ _ _ _ ho1 (by decide) (by decide) (by decide)))
  all_goals
    have hfin : Hid (Did n0 w0 w t r B (fun p T' => IT.isHold T oa.toNat p T') (fun p T' => IT.isHold T2 oa.toNat p T') (.bool (p == q)) w3) := Lib.hid ⟨p, q, S1, T1, G1, T3, by simp, ⟨_, rfl⟩, hd2, hr1, hr2, HL.out.trans ((Lay.below (Below.refl _ _).drew).trans (hl1.trans hl2))⟩
    clear hd1 hd2 hr1 hr2 hl1 hl2 ho1 ho2
    go_wp2
    go_ret
    exact ⟨_, rfl, hfin.out⟩
set_option maxRecDepth 100000 in
set_option maxHeartbeats 4000000 in
theorem does_drop {n0 : Nat} {w0 w : World} {t : Nat} {S : Tab} {T : IT.Tr} {r B : Nat} {G : RF.Gt} {T2 : IT.Tr} (h : Duo n0 w0 w t S T r B G T2) (hb : HB T 1000000) (hb2 : HB T2 1000000) (oa ob oc od : Int) (s u : ByteArray) :
    Calls Try.prog 29 #[.pointer (some ⟨t, 0, none⟩), .pointer (some ⟨r, 0, none⟩), .agg #[.int .i64 3, .int .i64 oa, .int .i64 ob, .int .i64 oc, .int .i64 od, .string s, .string u]] w fun e w' => ∃ v, e = .returned v ∧ Did n0 w0 w t r B (fun p T' => IT.isDrop T oa.toNat p T') (fun p T' => IT.isDrop T2 oa.toNat p T') v w' := by
  have HD0 := Lib.hid (h.below ((Below.refl _ _).alloc (Nat.le_refl _) (.cells (opC 3 oa ob oc od s u) 60)))
  have HO0 := Lib.hid (alloc_heap w (.cells (opC 3 oa ob oc od s u) 60))
  have HL0 := Lib.hid (Lay.below ((Below.refl w.heap.size w).alloc (Nat.le_refl _) (.cells (opC 3 oa ob oc od s u) 60)))
  have hWW : w.alloc (.cells (opC 3 oa ob oc od s u) 60) = w.alloc (.cells #[.int .i64 3, .int .i64 oa, .int .i64 ob, .int .i64 oc, .int .i64 od, .string s, .string u] 60) := rfl
  rw [hWW] at HD0 HO0 HL0
  clear h hWW
  go_enter Try.func29, Try.ntmps29
  go_upto_region 1 with fail
  generalize w.alloc (.cells #[.int .i64 3, .int .i64 oa, .int .i64 ob, .int .i64 oc, .int .i64 od, .string s, .string u] 60) = W at *
  obtain ⟨b5, hb5⟩ : ∃ b5, w.heap.size = b5 := ⟨_, rfl⟩
  rw [hb5] at HO0 ⊢
  clear hb5
  have HD := HD0
  have HO := HO0
  have HL := HL0
  clear HD0 HO0 HL0
  obtain ⟨o0, o1, o2, o3, o4, o5, o6⟩ := op_cells HO.out
  have KP : ∀ W' : World, W'.heap[b5]? = some (.cells (opC 3 oa ob oc od s u) 60 (0, 0)) → (W'.cell? ⟨b5, 0, none⟩ = some (.int .i64 3) ∧ W'.cell? ⟨b5, 1, none⟩ = some (.int .i64 oa) ∧ W'.cell? ⟨b5, 2, none⟩ = some (.int .i64 ob) ∧ W'.cell? ⟨b5, 3, none⟩ = some (.int .i64 oc) ∧ W'.cell? ⟨b5, 4, none⟩ = some (.int .i64 od) ∧ W'.cell? ⟨b5, 5, none⟩ = some (.string s) ∧ W'.cell? ⟨b5, 6, none⟩ = some (.string u)) := fun W' hh => op_cells hh
  go_upto_region 9 with fail
  go_region_held3 (fun W' => W'.cell? ⟨b5, 0, none⟩ = some (.int .i64 3) ∧ W'.cell? ⟨b5, 1, none⟩ = some (.int .i64 oa) ∧ W'.cell? ⟨b5, 2, none⟩ = some (.int .i64 ob) ∧ W'.cell? ⟨b5, 3, none⟩ = some (.int .i64 oc) ∧ W'.cell? ⟨b5, 4, none⟩ = some (.int .i64 od) ∧ W'.cell? ⟨b5, 5, none⟩ = some (.string s) ∧ W'.cell? ⟨b5, 6, none⟩ = some (.string u))
    (first | (refine KP _ ?_; first | with_reducible exact HO.out | exact ho2 | exact ho1 | exact HO.out))
    (first
      | (go_at_call 39; refine (drop_any (HD.out.below (Below.refl _ _).drew).a.tre hb oa).mono ?_; rintro e w2 ⟨p, rfl, hs⟩; obtain ⟨S1, T1, hd1, hr1, hl1⟩ := (HD.out.below (Below.refl _ _).drew).stp hs (fun _ hh => IT.isDrop.sound hh (HD.out.below (Below.refl _ _).drew).a.snd); have ho1 := hl1.2 _ _ _ _ HO.out (by decide) (by decide) (by decide))
      | (go_at_call 60; refine (RF.rf_drop hd1.b hb2 oa).mono ?_; rintro e w3 ⟨q, rfl, hs2⟩; obtain ⟨G1, T3, hd2, hr2, hl2⟩ := hd1.stf hs2 (fun _ hh => IT.isDrop.sound hh hd1.b.snd); have ho2 := hl2.2 _ _ _ _ ho1 (by decide) (by decide) (by decide))
      | (go_at_call 60; refine (RF.rf_drop (HD.out.below (Below.refl _ _).drew).b hb2 oa).mono ?_; rintro e w2 ⟨q, rfl, hs⟩; obtain ⟨G1, T3, hd1, hr2, hl1⟩ := (HD.out.below (Below.refl _ _).drew).stf hs (fun _ hh => IT.isDrop.sound hh (HD.out.below (Below.refl _ _).drew).b.snd); have ho1 := hl1.2 _ _ _ _ HO.out (by decide) (by decide) (by decide))
      | (go_at_call 39; refine (drop_any hd1.a.tre hb oa).mono ?_; rintro e w3 ⟨p, rfl, hs2⟩; obtain ⟨S1, T1, hd2, hr1, hl2⟩ := hd1.stp hs2 (fun _ hh => IT.isDrop.sound hh hd1.a.snd); have ho2 := hl2.2 _ _ _ _ ho1 (by decide) (by decide) (by decide)))
  all_goals
    have hfin : Hid (Did n0 w0 w t r B (fun p T' => IT.isDrop T oa.toNat p T') (fun p T' => IT.isDrop T2 oa.toNat p T') (.bool (p == q)) w3) := Lib.hid ⟨p, q, S1, T1, G1, T3, by simp, ⟨_, rfl⟩, hd2, hr1, hr2, HL.out.trans ((Lay.below (Below.refl _ _).drew).trans (hl1.trans hl2))⟩
    clear hd1 hd2 hr1 hr2 hl1 hl2 ho1 ho2
    go_wp2
    go_ret
    exact ⟨_, rfl, hfin.out⟩
set_option maxRecDepth 100000 in
set_option maxHeartbeats 4000000 in
theorem does_set {n0 : Nat} {w0 w : World} {t : Nat} {S : Tab} {T : IT.Tr} {r B : Nat} {G : RF.Gt} {T2 : IT.Tr} (h : Duo n0 w0 w t S T r B G T2) (oa ob oc od : Int) (s u : ByteArray) (hm : ob < 9223372036854775808) :
    Calls Try.prog 29 #[.pointer (some ⟨t, 0, none⟩), .pointer (some ⟨r, 0, none⟩), .agg #[.int .i64 4, .int .i64 oa, .int .i64 ob, .int .i64 oc, .int .i64 od, .string s, .string u]] w fun e w' => ∃ v, e = .returned v ∧ Did n0 w0 w t r B (fun p T' => IT.isSet rt T oa.toNat ob oc od p T') (fun p T' => IT.isSet rt T2 oa.toNat ob oc od p T') v w' := by
  have HD0 := Lib.hid (h.below ((Below.refl _ _).alloc (Nat.le_refl _) (.cells (opC 4 oa ob oc od s u) 60)))
  have HO0 := Lib.hid (alloc_heap w (.cells (opC 4 oa ob oc od s u) 60))
  have HL0 := Lib.hid (Lay.below ((Below.refl w.heap.size w).alloc (Nat.le_refl _) (.cells (opC 4 oa ob oc od s u) 60)))
  have hWW : w.alloc (.cells (opC 4 oa ob oc od s u) 60) = w.alloc (.cells #[.int .i64 4, .int .i64 oa, .int .i64 ob, .int .i64 oc, .int .i64 od, .string s, .string u] 60) := rfl
  rw [hWW] at HD0 HO0 HL0
  clear h hWW
  go_enter Try.func29, Try.ntmps29
  go_upto_region 1 with fail
  generalize w.alloc (.cells #[.int .i64 4, .int .i64 oa, .int .i64 ob, .int .i64 oc, .int .i64 od, .string s, .string u] 60) = W at *
  obtain ⟨b5, hb5⟩ : ∃ b5, w.heap.size = b5 := ⟨_, rfl⟩
  rw [hb5] at HO0 ⊢
  clear hb5
  have HD := HD0
  have HO := HO0
  have HL := HL0
  clear HD0 HO0 HL0
  obtain ⟨o0, o1, o2, o3, o4, o5, o6⟩ := op_cells HO.out
  have KP : ∀ W' : World, W'.heap[b5]? = some (.cells (opC 4 oa ob oc od s u) 60 (0, 0)) → (W'.cell? ⟨b5, 0, none⟩ = some (.int .i64 4) ∧ W'.cell? ⟨b5, 1, none⟩ = some (.int .i64 oa) ∧ W'.cell? ⟨b5, 2, none⟩ = some (.int .i64 ob) ∧ W'.cell? ⟨b5, 3, none⟩ = some (.int .i64 oc) ∧ W'.cell? ⟨b5, 4, none⟩ = some (.int .i64 od) ∧ W'.cell? ⟨b5, 5, none⟩ = some (.string s) ∧ W'.cell? ⟨b5, 6, none⟩ = some (.string u)) := fun W' hh => op_cells hh
  go_upto_region 11 with fail
  go_region_held3 (fun W' => W'.cell? ⟨b5, 0, none⟩ = some (.int .i64 4) ∧ W'.cell? ⟨b5, 1, none⟩ = some (.int .i64 oa) ∧ W'.cell? ⟨b5, 2, none⟩ = some (.int .i64 ob) ∧ W'.cell? ⟨b5, 3, none⟩ = some (.int .i64 oc) ∧ W'.cell? ⟨b5, 4, none⟩ = some (.int .i64 od) ∧ W'.cell? ⟨b5, 5, none⟩ = some (.string s) ∧ W'.cell? ⟨b5, 6, none⟩ = some (.string u))
    (first | (refine KP _ ?_; first | with_reducible exact HO.out | exact ho2 | exact ho1 | exact HO.out))
    (first
      | (go_at_call 61; refine (set_any (HD.out.below (Below.refl _ _).drew).a.tre oa ob oc od).mono ?_; rintro e w2 ⟨p, rfl, hs⟩; obtain ⟨S1, T1, hd1, hr1, hl1⟩ := (HD.out.below (Below.refl _ _).drew).stp hs (fun _ hh => IT.isSet.sound hh (HD.out.below (Below.refl _ _).drew).a.snd); have ho1 := hl1.2 _ _ _ _ HO.out (by decide) (by decide) (by decide))
      | (go_at_call 62; refine (RF.rf_set hd1.b oa ob oc od hm).mono ?_; rintro e w3 ⟨q, rfl, hs2⟩; obtain ⟨G1, T3, hd2, hr2, hl2⟩ := hd1.stf hs2 (fun _ hh => IT.isSet.sound hh hd1.b.snd); have ho2 := hl2.2 _ _ _ _ ho1 (by decide) (by decide) (by decide))
      | (go_at_call 62; refine (RF.rf_set (HD.out.below (Below.refl _ _).drew).b oa ob oc od hm).mono ?_; rintro e w2 ⟨q, rfl, hs⟩; obtain ⟨G1, T3, hd1, hr2, hl1⟩ := (HD.out.below (Below.refl _ _).drew).stf hs (fun _ hh => IT.isSet.sound hh (HD.out.below (Below.refl _ _).drew).b.snd); have ho1 := hl1.2 _ _ _ _ HO.out (by decide) (by decide) (by decide))
      | (go_at_call 61; refine (set_any hd1.a.tre oa ob oc od).mono ?_; rintro e w3 ⟨p, rfl, hs2⟩; obtain ⟨S1, T1, hd2, hr1, hl2⟩ := hd1.stp hs2 (fun _ hh => IT.isSet.sound hh hd1.a.snd); have ho2 := hl2.2 _ _ _ _ ho1 (by decide) (by decide) (by decide)))
  all_goals
    have hfin : Hid (Did n0 w0 w t r B (fun p T' => IT.isSet rt T oa.toNat ob oc od p T') (fun p T' => IT.isSet rt T2 oa.toNat ob oc od p T') (.bool (p == q)) w3) := Lib.hid ⟨p, q, S1, T1, G1, T3, by simp, ⟨_, rfl⟩, hd2, hr1, hr2, HL.out.trans ((Lay.below (Below.refl _ _).drew).trans (hl1.trans hl2))⟩
    clear hd1 hd2 hr1 hr2 hl1 hl2 ho1 ho2
    go_wp2
    go_ret
    exact ⟨_, rfl, hfin.out⟩
set_option maxRecDepth 100000 in
set_option maxHeartbeats 4000000 in
theorem does_put {n0 : Nat} {w0 w : World} {t : Nat} {S : Tab} {T : IT.Tr} {r B : Nat} {G : RF.Gt} {T2 : IT.Tr} (h : Duo n0 w0 w t S T r B G T2) (oa ob oc od : Int) (s u : ByteArray) (hz : s.size ≤ maxLen) (hm : -9223372036854775808 ≤ ob) :
    Calls Try.prog 29 #[.pointer (some ⟨t, 0, none⟩), .pointer (some ⟨r, 0, none⟩), .agg #[.int .i64 5, .int .i64 oa, .int .i64 ob, .int .i64 oc, .int .i64 od, .string s, .string u]] w fun e w' => ∃ v, e = .returned v ∧ Did n0 w0 w t r B (fun p T' => IT.isPut T oa.toNat ob (bs s) p T') (fun p T' => IT.isPut T2 oa.toNat ob (bs s) p T') v w' := by
  have HD0 := Lib.hid (h.below ((Below.refl _ _).alloc (Nat.le_refl _) (.cells (opC 5 oa ob oc od s u) 60)))
  have HO0 := Lib.hid (alloc_heap w (.cells (opC 5 oa ob oc od s u) 60))
  have HL0 := Lib.hid (Lay.below ((Below.refl w.heap.size w).alloc (Nat.le_refl _) (.cells (opC 5 oa ob oc od s u) 60)))
  have hWW : w.alloc (.cells (opC 5 oa ob oc od s u) 60) = w.alloc (.cells #[.int .i64 5, .int .i64 oa, .int .i64 ob, .int .i64 oc, .int .i64 od, .string s, .string u] 60) := rfl
  rw [hWW] at HD0 HO0 HL0
  clear h hWW
  go_enter Try.func29, Try.ntmps29
  go_upto_region 1 with fail
  generalize w.alloc (.cells #[.int .i64 5, .int .i64 oa, .int .i64 ob, .int .i64 oc, .int .i64 od, .string s, .string u] 60) = W at *
  obtain ⟨b5, hb5⟩ : ∃ b5, w.heap.size = b5 := ⟨_, rfl⟩
  rw [hb5] at HO0 ⊢
  clear hb5
  have HD := HD0
  have HO := HO0
  have HL := HL0
  clear HD0 HO0 HL0
  obtain ⟨o0, o1, o2, o3, o4, o5, o6⟩ := op_cells HO.out
  have KP : ∀ W' : World, W'.heap[b5]? = some (.cells (opC 5 oa ob oc od s u) 60 (0, 0)) → (W'.cell? ⟨b5, 0, none⟩ = some (.int .i64 5) ∧ W'.cell? ⟨b5, 1, none⟩ = some (.int .i64 oa) ∧ W'.cell? ⟨b5, 2, none⟩ = some (.int .i64 ob) ∧ W'.cell? ⟨b5, 3, none⟩ = some (.int .i64 oc) ∧ W'.cell? ⟨b5, 4, none⟩ = some (.int .i64 od) ∧ W'.cell? ⟨b5, 5, none⟩ = some (.string s) ∧ W'.cell? ⟨b5, 6, none⟩ = some (.string u)) := fun W' hh => op_cells hh
  go_upto_region 13 with fail
  go_region_held3 (fun W' => W'.cell? ⟨b5, 0, none⟩ = some (.int .i64 5) ∧ W'.cell? ⟨b5, 1, none⟩ = some (.int .i64 oa) ∧ W'.cell? ⟨b5, 2, none⟩ = some (.int .i64 ob) ∧ W'.cell? ⟨b5, 3, none⟩ = some (.int .i64 oc) ∧ W'.cell? ⟨b5, 4, none⟩ = some (.int .i64 od) ∧ W'.cell? ⟨b5, 5, none⟩ = some (.string s) ∧ W'.cell? ⟨b5, 6, none⟩ = some (.string u))
    (first | (refine KP _ ?_; first | with_reducible exact HO.out | exact ho2 | exact ho1 | exact HO.out))
    (first
      | (go_at_call 23; refine (put_any (HD.out.below (Below.refl _ _).drew).a.tre oa ob s).mono ?_; rintro e w2 ⟨p, rfl, hs⟩; obtain ⟨S1, T1, hd1, hr1, hl1⟩ := (HD.out.below (Below.refl _ _).drew).stp hs (fun _ hh => IT.isPut.sound hh (HD.out.below (Below.refl _ _).drew).a.snd); have ho1 := hl1.2 _ _ _ _ HO.out (by decide) (by decide) (by decide))
      | (go_at_call 63; refine (RF.rf_put hd1.b oa ob s hz hm).mono ?_; rintro e w3 ⟨q, rfl, hs2⟩; obtain ⟨G1, T3, hd2, hr2, hl2⟩ := hd1.stf hs2 (fun _ hh => IT.isPut.sound hh hd1.b.snd); have ho2 := hl2.2 _ _ _ _ ho1 (by decide) (by decide) (by decide))
      | (go_at_call 63; refine (RF.rf_put (HD.out.below (Below.refl _ _).drew).b oa ob s hz hm).mono ?_; rintro e w2 ⟨q, rfl, hs⟩; obtain ⟨G1, T3, hd1, hr2, hl1⟩ := (HD.out.below (Below.refl _ _).drew).stf hs (fun _ hh => IT.isPut.sound hh (HD.out.below (Below.refl _ _).drew).b.snd); have ho1 := hl1.2 _ _ _ _ HO.out (by decide) (by decide) (by decide))
      | (go_at_call 23; refine (put_any hd1.a.tre oa ob s).mono ?_; rintro e w3 ⟨p, rfl, hs2⟩; obtain ⟨S1, T1, hd2, hr1, hl2⟩ := hd1.stp hs2 (fun _ hh => IT.isPut.sound hh hd1.a.snd); have ho2 := hl2.2 _ _ _ _ ho1 (by decide) (by decide) (by decide)))
  all_goals
    have hfin : Hid (Did n0 w0 w t r B (fun p T' => IT.isPut T oa.toNat ob (bs s) p T') (fun p T' => IT.isPut T2 oa.toNat ob (bs s) p T') (.bool (p == q)) w3) := Lib.hid ⟨p, q, S1, T1, G1, T3, by simp, ⟨_, rfl⟩, hd2, hr1, hr2, HL.out.trans ((Lay.below (Below.refl _ _).drew).trans (hl1.trans hl2))⟩
    clear hd1 hd2 hr1 hr2 hl1 hl2 ho1 ho2
    go_wp2
    go_ret
    exact ⟨_, rfl, hfin.out⟩
end Go.Proofs.Ytafonmnfeibaiaa
namespace Go.Proofs.Ytafonmnfeibaiaa
open Go.RowKit

set_option maxRecDepth 100000 in
set_option maxHeartbeats 4000000 in
theorem does_cut {n0 : Nat} {w0 w : World} {t : Nat} {S : Tab} {T : IT.Tr} {r B : Nat} {G : RF.Gt} {T2 : IT.Tr} (h : Duo n0 w0 w t S T r B G T2) (oa ob oc od : Int) (s u : ByteArray) :
    Calls Try.prog 29 #[.pointer (some ⟨t, 0, none⟩), .pointer (some ⟨r, 0, none⟩), .agg #[.int .i64 6, .int .i64 oa, .int .i64 ob, .int .i64 oc, .int .i64 od, .string s, .string u]] w fun e w' => ∃ v, e = .returned v ∧ Did n0 w0 w t r B (fun p T' => IT.isCut T oa.toNat p T') (fun p T' => IT.isCut T2 oa.toNat p T') v w' := by
  have HD0 := Lib.hid (h.below ((Below.refl _ _).alloc (Nat.le_refl _) (.cells (opC 6 oa ob oc od s u) 60)))
  have HO0 := Lib.hid (alloc_heap w (.cells (opC 6 oa ob oc od s u) 60))
  have HL0 := Lib.hid (Lay.below ((Below.refl w.heap.size w).alloc (Nat.le_refl _) (.cells (opC 6 oa ob oc od s u) 60)))
  have hWW : w.alloc (.cells (opC 6 oa ob oc od s u) 60) = w.alloc (.cells #[.int .i64 6, .int .i64 oa, .int .i64 ob, .int .i64 oc, .int .i64 od, .string s, .string u] 60) := rfl
  rw [hWW] at HD0 HO0 HL0
  clear h hWW
  go_enter Try.func29, Try.ntmps29
  go_upto_region 1 with fail
  generalize w.alloc (.cells #[.int .i64 6, .int .i64 oa, .int .i64 ob, .int .i64 oc, .int .i64 od, .string s, .string u] 60) = W at *
  obtain ⟨b5, hb5⟩ : ∃ b5, w.heap.size = b5 := ⟨_, rfl⟩
  rw [hb5] at HO0 ⊢
  clear hb5
  have HD := HD0
  have HO := HO0
  have HL := HL0
  clear HD0 HO0 HL0
  obtain ⟨o0, o1, o2, o3, o4, o5, o6⟩ := op_cells HO.out
  have KP : ∀ W' : World, W'.heap[b5]? = some (.cells (opC 6 oa ob oc od s u) 60 (0, 0)) → (W'.cell? ⟨b5, 0, none⟩ = some (.int .i64 6) ∧ W'.cell? ⟨b5, 1, none⟩ = some (.int .i64 oa) ∧ W'.cell? ⟨b5, 2, none⟩ = some (.int .i64 ob) ∧ W'.cell? ⟨b5, 3, none⟩ = some (.int .i64 oc) ∧ W'.cell? ⟨b5, 4, none⟩ = some (.int .i64 od) ∧ W'.cell? ⟨b5, 5, none⟩ = some (.string s) ∧ W'.cell? ⟨b5, 6, none⟩ = some (.string u)) := fun W' hh => op_cells hh
  go_upto_region 15 with fail
  go_region_held3 (fun W' => W'.cell? ⟨b5, 0, none⟩ = some (.int .i64 6) ∧ W'.cell? ⟨b5, 1, none⟩ = some (.int .i64 oa) ∧ W'.cell? ⟨b5, 2, none⟩ = some (.int .i64 ob) ∧ W'.cell? ⟨b5, 3, none⟩ = some (.int .i64 oc) ∧ W'.cell? ⟨b5, 4, none⟩ = some (.int .i64 od) ∧ W'.cell? ⟨b5, 5, none⟩ = some (.string s) ∧ W'.cell? ⟨b5, 6, none⟩ = some (.string u))
    (first | (refine KP _ ?_; first | with_reducible exact HO.out | exact ho2 | exact ho1 | exact HO.out))
    (first
      | (go_at_call 44; refine (cut_any (HD.out.below (Below.refl _ _).drew).a.tre oa).mono ?_; rintro e w2 ⟨p, rfl, hs⟩; obtain ⟨S1, T1, hd1, hr1, hl1⟩ := (HD.out.below (Below.refl _ _).drew).stp hs (fun _ hh => IT.isCut.sound hh (HD.out.below (Below.refl _ _).drew).a.snd); have ho1 := hl1.2 _ _ _ _ HO.out (by decide) (by decide) (by decide))
      | (go_at_call 64; refine (RF.rf_cut hd1.b oa).mono ?_; rintro e w3 ⟨q, rfl, hs2⟩; obtain ⟨G1, T3, hd2, hr2, hl2⟩ := hd1.stf hs2 (fun _ hh => IT.isCut.sound hh hd1.b.snd); have ho2 := hl2.2 _ _ _ _ ho1 (by decide) (by decide) (by decide))
      | (go_at_call 64; refine (RF.rf_cut (HD.out.below (Below.refl _ _).drew).b oa).mono ?_; rintro e w2 ⟨q, rfl, hs⟩; obtain ⟨G1, T3, hd1, hr2, hl1⟩ := (HD.out.below (Below.refl _ _).drew).stf hs (fun _ hh => IT.isCut.sound hh (HD.out.below (Below.refl _ _).drew).b.snd); have ho1 := hl1.2 _ _ _ _ HO.out (by decide) (by decide) (by decide))
      | (go_at_call 44; refine (cut_any hd1.a.tre oa).mono ?_; rintro e w3 ⟨p, rfl, hs2⟩; obtain ⟨S1, T1, hd2, hr1, hl2⟩ := hd1.stp hs2 (fun _ hh => IT.isCut.sound hh hd1.a.snd); have ho2 := hl2.2 _ _ _ _ ho1 (by decide) (by decide) (by decide)))
  all_goals
    have hfin : Hid (Did n0 w0 w t r B (fun p T' => IT.isCut T oa.toNat p T') (fun p T' => IT.isCut T2 oa.toNat p T') (.bool (p == q)) w3) := Lib.hid ⟨p, q, S1, T1, G1, T3, by simp, ⟨_, rfl⟩, hd2, hr1, hr2, HL.out.trans ((Lay.below (Below.refl _ _).drew).trans (hl1.trans hl2))⟩
    clear hd1 hd2 hr1 hr2 hl1 hl2 ho1 ho2
    go_wp2
    go_ret
    exact ⟨_, rfl, hfin.out⟩
set_option maxRecDepth 100000 in
set_option maxHeartbeats 4000000 in
theorem does_enter {n0 : Nat} {w0 w : World} {t : Nat} {S : Tab} {T : IT.Tr} {r B : Nat} {G : RF.Gt} {T2 : IT.Tr} (h : Duo n0 w0 w t S T r B G T2) (oa ob oc od : Int) (s u : ByteArray) :
    Calls Try.prog 29 #[.pointer (some ⟨t, 0, none⟩), .pointer (some ⟨r, 0, none⟩), .agg #[.int .i64 7, .int .i64 oa, .int .i64 ob, .int .i64 oc, .int .i64 od, .string s, .string u]] w fun e w' => ∃ v, e = .returned v ∧ Did n0 w0 w t r B (fun p T' => IT.isEnter okN T oa.toNat (bs s) ob.toNat p T') (fun p T' => IT.isEnter okN T2 oa.toNat (bs s) ob.toNat p T') v w' := by
  have HD0 := Lib.hid (h.below ((Below.refl _ _).alloc (Nat.le_refl _) (.cells (opC 7 oa ob oc od s u) 60)))
  have HO0 := Lib.hid (alloc_heap w (.cells (opC 7 oa ob oc od s u) 60))
  have HL0 := Lib.hid (Lay.below ((Below.refl w.heap.size w).alloc (Nat.le_refl _) (.cells (opC 7 oa ob oc od s u) 60)))
  have hWW : w.alloc (.cells (opC 7 oa ob oc od s u) 60) = w.alloc (.cells #[.int .i64 7, .int .i64 oa, .int .i64 ob, .int .i64 oc, .int .i64 od, .string s, .string u] 60) := rfl
  rw [hWW] at HD0 HO0 HL0
  clear h hWW
  go_enter Try.func29, Try.ntmps29
  go_upto_region 1 with fail
  generalize w.alloc (.cells #[.int .i64 7, .int .i64 oa, .int .i64 ob, .int .i64 oc, .int .i64 od, .string s, .string u] 60) = W at *
  obtain ⟨b5, hb5⟩ : ∃ b5, w.heap.size = b5 := ⟨_, rfl⟩
  rw [hb5] at HO0 ⊢
  clear hb5
  have HD := HD0
  have HO := HO0
  have HL := HL0
  clear HD0 HO0 HL0
  obtain ⟨o0, o1, o2, o3, o4, o5, o6⟩ := op_cells HO.out
  have KP : ∀ W' : World, W'.heap[b5]? = some (.cells (opC 7 oa ob oc od s u) 60 (0, 0)) → (W'.cell? ⟨b5, 0, none⟩ = some (.int .i64 7) ∧ W'.cell? ⟨b5, 1, none⟩ = some (.int .i64 oa) ∧ W'.cell? ⟨b5, 2, none⟩ = some (.int .i64 ob) ∧ W'.cell? ⟨b5, 3, none⟩ = some (.int .i64 oc) ∧ W'.cell? ⟨b5, 4, none⟩ = some (.int .i64 od) ∧ W'.cell? ⟨b5, 5, none⟩ = some (.string s) ∧ W'.cell? ⟨b5, 6, none⟩ = some (.string u)) := fun W' hh => op_cells hh
  go_upto_region 17 with fail
  go_region_held3 (fun W' => W'.cell? ⟨b5, 0, none⟩ = some (.int .i64 7) ∧ W'.cell? ⟨b5, 1, none⟩ = some (.int .i64 oa) ∧ W'.cell? ⟨b5, 2, none⟩ = some (.int .i64 ob) ∧ W'.cell? ⟨b5, 3, none⟩ = some (.int .i64 oc) ∧ W'.cell? ⟨b5, 4, none⟩ = some (.int .i64 od) ∧ W'.cell? ⟨b5, 5, none⟩ = some (.string s) ∧ W'.cell? ⟨b5, 6, none⟩ = some (.string u))
    (first | (refine KP _ ?_; first | with_reducible exact HO.out | exact ho2 | exact ho1 | exact HO.out))
    (first
      | (go_at_call 22; refine (enter_any (HD.out.below (Below.refl _ _).drew).a.tre oa ob s).mono ?_; rintro e w2 ⟨p, rfl, hs⟩; obtain ⟨S1, T1, hd1, hr1, hl1⟩ := (HD.out.below (Below.refl _ _).drew).stp hs (fun _ hh => IT.isEnter.sound hh (HD.out.below (Below.refl _ _).drew).a.snd); have ho1 := hl1.2 _ _ _ _ HO.out (by decide) (by decide) (by decide))
      | (go_at_call 65; refine (RF.rf_enter hd1.b oa ob s).mono ?_; rintro e w3 ⟨q, rfl, hs2⟩; obtain ⟨G1, T3, hd2, hr2, hl2⟩ := hd1.stf hs2 (fun _ hh => IT.isEnter.sound hh hd1.b.snd); have ho2 := hl2.2 _ _ _ _ ho1 (by decide) (by decide) (by decide))
      | (go_at_call 65; refine (RF.rf_enter (HD.out.below (Below.refl _ _).drew).b oa ob s).mono ?_; rintro e w2 ⟨q, rfl, hs⟩; obtain ⟨G1, T3, hd1, hr2, hl1⟩ := (HD.out.below (Below.refl _ _).drew).stf hs (fun _ hh => IT.isEnter.sound hh (HD.out.below (Below.refl _ _).drew).b.snd); have ho1 := hl1.2 _ _ _ _ HO.out (by decide) (by decide) (by decide))
      | (go_at_call 22; refine (enter_any hd1.a.tre oa ob s).mono ?_; rintro e w3 ⟨p, rfl, hs2⟩; obtain ⟨S1, T1, hd2, hr1, hl2⟩ := hd1.stp hs2 (fun _ hh => IT.isEnter.sound hh hd1.a.snd); have ho2 := hl2.2 _ _ _ _ ho1 (by decide) (by decide) (by decide)))
  all_goals
    have hfin : Hid (Did n0 w0 w t r B (fun p T' => IT.isEnter okN T oa.toNat (bs s) ob.toNat p T') (fun p T' => IT.isEnter okN T2 oa.toNat (bs s) ob.toNat p T') (.bool (p == q)) w3) := Lib.hid ⟨p, q, S1, T1, G1, T3, by simp, ⟨_, rfl⟩, hd2, hr1, hr2, HL.out.trans ((Lay.below (Below.refl _ _).drew).trans (hl1.trans hl2))⟩
    clear hd1 hd2 hr1 hr2 hl1 hl2 ho1 ho2
    go_wp2
    go_ret
    exact ⟨_, rfl, hfin.out⟩
set_option maxRecDepth 100000 in
set_option maxHeartbeats 4000000 in
theorem does_remove {n0 : Nat} {w0 w : World} {t : Nat} {S : Tab} {T : IT.Tr} {r B : Nat} {G : RF.Gt} {T2 : IT.Tr} (h : Duo n0 w0 w t S T r B G T2) (oa ob oc od : Int) (s u : ByteArray) :
    Calls Try.prog 29 #[.pointer (some ⟨t, 0, none⟩), .pointer (some ⟨r, 0, none⟩), .agg #[.int .i64 8, .int .i64 oa, .int .i64 ob, .int .i64 oc, .int .i64 od, .string s, .string u]] w fun e w' => ∃ v, e = .returned v ∧ Did n0 w0 w t r B (fun p T' => IT.isRemove T oa.toNat (bs s) p T') (fun p T' => IT.isRemove T2 oa.toNat (bs s) p T') v w' := by
  have HD0 := Lib.hid (h.below ((Below.refl _ _).alloc (Nat.le_refl _) (.cells (opC 8 oa ob oc od s u) 60)))
  have HO0 := Lib.hid (alloc_heap w (.cells (opC 8 oa ob oc od s u) 60))
  have HL0 := Lib.hid (Lay.below ((Below.refl w.heap.size w).alloc (Nat.le_refl _) (.cells (opC 8 oa ob oc od s u) 60)))
  have hWW : w.alloc (.cells (opC 8 oa ob oc od s u) 60) = w.alloc (.cells #[.int .i64 8, .int .i64 oa, .int .i64 ob, .int .i64 oc, .int .i64 od, .string s, .string u] 60) := rfl
  rw [hWW] at HD0 HO0 HL0
  clear h hWW
  go_enter Try.func29, Try.ntmps29
  go_upto_region 1 with fail
  generalize w.alloc (.cells #[.int .i64 8, .int .i64 oa, .int .i64 ob, .int .i64 oc, .int .i64 od, .string s, .string u] 60) = W at *
  obtain ⟨b5, hb5⟩ : ∃ b5, w.heap.size = b5 := ⟨_, rfl⟩
  rw [hb5] at HO0 ⊢
  clear hb5
  have HD := HD0
  have HO := HO0
  have HL := HL0
  clear HD0 HO0 HL0
  obtain ⟨o0, o1, o2, o3, o4, o5, o6⟩ := op_cells HO.out
  have KP : ∀ W' : World, W'.heap[b5]? = some (.cells (opC 8 oa ob oc od s u) 60 (0, 0)) → (W'.cell? ⟨b5, 0, none⟩ = some (.int .i64 8) ∧ W'.cell? ⟨b5, 1, none⟩ = some (.int .i64 oa) ∧ W'.cell? ⟨b5, 2, none⟩ = some (.int .i64 ob) ∧ W'.cell? ⟨b5, 3, none⟩ = some (.int .i64 oc) ∧ W'.cell? ⟨b5, 4, none⟩ = some (.int .i64 od) ∧ W'.cell? ⟨b5, 5, none⟩ = some (.string s) ∧ W'.cell? ⟨b5, 6, none⟩ = some (.string u)) := fun W' hh => op_cells hh
  go_upto_region 19 with fail
  go_region_held3 (fun W' => W'.cell? ⟨b5, 0, none⟩ = some (.int .i64 8) ∧ W'.cell? ⟨b5, 1, none⟩ = some (.int .i64 oa) ∧ W'.cell? ⟨b5, 2, none⟩ = some (.int .i64 ob) ∧ W'.cell? ⟨b5, 3, none⟩ = some (.int .i64 oc) ∧ W'.cell? ⟨b5, 4, none⟩ = some (.int .i64 od) ∧ W'.cell? ⟨b5, 5, none⟩ = some (.string s) ∧ W'.cell? ⟨b5, 6, none⟩ = some (.string u))
    (first | (refine KP _ ?_; first | with_reducible exact HO.out | exact ho2 | exact ho1 | exact HO.out))
    (first
      | (go_at_call 47; refine (remove_any (HD.out.below (Below.refl _ _).drew).a.tre oa s).mono ?_; rintro e w2 ⟨p, rfl, hs⟩; obtain ⟨S1, T1, hd1, hr1, hl1⟩ := (HD.out.below (Below.refl _ _).drew).stp hs (fun _ hh => IT.isRemove.sound hh (HD.out.below (Below.refl _ _).drew).a.snd); have ho1 := hl1.2 _ _ _ _ HO.out (by decide) (by decide) (by decide))
      | (go_at_call 66; refine (RF.rf_remove hd1.b oa s).mono ?_; rintro e w3 ⟨q, rfl, hs2⟩; obtain ⟨G1, T3, hd2, hr2, hl2⟩ := hd1.stf hs2 (fun _ hh => IT.isRemove.sound hh hd1.b.snd); have ho2 := hl2.2 _ _ _ _ ho1 (by decide) (by decide) (by decide))
      | (go_at_call 66; refine (RF.rf_remove (HD.out.below (Below.refl _ _).drew).b oa s).mono ?_; rintro e w2 ⟨q, rfl, hs⟩; obtain ⟨G1, T3, hd1, hr2, hl1⟩ := (HD.out.below (Below.refl _ _).drew).stf hs (fun _ hh => IT.isRemove.sound hh (HD.out.below (Below.refl _ _).drew).b.snd); have ho1 := hl1.2 _ _ _ _ HO.out (by decide) (by decide) (by decide))
      | (go_at_call 47; refine (remove_any hd1.a.tre oa s).mono ?_; rintro e w3 ⟨p, rfl, hs2⟩; obtain ⟨S1, T1, hd2, hr1, hl2⟩ := hd1.stp hs2 (fun _ hh => IT.isRemove.sound hh hd1.a.snd); have ho2 := hl2.2 _ _ _ _ ho1 (by decide) (by decide) (by decide)))
  all_goals
    have hfin : Hid (Did n0 w0 w t r B (fun p T' => IT.isRemove T oa.toNat (bs s) p T') (fun p T' => IT.isRemove T2 oa.toNat (bs s) p T') (.bool (p == q)) w3) := Lib.hid ⟨p, q, S1, T1, G1, T3, by simp, ⟨_, rfl⟩, hd2, hr1, hr2, HL.out.trans ((Lay.below (Below.refl _ _).drew).trans (hl1.trans hl2))⟩
    clear hd1 hd2 hr1 hr2 hl1 hl2 ho1 ho2
    go_wp2
    go_ret
    exact ⟨_, rfl, hfin.out⟩
set_option maxRecDepth 100000 in
set_option maxHeartbeats 4000000 in
theorem does_move {n0 : Nat} {w0 w : World} {t : Nat} {S : Tab} {T : IT.Tr} {r B : Nat} {G : RF.Gt} {T2 : IT.Tr} (h : Duo n0 w0 w t S T r B G T2) (hb : HB T 1000000) (hb2 : HB T2 1000000) (K oa ob oc od : Int) (s u : ByteArray) (k1 : ¬ K = 1) (k2 : ¬ K = 2) (k3 : ¬ K = 3) (k4 : ¬ K = 4) (k5 : ¬ K = 5) (k6 : ¬ K = 6) (k7 : ¬ K = 7) (k8 : ¬ K = 8) :
    Calls Try.prog 29 #[.pointer (some ⟨t, 0, none⟩), .pointer (some ⟨r, 0, none⟩), .agg #[.int .i64 K, .int .i64 oa, .int .i64 ob, .int .i64 oc, .int .i64 od, .string s, .string u]] w fun e w' => ∃ v, e = .returned v ∧ Did n0 w0 w t r B (fun p T' => IT.isMove okN T oa.toNat (bs s) ob.toNat (bs u) p T') (fun p T' => IT.isMove okN T2 oa.toNat (bs s) ob.toNat (bs u) p T') v w' := by
  have HD0 := Lib.hid (h.below ((Below.refl _ _).alloc (Nat.le_refl _) (.cells (opC K oa ob oc od s u) 60)))
  have HO0 := Lib.hid (alloc_heap w (.cells (opC K oa ob oc od s u) 60))
  have HL0 := Lib.hid (Lay.below ((Below.refl w.heap.size w).alloc (Nat.le_refl _) (.cells (opC K oa ob oc od s u) 60)))
  have hWW : w.alloc (.cells (opC K oa ob oc od s u) 60) = w.alloc (.cells #[.int .i64 K, .int .i64 oa, .int .i64 ob, .int .i64 oc, .int .i64 od, .string s, .string u] 60) := rfl
  rw [hWW] at HD0 HO0 HL0
  clear h hWW
  have z1 : (K == 1) = false := by simpa using k1
  have z2 : (K == 2) = false := by simpa using k2
  have z3 : (K == 3) = false := by simpa using k3
  have z4 : (K == 4) = false := by simpa using k4
  have z5 : (K == 5) = false := by simpa using k5
  have z6 : (K == 6) = false := by simpa using k6
  have z7 : (K == 7) = false := by simpa using k7
  have z8 : (K == 8) = false := by simpa using k8
  clear k1 k2 k3 k4 k5 k6 k7 k8
  go_enter Try.func29, Try.ntmps29
  go_upto_region 1 with fail
  generalize w.alloc (.cells #[.int .i64 K, .int .i64 oa, .int .i64 ob, .int .i64 oc, .int .i64 od, .string s, .string u] 60) = W at *
  obtain ⟨b5, hb5⟩ : ∃ b5, w.heap.size = b5 := ⟨_, rfl⟩
  rw [hb5] at HO0 ⊢
  clear hb5
  have HD := HD0
  have HO := HO0
  have HL := HL0
  clear HD0 HO0 HL0
  obtain ⟨o0, o1, o2, o3, o4, o5, o6⟩ := op_cells HO.out
  have KP : ∀ W' : World, W'.heap[b5]? = some (.cells (opC K oa ob oc od s u) 60 (0, 0)) → (W'.cell? ⟨b5, 0, none⟩ = some (.int .i64 K) ∧ W'.cell? ⟨b5, 1, none⟩ = some (.int .i64 oa) ∧ W'.cell? ⟨b5, 2, none⟩ = some (.int .i64 ob) ∧ W'.cell? ⟨b5, 3, none⟩ = some (.int .i64 oc) ∧ W'.cell? ⟨b5, 4, none⟩ = some (.int .i64 od) ∧ W'.cell? ⟨b5, 5, none⟩ = some (.string s) ∧ W'.cell? ⟨b5, 6, none⟩ = some (.string u)) := fun W' hh => op_cells hh
  go_upto_region 20 with fail
  go_region_held3 (fun W' => W'.cell? ⟨b5, 0, none⟩ = some (.int .i64 K) ∧ W'.cell? ⟨b5, 1, none⟩ = some (.int .i64 oa) ∧ W'.cell? ⟨b5, 2, none⟩ = some (.int .i64 ob) ∧ W'.cell? ⟨b5, 3, none⟩ = some (.int .i64 oc) ∧ W'.cell? ⟨b5, 4, none⟩ = some (.int .i64 od) ∧ W'.cell? ⟨b5, 5, none⟩ = some (.string s) ∧ W'.cell? ⟨b5, 6, none⟩ = some (.string u))
    (first | (refine KP _ ?_; first | with_reducible exact HO.out | exact ho2 | exact ho1 | exact HO.out))
    (first
      | (go_at_call 24; refine (move_any (HD.out.below (Below.refl _ _).drew).a.tre oa ob s u).mono ?_; rintro e w2 ⟨p, rfl, hs⟩; obtain ⟨S1, T1, hd1, hr1, hl1⟩ := (HD.out.below (Below.refl _ _).drew).stp hs (fun _ hh => IT.isMove.sound hh (HD.out.below (Below.refl _ _).drew).a.snd); have ho1 := hl1.2 _ _ _ _ HO.out (by decide) (by decide) (by decide))
      | (go_at_call 67; refine (RF.rf_move hd1.b hb2 oa ob s u).mono ?_; rintro e w3 ⟨q, rfl, hs2⟩; obtain ⟨G1, T3, hd2, hr2, hl2⟩ := hd1.stf hs2 (fun _ hh => IT.isMove.sound hh hd1.b.snd); have ho2 := hl2.2 _ _ _ _ ho1 (by decide) (by decide) (by decide))
      | (go_at_call 67; refine (RF.rf_move (HD.out.below (Below.refl _ _).drew).b hb2 oa ob s u).mono ?_; rintro e w2 ⟨q, rfl, hs⟩; obtain ⟨G1, T3, hd1, hr2, hl1⟩ := (HD.out.below (Below.refl _ _).drew).stf hs (fun _ hh => IT.isMove.sound hh (HD.out.below (Below.refl _ _).drew).b.snd); have ho1 := hl1.2 _ _ _ _ HO.out (by decide) (by decide) (by decide))
      | (go_at_call 24; refine (move_any hd1.a.tre oa ob s u).mono ?_; rintro e w3 ⟨p, rfl, hs2⟩; obtain ⟨S1, T1, hd2, hr1, hl2⟩ := hd1.stp hs2 (fun _ hh => IT.isMove.sound hh hd1.a.snd); have ho2 := hl2.2 _ _ _ _ ho1 (by decide) (by decide) (by decide)))
  all_goals
    have hfin : Hid (Did n0 w0 w t r B (fun p T' => IT.isMove okN T oa.toNat (bs s) ob.toNat (bs u) p T') (fun p T' => IT.isMove okN T2 oa.toNat (bs s) ob.toNat (bs u) p T') (.bool (p == q)) w3) := Lib.hid ⟨p, q, S1, T1, G1, T3, by simp, ⟨_, rfl⟩, hd2, hr1, hr2, HL.out.trans ((Lay.below (Below.refl _ _).drew).trans (hl1.trans hl2))⟩
    clear hd1 hd2 hr1 hr2 hl1 hl2 ho1 ho2
    go_wp2
    go_ret
    exact ⟨_, rfl, hfin.out⟩
end Go.Proofs.Ytafonmnfeibaiaa
namespace Go.Proofs.Ytafonmnfeibaiaa
open Go.RowKit

set_option maxRecDepth 100000 in
set_option maxHeartbeats 4000000 in
theorem does_make {n0 : Nat} {w0 w : World} {t : Nat} {S : Tab} {T : IT.Tr} {r B : Nat} {G : RF.Gt} {T2 : IT.Tr} (h : Duo n0 w0 w t S T r B G T2) (oa ob oc od : Int) (s u : ByteArray) (hm : ob < 9223372036854775808) :
    Calls Try.prog 29 #[.pointer (some ⟨t, 0, none⟩), .pointer (some ⟨r, 0, none⟩), .agg #[.int .i64 1, .int .i64 oa, .int .i64 ob, .int .i64 oc, .int .i64 od, .string s, .string u]] w fun e w' => ∃ v, e = .returned v ∧ Did (ρ := Nat × Int) n0 w0 w t r B (fun p T' => IT.isMake rt T oa ob oc oc od p.1 p.2 T') (fun p T' => IT.isMake rt T2 oa ob oc oc od p.1 p.2 T') v w' := by
  have HD0 := Lib.hid (h.below ((Below.refl _ _).alloc (Nat.le_refl _) (.cells (opC 1 oa ob oc od s u) 60)))
  have HO0 := Lib.hid (alloc_heap w (.cells (opC 1 oa ob oc od s u) 60))
  have HL0 := Lib.hid (Lay.below ((Below.refl w.heap.size w).alloc (Nat.le_refl _) (.cells (opC 1 oa ob oc od s u) 60)))
  have hWW : w.alloc (.cells (opC 1 oa ob oc od s u) 60) = w.alloc (.cells #[.int .i64 1, .int .i64 oa, .int .i64 ob, .int .i64 oc, .int .i64 od, .string s, .string u] 60) := rfl
  rw [hWW] at HD0 HO0 HL0
  clear h hWW
  go_enter Try.func29, Try.ntmps29
  go_upto_region 1 with fail
  generalize w.alloc (.cells #[.int .i64 1, .int .i64 oa, .int .i64 ob, .int .i64 oc, .int .i64 od, .string s, .string u] 60) = W at *
  obtain ⟨b5, hb5⟩ : ∃ b5, w.heap.size = b5 := ⟨_, rfl⟩
  rw [hb5] at HO0 ⊢
  clear hb5
  have HD := HD0
  have HO := HO0
  have HL := HL0
  clear HD0 HO0 HL0
  obtain ⟨o0, o1, o2, o3, o4, o5, o6⟩ := op_cells HO.out
  go_wp2_with fail
  refine (make_any HD.out.a.tre oa ob oc oc od).mono ?_
  rintro e w2 ⟨i, p, rfl, hs⟩
  obtain ⟨S1, T1, hd1, hr1, hl1⟩ := HD.out.stp hs (fun _ hh => IT.isMake.sound hh HD.out.a.snd)
  have HO1 := Lib.hid (hl1.2 _ _ _ _ HO.out (by decide) (by decide) (by decide))
  have HD1 := Lib.hid hd1
  have HR1 := Lib.hid hr1
  have HL1 := Lib.hid (HL.out.trans hl1)
  clear hd1 hr1 hl1 o0 o1 o2 o3 o4 o5 o6
  obtain ⟨o0, o1, o2, o3, o4, o5, o6⟩ := op_cells HO1.out
  go_wp2_with fail
  refine (RF.rf_make HD1.out.b oa ob oc oc od hm).mono ?_
  rintro e w3 ⟨j, q, rfl, hs⟩
  obtain ⟨G1, T3, hd2, hr2, hl2⟩ := HD1.out.stf hs (fun _ hh => IT.isMake.sound hh HD1.out.b.snd)
  have hfin : ∀ c : Bool, (c = true ↔ i = j ∧ p = q) → Hid (Did (ρ := Nat × Int) n0 w0 w t r B (fun p T' => IT.isMake rt T oa ob oc oc od p.1 p.2 T') (fun p T' => IT.isMake rt T2 oa ob oc oc od p.1 p.2 T') (.bool c) w3) := fun c hc => Lib.hid ⟨(i, p), (j, q), S1, T1, G1, T3, by simp [hc], ⟨_, rfl⟩, hd2, HR1.out, hr2, HL1.out.trans hl2⟩
  clear hd2 hr2 hl2 o0 o1 o2 o3 o4 o5 o6
  by_cases e1 : i = j
  · have z1 : ((i : Int) == (j : Int)) = true := by simpa using (show (i : Int) = j by omega)
    have HF := hfin (p == q) (by simp [e1])
    clear hfin e1
    go_wp2
    go_ret
    exact ⟨_, rfl, HF.out⟩
  · have z1 : ((i : Int) == (j : Int)) = false := by simpa using (show ¬ (i : Int) = j by omega)
    have HF := hfin false (by simp [e1])
    clear hfin e1
    go_wp2
    go_ret
    exact ⟨_, rfl, HF.out⟩
end Go.Proofs.Ytafonmnfeibaiaa
/- almonerlaw06.does over both trees, all kinds. -/
namespace Go.Proofs.Ytafonmnfeibaiaa
open Go.RowKit

/-- What one op leaves. -/
def Done (n0 : Nat) (w0 w : World) (t : Nat) (r B : Nat) (T T2 : IT.Tr) (n : Nat) (c : Bool) (w' : World) : Prop := ∃ S' T' G' T2', Duo n0 w0 w' t S' T' r B G' T2' ∧ HB T' (n + 1) ∧ HB T2' (n + 1) ∧ Lay w w' ∧ (T = T2 → c = true ∧ T' = T2')
theorem Did.done {ρ : Type} {n0 : Nat} {w0 w w' : World} {t r B n : Nat} {R : IT.Tr → ρ → IT.Tr → Prop} {T T2 : IT.Tr} {v : Value} (h : Did n0 w0 w t r B (R T) (R T2) v w') (hb : ∀ {A : IT.Tr} {p : ρ} {C : IT.Tr}, R A p C → (A = T ∨ A = T2) → HB C (n + 1)) (ho : ∀ {A : IT.Tr} {p q : ρ} {C D : IT.Tr}, R A p C → R A q D → p = q ∧ C = D) : ∃ c, v = .bool c ∧ Done n0 w0 w t r B T T2 n c w' := by
  obtain ⟨p, q, S', T', G', T2', hv, ⟨c, rfl⟩, hd, h1, h2, hl⟩ := h
  refine ⟨c, rfl, S', T', G', T2', hd, hb h1 (.inl rfl), hb h2 (.inr rfl), hl, fun e => ?_⟩
  subst e
  obtain ⟨e1, e2⟩ := ho h1 h2
  refine ⟨?_, e2⟩
  have := hv.2 e1
  simpa using this
theorem does_any {n0 : Nat} {w0 w : World} {t : Nat} {S : Tab} {T : IT.Tr} {r B : Nat} {G : RF.Gt} {T2 : IT.Tr} (h : Duo n0 w0 w t S T r B G T2) {n : Nat} (hn : n ≤ 1000000) (hn1 : 1 ≤ n) (hb : HB T n) (hb2 : HB T2 n) (K oa ob oc od : Int) (s u : ByteArray) (hm1 : -9223372036854775808 ≤ ob) (hm2 : ob < 9223372036854775808) (hz : s.size ≤ maxLen) :
    Calls Try.prog 29 #[.pointer (some ⟨t, 0, none⟩), .pointer (some ⟨r, 0, none⟩), .agg #[.int .i64 K, .int .i64 oa, .int .i64 ob, .int .i64 oc, .int .i64 od, .string s, .string u]] w fun e w' => ∃ c, e = .returned (.bool c) ∧ Done n0 w0 w t r B T T2 n c w' := by
  have hx := hb.mono hn
  have hx2 := hb2.mono hn
  have hA : ∀ {A : IT.Tr}, (A = T ∨ A = T2) → HB A n := fun {A} hh => by rcases hh with rfl | rfl <;> assumption
  by_cases k1 : K = 1
  · subst k1
    refine (does_make h oa ob oc od s u hm2).mono ?_
    rintro e w' ⟨v, rfl, hd⟩
    obtain ⟨c, rfl, hc⟩ := Did.done (n := n) (ρ := Nat × Int) (R := fun T (p : Nat × Int) T' => IT.isMake rt T oa ob oc oc od p.1 p.2 T') hd (fun hr ha => (HB.make (hA ha) hn1 hr).mono (Nat.le_succ _)) (fun {A p q C D} h1 h2 => by
      obtain ⟨a, b, c⟩ := IT.isMake.one h1 h2
      exact ⟨Prod.ext a b, c⟩)
    exact ⟨c, rfl, hc⟩
  by_cases k2 : K = 2
  · subst k2
    refine (does_hold h hx hx2 oa ob oc od s u).mono ?_
    rintro e w' ⟨v, rfl, hd⟩
    obtain ⟨c, rfl, hc⟩ := Did.done (n := n) (R := fun T p T' => IT.isHold T oa.toNat p T') hd (fun hr ha => HB.hold (hA ha) hr) IT.isHold.one
    exact ⟨c, rfl, hc⟩
  by_cases k3 : K = 3
  · subst k3
    refine (does_drop h hx hx2 oa ob oc od s u).mono ?_
    rintro e w' ⟨v, rfl, hd⟩
    obtain ⟨c, rfl, hc⟩ := Did.done (n := n) (R := fun T p T' => IT.isDrop T oa.toNat p T') hd (fun hr ha => (HB.drop (hA ha) hr).mono (Nat.le_succ _)) IT.isDrop.one
    exact ⟨c, rfl, hc⟩
  by_cases k4 : K = 4
  · subst k4
    refine (does_set h oa ob oc od s u hm2).mono ?_
    rintro e w' ⟨v, rfl, hd⟩
    obtain ⟨c, rfl, hc⟩ := Did.done (n := n) (R := fun T p T' => IT.isSet rt T oa.toNat ob oc od p T') hd (fun hr ha => (HB.set (hA ha) hr).mono (Nat.le_succ _)) IT.isSet.one
    exact ⟨c, rfl, hc⟩
  by_cases k5 : K = 5
  · subst k5
    refine (does_put h oa ob oc od s u hz hm1).mono ?_
    rintro e w' ⟨v, rfl, hd⟩
    obtain ⟨c, rfl, hc⟩ := Did.done (n := n) (R := fun T p T' => IT.isPut T oa.toNat ob (bs s) p T') hd (fun hr ha => (HB.put (hA ha) hr).mono (Nat.le_succ _)) IT.isPut.one
    exact ⟨c, rfl, hc⟩
  by_cases k6 : K = 6
  · subst k6
    refine (does_cut h oa ob oc od s u).mono ?_
    rintro e w' ⟨v, rfl, hd⟩
    obtain ⟨c, rfl, hc⟩ := Did.done (n := n) (R := fun T p T' => IT.isCut T oa.toNat p T') hd (fun hr ha => (HB.cut (hA ha) hr).mono (Nat.le_succ _)) IT.isCut.one
    exact ⟨c, rfl, hc⟩
  by_cases k7 : K = 7
  · subst k7
    refine (does_enter h oa ob oc od s u).mono ?_
    rintro e w' ⟨v, rfl, hd⟩
    obtain ⟨c, rfl, hc⟩ := Did.done (n := n) (R := fun T p T' => IT.isEnter okN T oa.toNat (bs s) ob.toNat p T') hd (fun hr ha => (HB.enter (hA ha) hr).mono (Nat.le_succ _)) IT.isEnter.one
    exact ⟨c, rfl, hc⟩
  by_cases k8 : K = 8
  · subst k8
    refine (does_remove h oa ob oc od s u).mono ?_
    rintro e w' ⟨v, rfl, hd⟩
    obtain ⟨c, rfl, hc⟩ := Did.done (n := n) (R := fun T p T' => IT.isRemove T oa.toNat (bs s) p T') hd (fun hr ha => (HB.remove (hA ha) hr).mono (Nat.le_succ _)) IT.isRemove.one
    exact ⟨c, rfl, hc⟩
  · refine (does_move h hx hx2 K oa ob oc od s u k1 k2 k3 k4 k5 k6 k7 k8).mono ?_
    rintro e w' ⟨v, rfl, hd⟩
    obtain ⟨c, rfl, hc⟩ := Did.done (n := n) (R := fun T p T' => IT.isMove okN T oa.toNat (bs s) ob.toNat (bs u) p T') hd (fun hr ha => (HB.move (hA ha) hr).mono (Nat.le_succ _)) IT.isMove.one
    exact ⟨c, rfl, hc⟩
end Go.Proofs.Ytafonmnfeibaiaa
namespace Go.Proofs.Ytafonmnfeibaiaa
open Go.RowKit

/-! ### What must be in any case: the statements' own small case -/
def sh1 : IT.Tr := IT.upd (IT.rootT 493 0 0) 2 (some ⟨1, 448, 5, 6, 0, 1, [], [], 2⟩)
def sh2 : IT.Tr := IT.entT sh1 1 2 [97] ⟨1, 493, 0, 0, 0, 0, [], [], 1⟩ ⟨1, 448, 5, 6, 0, 1, [], [], 2⟩
def sh3 : IT.Tr := IT.upd sh2 2 (some ⟨1, 448, 5, 6, 0, 0, [], [], 1⟩)
def sh4 : IT.Tr := IT.delT sh3 1 2 [97] ⟨1, 493, 0, 0, 0, 0, [], [([97], 2)], 1⟩ ⟨1, 448, 5, 6, 0, 0, [], [], 1⟩
def sh5 : IT.Tr := IT.rem sh4 2
theorem sh_make {i : Nat} {r : Int} {T' : IT.Tr} (h : IT.isMake rt (IT.rootT 493 0 0) 1 448 5 6 0 i r T') : i = 2 ∧ r = 0 ∧ T' = sh1 := by
  unfold IT.isMake at h
  have hr : rt 448 5 6 := by unfold rt; decide +kernel
  rw [if_neg (by rintro (a | a | a); omega; omega; exact a hr), if_neg (by omega), if_neg (fun hh => hh 2 (by omega) (by omega) rfl)] at h
  obtain ⟨h1, h2, h3, h4, h5, h6⟩ := h
  have hi : i = 2 := by
    by_cases e : i = 1
    · subst e; cases h4
    · by_cases e2 : 2 < i
      · exact absurd rfl (h5 2 (by omega) e2)
      · omega
  subst hi
  exact ⟨rfl, h1, h6⟩
set_option maxRecDepth 100000 in
theorem sh_enter {r : Int} {T' : IT.Tr} (h : IT.isEnter okN sh1 1 [97] 2 r T') : r = 0 ∧ T' = sh2 := by
  unfold IT.isEnter at h
  have e1 : sh1 1 = some ⟨1, 493, 0, 0, 0, 0, [], [], 1⟩ := by decide +kernel
  have e2 : sh1 2 = some ⟨1, 448, 5, 6, 0, 1, [], [], 2⟩ := by decide +kernel
  rw [e1, e2] at h
  dsimp only at h
  have hl : IT.lnk sh1 2 = 0 := by decide +kernel
  have hb : ¬ IT.Bel sh1 2 1 := IT.bel_top e1 (by decide) rfl
  rw [if_neg (by decide), if_neg (by decide +kernel), if_neg (by decide), if_neg (by rw [hl]; decide), if_neg (by decide), if_neg (fun hh => hb hh.2)] at h
  exact h
set_option maxRecDepth 100000 in
theorem sh_enter2 {r : Int} {T' : IT.Tr} (h : IT.isEnter okN sh2 2 [98] 2 r T') : r = 12 ∧ T' = sh2 := by
  unfold IT.isEnter at h
  have e2 : sh2 2 = some ⟨1, 448, 5, 6, 0, 1, [], [], 1⟩ := by decide +kernel
  rw [e2] at h
  dsimp only at h
  have hl : IT.lnk sh2 2 = 1 := by decide +kernel
  rw [if_neg (by decide), if_neg (by decide +kernel), if_neg (by decide), if_pos (by rw [hl]; decide)] at h
  exact h
theorem sh_drop {r : Bool} {T' : IT.Tr} (h : IT.isDrop sh2 2 r T') : T' = sh3 := by
  unfold IT.isDrop at h
  have e2 : sh2 2 = some ⟨1, 448, 5, 6, 0, 1, [], [], 1⟩ := by decide +kernel
  rw [e2] at h
  dsimp only at h
  rw [if_neg (by decide)] at h
  exact IT.nf_stay h.2 (IT.no_can_list (by decide +kernel))
set_option maxRecDepth 100000 in
theorem sh_remove {r : Int} {T' : IT.Tr} (h : IT.isRemove sh3 1 [97] r T') : r = 0 ∧ T' = sh5 := by
  unfold IT.isRemove at h
  have e1 : sh3 1 = some ⟨1, 493, 0, 0, 0, 0, [], [([97], 2)], 1⟩ := by decide +kernel
  have e2 : sh3 2 = some ⟨1, 448, 5, 6, 0, 0, [], [], 1⟩ := by decide +kernel
  rw [e1] at h
  dsimp only at h
  rw [if_neg (by decide), show IT.findN [97] [([97], 2)] = some 2 by decide +kernel] at h
  dsimp only at h
  obtain ⟨m, hm, h⟩ := h
  rw [e2] at hm
  obtain rfl := Option.some.inj hm
  rw [if_neg (by decide)] at h
  exact ⟨h.1, IT.nf_one h.2 (IT.can_iff.2 ⟨by omega, by decide +kernel⟩) (IT.no_can_list (by decide +kernel))⟩
theorem hb_le {T : IT.Tr} (h : (List.range 201).all (fun k => match T k with
    | none => true
    | some m => decide (m.holds ≤ 1000)) = true) (hs : IT.Sound okN T) : HB T 1000000 := fun k m hk => by
  have hr := hs.1.rng k m hk
  have h2 := List.all_eq_true.1 h k (by simp; omega)
  rw [hk] at h2
  have : m.holds ≤ 1000 := of_decide_eq_true h2
  omega

set_option maxRecDepth 100000 in
set_option maxHeartbeats 800000 in
theorem shown_any (w : World) : Calls Try.prog 20 #[] w fun e w' => e = .returned (.bool true) ∧ Below w.heap.size w w' := by
  go_enter Try.func20, Try.ntmps20
  go_wp2_with fail
  refine (new_ok _ _ _ _ (by decide +kernel)).mono ?_
  rintro e w1 ⟨t, S0, rfl, h0⟩
  have H0 := Lib.hid h0
  clear h0
  go_wp2_with fail
  refine (make_any H0.out.tre _ _ _ _ _).mono ?_
  rintro e w2 ⟨i, r, rfl, hst⟩
  obtain ⟨S1, T1, h1, hr, _⟩ := H0.out.stp hst fun T' h => h.sound H0.out.snd
  obtain ⟨rfl, rfl, rfl⟩ := sh_make hr
  have H1 := Lib.hid h1
  clear hst hr h1
  go_wp2_with fail
  refine (enter_any H1.out.tre 1 2 _).mono ?_
  rintro e w3 ⟨r, rfl, hst⟩
  obtain ⟨S2, T2, h2, hr, _⟩ := H1.out.stp hst fun T' h => h.sound H1.out.snd
  obtain ⟨rfl, rfl⟩ := sh_enter hr
  have H2 := Lib.hid h2
  clear hst hr h2
  go_wp2_with fail
  refine (look_any H2.out.tre 2 _).mono ?_
  rintro e w4 ⟨he, rfl⟩
  replace he : e = .returned (.tuple #[.int .i64 1, .bool true]) := he.trans (congrArg _ (by kernel_rfl))
  subst he
  go_wp2_with fail
  refine (enter_any H2.out.tre 2 2 _).mono ?_
  rintro e w5 ⟨r, rfl, hst⟩
  obtain ⟨S3, T3, h3, hr, _⟩ := H2.out.stp hst fun T' h => h.sound H2.out.snd
  obtain ⟨rfl, rfl⟩ := sh_enter2 hr
  have H3 := Lib.hid h3
  clear hst hr h3
  go_wp2_with fail
  refine (drop_any H3.out.tre (hb_le (by decide +kernel) H3.out.snd) 2).mono ?_
  rintro e w6 ⟨r, rfl, hst⟩
  obtain ⟨S4, T4, h4, hr, _⟩ := H3.out.stp hst fun T' h => h.sound H3.out.snd
  obtain rfl := sh_drop hr
  have H4 := Lib.hid h4
  clear hst hr h4
  go_wp2_with fail
  refine (stat_any H4.out.tre 2).mono ?_
  rintro e w7 ⟨he, hb⟩
  replace he : e = .returned (.tuple #[.agg #[.int .i64 2, .int .i64 1, .int .i64 448, .int .i64 5, .int .i64 6, .int .i64 1, .int .i64 0, .int .i64 0], .bool true]) := he.trans (congrArg _ (by kernel_rfl))
  subst he
  have H5 := Lib.hid (H4.out.below hb)
  clear hb
  go_wp2_with fail
  refine (remove_any (H5.out.alloc _).tre 1 _).mono ?_
  rintro e w8 ⟨r, rfl, hst⟩
  obtain ⟨S6, T6, h6, hr, _⟩ := (H5.out.alloc _).stp hst fun T' h => h.sound H5.out.snd
  obtain ⟨rfl, rfl⟩ := sh_remove hr
  have H6 := Lib.hid h6
  clear hst hr h6
  go_wp2_with fail
  refine (stat_any H6.out.tre 2).mono ?_
  rintro e w9 ⟨he, hb⟩
  replace he : e = .returned (.tuple #[.agg #[.int .i64 0, .int .i64 0, .int .i64 0, .int .i64 0, .int .i64 0, .int .i64 0, .int .i64 0, .int .i64 0], .bool false]) := he.trans (congrArg _ (by kernel_rfl))
  subst he
  have H7 := Lib.hid (H6.out.below hb)
  clear hb
  go_wp2
  go_ret
  exact ⟨rfl, (H7.out.alloc _).own.below⟩
end Go.Proofs.Ytafonmnfeibaiaa
/- What the law InodeSound reckons: the links of a tree, counted name by name. No walk in sight. -/
namespace Go.Proofs.Ytafonmnfeibaiaa
open Go.RowKit

/-! ### the row of 201 numbers -/
def lkA (L : Nat → Nat) : Array Value := Array.ofFn (n := 201) fun i => .int .i64 (L i.val : Nat)
theorem lkA_size (L : Nat → Nat) : (lkA L).size = 201 := by simp [lkA]
theorem lkA_get (L : Nat → Nat) {i : Nat} (h : i < 201) : (lkA L)[i]? = some (.int .i64 (L i : Nat)) := by simp [lkA, h]
def bump (L : Nat → Nat) (x : Nat) : Nat → Nat := fun y => L y + if x = y then 1 else 0
theorem lkA_bump (L : Nat → Nat) {x : Nat} (_hx : x < 201) : (lkA L).setIfInBounds x (.int .i64 ((L x : Nat) + 1 : Int)) = lkA (bump L x) := by
  apply Array.ext_getElem?
  intro i
  rw [Array.getElem?_setIfInBounds, lkA_size]
  by_cases hi : i < 201
  · rw [lkA_get _ hi, lkA_get _ hi]
    unfold bump
    by_cases e : x = i
    · subst e; rw [if_pos rfl, if_pos (by omega), if_pos rfl]; rfl
    · rw [if_neg e, if_neg e]; rfl
  · have h1 : (lkA L)[i]? = none := Array.getElem?_eq_none (by rw [lkA_size]; omega)
    have h2 : (lkA (bump L x))[i]? = none := Array.getElem?_eq_none (by rw [lkA_size]; omega)
    rw [h1, h2, if_neg (by omega)]
theorem lkA_zero : lkA (fun _ => 0) = Array.replicate 201 (.int .i64 0) := by
  apply Array.ext_getElem?
  intro i
  by_cases hi : i < 201
  · rw [lkA_get _ hi]; simp [hi]
  · have h1 : (lkA (fun _ => 0))[i]? = none := Array.getElem?_eq_none (by rw [lkA_size]; omega)
    rw [h1]; simp [hi]
/-- The tree as it was left, and the row of numbers. -/
structure SL (n0 : Nat) (w1 wr : World) (t : Nat) (S : Tab) (T : IT.Tr) (b : Nat) (L : Nat → Nat) : Prop where
  tre : Tre wr t S T
  row : wr.heap[b]? = some (.cells (lkA L) 62 (0, 0))
  bel : Below n0 w1 wr
  le : n0 ≤ b
theorem SL.below {n0 : Nat} {w1 wr w' : World} {t : Nat} {S : Tab} {T : IT.Tr} {b : Nat} {L : Nat → Nat} (h : SL n0 w1 wr t S T b L) (hb : Below wr.heap.size wr w') (hn : n0 ≤ wr.heap.size) : SL n0 w1 w' t S T b L :=
  ⟨⟨h.tre.rep.same (fun c hc => hb.block c (h.tre.rep.foot_lt hc)), h.tre.ties, h.tre.snd⟩, (hb.block b (lt_of_heap h.row)).trans h.row, h.bel.trans (hb.mono hn), h.le⟩
theorem SL.cell {n0 : Nat} {w1 wr : World} {t : Nat} {S : Tab} {T : IT.Tr} {b : Nat} {L : Nat → Nat} (h : SL n0 w1 wr t S T b L) {x : Nat} (hx : x < 201) : wr.cell? ⟨b, x, none⟩ = some (.int .i64 (L x : Nat)) := (cell_of h.row x).trans (lkA_get L hx)
theorem SL.size {n0 : Nat} {w1 wr : World} {t : Nat} {S : Tab} {T : IT.Tr} {b : Nat} {L : Nat → Nat} (h : SL n0 w1 wr t S T b L) : n0 ≤ wr.heap.size := by have := lt_of_heap h.row; have := h.le; omega
theorem SL.bump {n0 : Nat} {w1 wr : World} {t : Nat} {S : Tab} {T : IT.Tr} {b : Nat} {L : Nat → Nat} (h : SL n0 w1 wr t S T b L) {x : Nat} (hx : x < 201) : SL n0 w1 (wr.setCell ⟨b, x, none⟩ (.int .i64 ((L x : Nat) + 1 : Int))) t S T b (Go.Proofs.Ytafonmnfeibaiaa.bump L x) :=
  ⟨⟨h.tre.rep.same (fun c hc => Below.heap_setCell _ _ _ _ (fun e => not_foot h.tre.rep h.row (by decide) (by decide) (by have e2 : c = b := e; rw [← e2]; exact hc))), h.tre.ties, h.tre.snd⟩, by rw [heap_setCell_same h.row, lkA_bump L hx], h.bel.trans ⟨rfl, rfl, rfl, by rw [World.size_setCell]; exact Nat.le_refl _, fun c hc => Below.heap_setCell _ _ _ _ (by have := h.le; show c ≠ b; omega)⟩, h.le⟩
/-- What has been counted when the names of all below d have been, and k of d's. -/
def part (T : IT.Tr) (d : Nat) (x : Nat) : Nat := ((List.range d).map fun k => IT.leadO x (T k)).sum
theorem part_succ (T : IT.Tr) (d x : Nat) : part T (d + 1) x = part T d x + IT.leadO x (T d) := by
  unfold part
  rw [List.range_succ, List.map_append, List.sum_append]
  simp
theorem part_one (T : IT.Tr) (h : T 0 = none) : part T 1 = fun _ => 0 := by
  funext x
  show (([0] : List Nat).map fun k => IT.leadO x (T k)).sum = 0
  simp [h, IT.leadO]
theorem part_all (T : IT.Tr) : part T 201 = IT.lnk T := rfl
def cntN (l : List (IT.Bytes × Nat)) (k : Nat) (x : Nat) : Nat := ((l.take k).filter fun p => decide (p.2 = x)).length
theorem cntN_zero (l : List (IT.Bytes × Nat)) : cntN l 0 = fun _ => 0 := by funext x; simp [cntN]
theorem cntN_all (m : IT.Nd) (x : Nat) : cntN m.names m.names.length x = IT.lead x m := by unfold cntN IT.lead; rw [List.take_length]
theorem cntN_succ {l : List (IT.Bytes × Nat)} {k : Nat} {p : IT.Bytes × Nat} (hp : l[k]? = some p) (x : Nat) : cntN l (k + 1) x = cntN l k x + if p.2 = x then 1 else 0 := by
  unfold cntN
  rw [List.take_add_one, hp, List.filter_append]
  simp only [Option.toList_some, List.length_append]
  by_cases e : p.2 = x
  · rw [if_pos e]; simp [e]
  · rw [if_neg e]; simp [e]
theorem bump_cnt {f : Nat → Nat} {l : List (IT.Bytes × Nat)} {k : Nat} {p : IT.Bytes × Nat} (hp : l[k]? = some p) : bump (fun x => f x + cntN l k x) p.2 = fun x => f x + cntN l (k + 1) x := by
  funext x
  show f x + cntN l k x + (if p.2 = x then 1 else 0) = f x + cntN l (k + 1) x
  rw [cntN_succ hp]
  omega
/-- A name of a directory is looked up. -/
theorem look_name {T : IT.Tr} (hs : IT.Sound0 okN T) {d : Nat} {m : IT.Nd} (hd : T d = some m) {p : IT.Bytes × Nat} (hp : p ∈ m.names) : lookT T d p.1 = some p.2 ∧ 1 ≤ p.2 ∧ p.2 ≤ 200 ∧ okN p.1 = true := by
  have hok := hs.okn d m p hd hp
  have h2 := of_decide_eq_true hok
  obtain ⟨q, hq⟩ := hs.lead d m p hd hp
  have hk : m.kind = 1 := by
    by_cases e : m.kind = 1
    · exact e
    · have := hs.leaf d m hd e; rw [this] at hp; cases hp
  refine ⟨?_, (hs.rng _ q hq).1, (hs.rng _ q hq).2, hok⟩
  unfold lookT
  rw [hd]
  dsimp only
  rw [if_neg (fun hh => hh hk), if_neg h2.2.2.1, if_neg h2.2.2.2.1]
  exact IT.find_of (hs.ord d m hd) hp
theorem none_lnk {T : IT.Tr} (hs : IT.Sound0 okN T) {d : Nat} (hd : T d = none) : IT.lnk T d = 0 := by
  cases hz : decide (IT.lnk T d = 0) with
  | true => exact of_decide_eq_true hz
  | false =>
    obtain ⟨k, n, p, h1, h2, h3⟩ := IT.lnk_from (of_decide_eq_false hz)
    obtain ⟨q, hq⟩ := hs.lead k n p h1 h2
    rw [h3, hd] at hq; cases hq
/-! ### the names of an inode, as they come -/
def nmsL (T : IT.Tr) (d : Nat) : List (IT.Bytes × Nat) := match T d with
  | none => []
  | some m => m.names
theorem nmsL_names (T : IT.Tr) (d : Nat) : namesT T d = (nmsL T d).map (·.1) := by
  unfold namesT nmsL
  cases T d <;> rfl
theorem nmsL_cnt (T : IT.Tr) (d x : Nat) : cntN (nmsL T d) (nmsL T d).length x = IT.leadO x (T d) := by
  unfold nmsL
  cases hd : T d with
  | none => rfl
  | some m => exact cntN_all m x
theorem nmsL_look {T : IT.Tr} (hs : IT.Sound0 okN T) {d : Nat} {p : IT.Bytes × Nat} (hp : p ∈ nmsL T d) : lookT T d p.1 = some p.2 ∧ 1 ≤ p.2 ∧ p.2 ≤ 200 ∧ okN p.1 = true := by
  unfold nmsL at hp
  cases hd : T d with
  | none => rw [hd] at hp; cases hp
  | some m => rw [hd] at hp; exact look_name hs hd hp
theorem nmsL_few {T : IT.Tr} (hs : IT.Sound0 okN T) (d : Nat) : (nmsL T d).length ≤ 40 := by
  unfold nmsL
  cases hd : T d with
  | none => exact Nat.zero_le _
  | some m => exact hs.few d m hd
theorem part_next (T : IT.Tr) (d : Nat) : (fun x => part T d x + cntN (nmsL T d) (nmsL T d).length x) = part T (d + 1) := by
  funext x
  show part T d x + cntN (nmsL T d) (nmsL T d).length x = part T (d + 1) x
  rw [part_succ, nmsL_cnt]
theorem part_le (T : IT.Tr) (x : Nat) : ∀ g d : Nat, d + g = 201 → part T d x ≤ IT.lnk T x
  | 0, d, h => by obtain rfl : d = 201 := by omega
                  exact Nat.le_refl _
  | g + 1, d, h => by
    have := part_le T x g (d + 1) (by omega)
    rw [part_succ] at this
    omega
theorem cntN_le (l : List (IT.Bytes × Nat)) (k x : Nat) : cntN l k x ≤ l.length := by
  unfold cntN
  exact Nat.le_trans (List.length_filter_le _ _) (by rw [List.length_take]; omega)
theorem cnt_small {T : IT.Tr} (hs : IT.Sound0 okN T) {d : Nat} (hd : d ≤ 201) (k x : Nat) : part T d x + cntN (nmsL T d) k x ≤ 48 := by
  have h1 := part_le T x (201 - d) d (by omega)
  have h2 := hs.many x
  have h3 := cntN_le (nmsL T d) k x
  have h4 := nmsL_few hs d
  omega
def NmAt (w : World) (b : Nat) (a : Option Addr) (l : List (IT.Bytes × Nat)) : Prop := ∀ (j : Nat) (p : IT.Bytes × Nat), l[j]? = some p → ∃ g : Nat, a = some ⟨g, 0, none⟩ ∧ g ≠ b ∧ w.cell? ⟨g, j, none⟩ = some (.string (tx p.1))
theorem NmAt.set {w : World} {b : Nat} {a : Option Addr} {l : List (IT.Bytes × Nat)} (h : NmAt w b a l) (x : Nat) (v : Value) : NmAt (w.setCell ⟨b, x, none⟩ v) b a l := fun j p hp => by
  obtain ⟨g, h1, h2, h3⟩ := h j p hp
  exact ⟨g, h1, h2, by rw [World.cell?_setCell_far _ _ _ _ (Ne.symm h2)]; exact h3⟩
theorem names_row {w' : World} {base b : Nat} {T : IT.Tr} {d : Nat} {v : Value} (h : w'.ownsRow base 9 1 v (namesT T d).length ((namesT T d).map encStr)) (hb : b < base) : ∃ a cap, v = .slice a (nmsL T d).length cap ∧ (nmsL T d).length ≤ cap ∧ cap ≤ maxLen ∧ NmAt w' b a (nmsL T d) := by
  have hlen : (namesT T d).length = (nmsL T d).length := by rw [nmsL_names, List.length_map]
  obtain ⟨h1, h2⟩ := h
  rcases h2 with ⟨e1, e2⟩ | ⟨g, cap, cur, e1, e2, e3, e4, e5, e6, e7⟩
  · refine ⟨none, 0, by rw [e1, ← hlen, e2], by omega, by decide, fun j p hp => ?_⟩
    have := (List.getElem?_eq_some_iff.1 hp).1
    omega
  · refine ⟨_, cap, by rw [e1, hlen], by omega, e5, fun j p hp => ⟨g, rfl, by omega, ?_⟩⟩
    have hj := (List.getElem?_eq_some_iff.1 hp).1
    have f1 : ((namesT T d).map encStr)[j]? = some (Value.string (tx p.1)) := by
      show _ = some (encStr p.1)
      rw [nmsL_names, List.map_map, List.getElem?_map, hp]; rfl
    rw [cell_of e3]
    rw [← e7] at f1
    rw [List.getElem?_take_of_lt (by omega)] at f1
    simpa using f1
/-- A row of ops that came in. -/
def OpsAt (w : World) (B : Nat) (a : Option Addr) (len : Nat) : Prop := ∀ j, j < len → ∃ b off K oa ob oc od s u, a = some ⟨b, off, none⟩ ∧ b < B ∧ -9223372036854775808 ≤ ob ∧ ob < 9223372036854775808 ∧
  w.cell? ⟨b, off + j * 7, none⟩ = some (.int .i64 K) ∧ w.cell? ⟨b, off + j * 7 + 1, none⟩ = some (.int .i64 oa) ∧ w.cell? ⟨b, off + j * 7 + 2, none⟩ = some (.int .i64 ob) ∧ w.cell? ⟨b, off + j * 7 + 3, none⟩ = some (.int .i64 oc) ∧ w.cell? ⟨b, off + j * 7 + 4, none⟩ = some (.int .i64 od) ∧ w.cell? ⟨b, off + j * 7 + 5, none⟩ = some (.string s) ∧ w.cell? ⟨b, off + j * 7 + 6, none⟩ = some (.string u)
end Go.Proofs.Ytafonmnfeibaiaa
/- The law InodeSound: the walk. -/
namespace Go.Proofs.Ytafonmnfeibaiaa
open Go.RowKit

theorem root_HB : HB (IT.rootT 493 0 0) 1 := fun k m hk => by obtain ⟨_, rfl⟩ := IT.rootT_get hk; exact Nat.zero_le _
set_option maxRecDepth 100000 in
set_option maxHeartbeats 4000000 in
theorem sound_any (a : Option Addr) (len cap : Nat) (w : World) (hl : len ≤ maxLen) (h0 : OpsAt w w.heap.size a len) :
    Calls Try.prog 6 #[.slice a len cap] w fun e w' => e = .returned (.bool true) ∧ Below w.heap.size w w' := by
  unfold maxLen at hl
  have HS := Lib.hid h0
  have hz : ∀ w : World, (zeroValue 62).run Try.prog w = .ok (.agg (Array.replicate 201 (.int .i64 0))) w := fun _ => by kernel_rfl
  clear h0
  go_enter Try.func6, Try.ntmps6
  go_wp2_with fail
  refine (shown_any w).mono ?_
  rintro e w1 ⟨rfl, hb⟩
  have HB1 := Lib.hid hb
  clear hb
  go_wp2_with fail
  refine (new_ok _ _ _ _ (by decide +kernel)).mono ?_
  rintro e w2 ⟨t, S0, rfl, ho⟩
  have H0 := Lib.hid ho
  clear ho
  go_wp2_with fail
  refine (RF.rf_new _ _ _ (by omega) _ (by decide +kernel)).mono ?_
  rintro e w3 ⟨r, B, G0, rfl, hr1, hr2, hbl, htr⟩
  have HI0 : Hid (Duo w1.heap.size w1 w3 t S0 (IT.rootT 493 0 0) r B G0 (IT.rootT 493 0 0) ∧ HB (IT.rootT 493 0 0) (0 + 1) ∧ HB (IT.rootT 493 0 0) (0 + 1)) := Lib.hid ⟨⟨H0.out.below hbl, htr, by have := H0.out.own.le; omega⟩, root_HB, root_HB⟩
  clear hr1 hr2 hbl htr H0
  go_wp2_with fail
  go_loopg [6] 120 (fun g iv wr => ∃ (k : Nat) (S : Tab) (T : IT.Tr) (G : RF.Gt) (T2 : IT.Tr), iv = .int .i64 (k : Int) ∧ k + g = 120 ∧ Hid (Duo w1.heap.size w1 wr t S T r B G T2 ∧ HB T (k + 1) ∧ HB T2 (k + 1)))
  case atStart => exact ⟨0, _, _, _, _, rfl, rfl, HI0⟩
  case round =>
    clear HI0
    obtain ⟨k, S, T, G, T2, rfl, hkg, HI⟩ := hrel
    by_cases hc : k < len ∧ k < 120
    · obtain ⟨hk1, hk2⟩ := hc
      obtain ⟨og, rfl⟩ : ∃ og, gk = og + 1 := ⟨gk - 1, by omega⟩
      obtain ⟨b, off, K, oa, ob, oc, od, s, u, rfl, hbb, hm1, hm2, q0, q1, q2, q3, q4, q5, q6⟩ := HS.out k hk1
      have tr : ∀ (i : Nat) (v : Value), w.cell? ⟨b, i, none⟩ = some v → wr.cell? ⟨b, i, none⟩ = some v := fun i v hv => by
        rw [HI.out.1.a.own.below.cell (p := ⟨b, i, none⟩) (by have := HB1.out.size; simp; omega), HB1.out.cell (p := ⟨b, i, none⟩) hbb]; exact hv
      have p0 := tr _ _ q0
      have p1 := tr _ _ q1
      have p2 := tr _ _ q2
      have p3 := tr _ _ q3
      have p4 := tr _ _ q4
      have p5 := tr _ _ q5
      have p6 := tr _ _ q6
      clear tr q0 q1 q2 q3 q4 q5 q6
      have hk3 : (k : Int) < len := by omega
      have hk4 : (k : Int) < 120 := by omega
      by_cases h5 : s.size ≤ 5000
      · have h6 : (s.size : Int) ≤ 5000 := by omega
        go_wp2_with fail
        refine (does_any HI.out.1 (n := k + 1) (by omega) (by omega) HI.out.2.1 HI.out.2.2 K oa ob oc od s u hm1 hm2 (by unfold maxLen; omega)).mono ?_
        rintro e w5 ⟨c, rfl, S', T', G', T2', hd, hx, hx2, _, _⟩
        have HN := Lib.hid (And.intro hd (And.intro hx hx2))
        clear hd hx hx2
        go_wp2
        go_roundg og
        case measure => omega
        case rel => exact ⟨k + 1, S', T', G', T2', by go_num, by omega, HN⟩
      · have h6 : (5000 : Int) < s.size := by omega
        have HN : Hid (Duo w1.heap.size w1 wr t S T r B G T2 ∧ HB T (k + 1 + 1) ∧ HB T2 (k + 1 + 1)) := Lib.hid ⟨HI.out.1, HI.out.2.1.mono (Nat.le_succ _), HI.out.2.2.mono (Nat.le_succ _)⟩
        go_wp2
        go_roundg og
        case measure => omega
        case rel => exact ⟨k + 1, S, T, G, T2, by go_num, by omega, HN⟩
    · have HT := Lib.hid HI.out.1.a
      have HEND : Hid (SL w1.heap.size w1 (wr.alloc (.cells (Array.replicate 201 (.int .i64 0)) 62)) t S T wr.heap.size (part T 1)) := Lib.hid (by
        have h0 : T 0 = none := by
          cases e : T 0 with
          | none => rfl
          | some m => have := HT.out.snd.1.rng 0 m e; omega
        have hbl : Below wr.heap.size wr (wr.alloc (.cells (Array.replicate 201 (.int .i64 0)) 62)) := (Below.refl _ _).alloc (Nat.le_refl _) _
        refine ⟨(HT.out.below hbl).tre, ?_, HT.out.own.below.trans (hbl.mono HT.out.own.le), HT.out.own.le⟩
        rw [part_one T h0, lkA_zero]
        exact alloc_heap _ _)
      have HSN := Lib.hid HT.out.snd.1
      clear HI HT HS
      by_cases hkl : k < len
      case' pos =>
        have hk3 : (k : Int) < len := by omega
        have hk4 : (120 : Int) ≤ k := by omega
        clear hc
        go_upto_region 12 with fail
      case' neg =>
        have hk3 : (len : Int) ≤ k := by omega
        clear hc
        go_upto_region 12 with fail
      all_goals
        clear hz
        have hsl := HEND.out
        clear HEND
        generalize wr.alloc (.cells (Array.replicate 201 (.int .i64 0)) 62) = W at *
        generalize wr.heap.size = bL at *
        have HSL := Lib.hid hsl
        clear hsl
        go_wp2_with fail
        go_loopg [8] 200 (fun g dv wr => ∃ (d : Nat), dv = .int .i64 (d : Int) ∧ d + g = 201 ∧ 1 ≤ d ∧ Hid (SL w1.heap.size w1 wr t S T bL (part T d)))
        case atStart => exact ⟨1, rfl, rfl, by omega, HSL⟩
        case round =>
          clear HSL
          obtain ⟨d, rfl, hdg, hd1, HSL⟩ := hrel
          by_cases hd : d ≤ 200
          · obtain ⟨og, rfl⟩ : ∃ og, gk = og + 1 := ⟨gk - 1, by omega⟩
            have hd2 : (d : Int) ≤ 200 := by omega
            go_wp2_with fail
            refine (names_any HSL.out.tre (d : Int)).mono ?_
            rintro e w5 ⟨v, rfl, hown, _, hbl⟩
            rw [Int.toNat_natCast] at hown
            obtain ⟨na, ncap, rfl, hn1, hn2, hnm⟩ := names_row (b := bL) hown (lt_of_heap HSL.out.row)
            have hsl := HSL.out.below hbl HSL.out.size
            clear hown hbl HSL
            have hfew := nmsL_few HSN.out d
            have HLK : Hid (∀ p ∈ nmsL T d, lookT T d p.1 = some p.2 ∧ 1 ≤ p.2 ∧ p.2 ≤ 200 ∧ okN p.1 = true) := Lib.hid (fun p hp => nmsL_look HSN.out hp)
            have HSM : Hid (∀ k x, part T d x + cntN (nmsL T d) k x ≤ 48) := Lib.hid (fun k x => cnt_small HSN.out (by omega) k x)
            have HNX := Lib.hid (part_next T d)
            have HI2 : Hid (SL w1.heap.size w1 w5 t S T bL (fun x => part T d x + cntN (nmsL T d) 0 x) ∧ NmAt w5 bL na (nmsL T d)) := Lib.hid ⟨by rw [cntN_zero]; exact hsl, hnm⟩
            clear hsl hnm
            generalize nmsL T d = l at *
            obtain ⟨ll, hll⟩ : ∃ ll, l.length = ll := ⟨_, rfl⟩
            rw [hll] at hn1 hfew HNX ⊢
            have HLL := Lib.hid hll
            clear hll
            go_wp2_with fail
            go_loopg [10] ll (fun g kv wr => ∃ (k : Nat), kv = .int .i64 (k : Int) ∧ k + g = ll ∧ Hid (SL w1.heap.size w1 wr t S T bL (fun x => part T d x + cntN l k x) ∧ NmAt wr bL na l))
            case atStart => exact ⟨0, rfl, by omega, HI2⟩
            case round =>
              clear HI2
              obtain ⟨k, rfl, hkg2, HI2⟩ := hrel
              by_cases hk : k < ll
              · obtain ⟨kg, rfl⟩ : ∃ kg, gk = kg + 1 := ⟨gk - 1, by omega⟩
                have hk3 : (k : Int) < ll := by omega
                obtain ⟨p, hp⟩ : ∃ p, l[k]? = some p := ⟨l[k]'(by rw [HLL.out]; exact hk), List.getElem?_eq_getElem _⟩
                obtain ⟨g, rfl, hgb, hcell⟩ := HI2.out.2 k p hp
                obtain ⟨e1, e2, e3, e4⟩ := HLK.out p (List.mem_of_getElem? hp)
                have HLO : Hid (Calls Try.prog 26 #[.pointer (some ⟨t, 0, none⟩), .int .i64 (d : Int), .string (tx p.1)] wr fun e w' => e = .returned (.tuple #[.int .i64 (p.2 : Nat), .bool true]) ∧ wr = w') := Lib.hid (by
                  have := look_any HI2.out.1.tre (d : Int) (tx p.1)
                  rw [bs_tx, Int.toNat_natCast, e1] at this
                  exact this)
                have HNO : Hid (Calls Try.prog 25 #[.string (tx p.1)] wr fun e w' => e = .returned (.bool true) ∧ wr = w') := Lib.hid (by
                  have := rname_ok (tx p.1) wr
                  rw [bs_tx, e4] at this
                  exact this)
                have hlx := HI2.out.1.cell (x := p.2) (by omega)
                have hfz := frozen_of HI2.out.1.row p.2
                have hsm := HSM.out k p.2
                have HNE : Hid (SL w1.heap.size w1 (wr.setCell ⟨bL, p.2, none⟩ (.int .i64 (((part T d p.2 + cntN l k p.2 : Nat) : Int) + 1))) t S T bL (fun x => part T d x + cntN l (k + 1) x) ∧ NmAt (wr.setCell ⟨bL, p.2, none⟩ (.int .i64 (((part T d p.2 + cntN l k p.2 : Nat) : Int) + 1))) bL (some ⟨g, 0, none⟩) l) := Lib.hid (by
                  have := HI2.out.1.bump (x := p.2) (by omega)
                  rw [bump_cnt hp] at this
                  exact ⟨this, HI2.out.2.set _ _⟩)
                generalize part T d p.2 + cntN l k p.2 = c at *
                have hc48 : (c : Int) ≤ 48 := by omega
                have hx1 : (1 : Int) ≤ (p.2 : Int) := by omega
                have hx2 : (p.2 : Int) ≤ 200 := by omega
                have hx3 : p.2 < 201 := by omega
                clear hp e1 e4
                generalize tx p.1 = nm at *
                generalize p.2 = x at *
                go_wp2_with fail
                refine HLO.out.mono ?_
                rintro e w6 ⟨rfl, rfl⟩
                go_wp2_with fail
                refine HNO.out.mono ?_
                rintro e w6 ⟨rfl, rfl⟩
                go_wp2
                go_roundg kg
                case measure => omega
                case rel => exact ⟨k + 1, by go_num, by omega, HNE⟩
              · have hk3 : (ll : Int) ≤ k := by omega
                obtain rfl : k = ll := by omega
                have HNE : Hid (SL w1.heap.size w1 wr t S T bL (part T (d + 1))) := Lib.hid (by rw [← HNX.out]; exact HI2.out.1)
                go_wp2
                go_roundg og
                case measure => omega
                case rel => exact ⟨d + 1, by go_num, by omega, by omega, HNE⟩
          · obtain rfl : d = 201 := by omega
            have hd2 : (200 : Int) < 201 := by omega
            clear hd
            rw [part_all] at HSL
            go_wp2_with fail
            go_loopg [13] 200 (fun g dv wr => ∃ (d : Nat), dv = .int .i64 (d : Int) ∧ d + g = 201 ∧ 1 ≤ d ∧ Hid (SL w1.heap.size w1 wr t S T bL (IT.lnk T)))
            case atStart => exact ⟨1, rfl, rfl, by omega, HSL⟩
            case round =>
              clear HSL
              obtain ⟨d, rfl, hdg, hd1, HSL⟩ := hrel
              by_cases hd : d ≤ 200
              · obtain ⟨og, rfl⟩ : ∃ og, gk = og + 1 := ⟨gk - 1, by omega⟩
                have hd2 : (d : Int) ≤ 200 := by omega
                have HST : Hid (Calls Try.prog 14 #[.pointer (some ⟨t, 0, none⟩), .int .i64 (d : Int)] wr fun e w' => e = .returned (.tuple #[statV T d, .bool (T d).isSome]) ∧ Below wr.heap.size wr w') := Lib.hid (stat_any HSL.out.tre (d : Int))
                cases hT : T d with
                | none =>
                  rw [show statV T d = noInfo from by unfold statV; rw [hT], hT] at HST
                  unfold noInfo at HST
                  have HL0 := Lib.hid (none_lnk HSN.out hT)
                  clear hT
                  go_wp2_with fail
                  refine HST.out.mono ?_
                  rintro e w5 ⟨rfl, hbl⟩
                  go_upto_region 27 with fail
                  have hsl := (HSL.out.below hbl HSL.out.size).below ((Below.refl _ _).alloc (Nat.le_refl _) (.cells #[.int .i64 0, .int .i64 0, .int .i64 0, .int .i64 0, .int .i64 0, .int .i64 0, .int .i64 0, .int .i64 0] 35)) (Nat.le_trans HSL.out.size hbl.size)
                  generalize w5.alloc (.cells #[.int .i64 0, .int .i64 0, .int .i64 0, .int .i64 0, .int .i64 0, .int .i64 0, .int .i64 0, .int .i64 0] 35) = W5 at *
                  have hlk := hsl.cell (x := d) (by omega)
                  rw [HL0.out] at hlk
                  have HSL2 := Lib.hid hsl
                  clear hsl HSL hbl
                  go_wp2
                  go_roundg og
                  case measure => omega
                  case rel => exact ⟨d + 1, by go_num, by omega, by omega, HSL2⟩
                | some m =>
                  rw [show statV T d = infoT T d m from by unfold statV; rw [hT], hT] at HST
                  unfold infoT at HST
                  obtain ⟨dl, hdl⟩ : ∃ dl : Int, ((m.data.length + m.names.length : Nat) : Int) = dl := ⟨_, rfl⟩
                  rw [hdl] at HST
                  clear hdl
                  have hc8 : (IT.lnk T d : Int) ≤ 8 := by have := HSN.out.many d; omega
                  have hc1 : m.kind = 1 → (IT.lnk T d : Int) ≤ 1 := fun e => by have := HSN.out.once d m hT e; omega
                  have hc0 : d = 1 → (IT.lnk T d : Int) = 0 := fun e => by rw [e, HSN.out.root0]; rfl
                  have HTD := Lib.hid hT
                  have HLK : Hid (∀ (W : World), SL w1.heap.size w1 W t S T bL (IT.lnk T) → W.cell? ⟨bL, d, none⟩ = some (.int .i64 (IT.lnk T d : Nat))) := Lib.hid (fun W hh => hh.cell (by omega))
                  have n1 : d < 201 := by omega
                  have n2 : (d : Int) < 201 := by omega
                  clear hT
                  go_wp2_with fail
                  refine HST.out.mono ?_
                  rintro e w5 ⟨rfl, hbl⟩
                  go_upto_region 27 with fail
                  have hsl := (HSL.out.below hbl HSL.out.size).below ((Below.refl _ _).alloc (Nat.le_refl _) (.cells #[.int .i64 (d : Int), .int .i64 m.kind, .int .i64 m.mode, .int .i64 m.owner, .int .i64 m.group, .int .i64 (IT.lnk T d : Nat), .int .i64 dl, .int .i64 m.tty] 35)) (Nat.le_trans HSL.out.size hbl.size)
                  have hD := alloc_heap w5 (.cells #[.int .i64 (d : Int), .int .i64 m.kind, .int .i64 m.mode, .int .i64 m.owner, .int .i64 m.group, .int .i64 (IT.lnk T d : Nat), .int .i64 dl, .int .i64 m.tty] 35)
                  generalize w5.alloc (.cells #[.int .i64 (d : Int), .int .i64 m.kind, .int .i64 m.mode, .int .i64 m.owner, .int .i64 m.group, .int .i64 (IT.lnk T d : Nat), .int .i64 dl, .int .i64 m.tty] 35) = W5 at *
                  generalize w5.heap.size = D at *
                  have hlk := HLK.out _ hsl
                  have HSL2 := Lib.hid hsl
                  clear hsl HSL hbl
                  clear HLK
                  generalize (IT.lnk T d : Int) = c at hc8 hc1 hc0 hlk hD ⊢
                  have q0 : W5.cell? ⟨D, 0, none⟩ = some (.int .i64 (d : Int)) := cell_of hD 0
                  have q1 : W5.cell? ⟨D, 1, none⟩ = some (.int .i64 m.kind) := cell_of hD 1
                  have q5 : W5.cell? ⟨D, 5, none⟩ = some (.int .i64 c) := cell_of hD 5
                  clear hD
                  have y8 : (c > 8) = False := eq_false (by omega)
                  have y9 : (8 < c) = False := eq_false (by omega)
                  by_cases hk : m.kind = 1
                  · have hc2 := hc1 hk
                    have y1 : (c > 1) = False := eq_false (by omega)
                    have y2 : (1 < c) = False := eq_false (by omega)
                    rw [hk] at q1
                    have HKM := Lib.hid hk
                    clear hk
                    by_cases h1 : d = 1
                    case' pos =>
                      have hc3 := hc0 h1
                      rw [hc3] at q5 hlk
                      have z1 : ((d : Int) == 1) = true := by simp [h1]
                      clear hc1 hc0 hc2 hc3 hc8 y1 y2 y8 y9 h1
                      go_upto_region 30 with fail
                      go_quiet (fail)
                      rename_i nq
                      go_upto_region 33 with fail
                    case' neg =>
                      have z1 : ((d : Int) == 1) = false := by simpa using (show ¬ (d : Int) = 1 by omega)
                      clear hc1 hc0 h1
                      go_upto_region 30 with fail
                      go_quiet (fail)
                      rename_i nq
                      go_upto_region 33 with fail
                    all_goals
                      have hsl := HSL2.out.below (belowDrewN (Below.refl W5.heap.size W5) nq) HSL2.out.size
                      have q1' : (W5.drewN nq).cell? ⟨D, 1, none⟩ = some (.int .i64 1) := q1
                      clear q0 q1 q5 hlk HSL2
                      generalize W5.drewN nq = W6 at *
                      have HSL3 := Lib.hid hsl
                      clear hsl
                      obtain ⟨rk, hr1, hr2⟩ := HSN.out.rank
                      have HR2 := Lib.hid hr2
                      have hrd := hr1 d m HTD.out
                      clear hr1 hr2
                      go_wp2_with fail
                      go_loopg [16, 17] 200 (fun g av sv wr => ∃ (x st : Nat), av = .int .i64 (x : Int) ∧ sv = .int .i64 (st : Int) ∧ st + g = 200 ∧ wr = W6 ∧ Hid (∃ q, T x = some q ∧ q.kind = 1 ∧ rk x + st < 200))
                      case atStart => exact ⟨d, 0, rfl, rfl, by omega, rfl, Lib.hid ⟨m, HTD.out, HKM.out, by omega⟩⟩
                      case round =>
                        obtain ⟨x, st, rfl, rfl, hsg, rfl, HQ⟩ := hrel
                        obtain ⟨q, e1, e2, e3⟩ := HQ.out
                        obtain ⟨sg, rfl⟩ : ∃ sg, gk = sg + 1 := ⟨gk - 1, by omega⟩
                        have hst : (st : Int) ≤ 199 := by omega
                        have y3 : ((st : Int) > 200) = False := eq_false (by omega)
                        have y4 : (200 < (st : Int)) = False := eq_false (by omega)
                        have HLO : Hid (Calls Try.prog 26 #[.pointer (some ⟨t, 0, none⟩), .int .i64 (x : Int), .string ⟨#[46, 46]⟩] wr fun e w' => e = .returned (.tuple #[.int .i64 (q.parent : Nat), .bool true]) ∧ wr = w') := Lib.hid (by
                          have := look_any HSL3.out.tre (x : Int) ⟨#[46, 46]⟩
                          have e4 : lookT T x (bs ⟨#[46, 46]⟩) = some q.parent := by
                            unfold lookT
                            rw [e1]
                            dsimp only
                            rw [if_neg (fun hh => hh e2), if_neg (by decide), if_pos (by decide)]
                          rw [Int.toNat_natCast, e4] at this
                          exact this)
                        by_cases hp : q.parent = x
                        · have z3 : ((q.parent : Int) == (x : Int)) = true := by simpa using (show (q.parent : Int) = x by omega)
                          clear e1 e2 e3 hp HQ
                          generalize q.parent = y at *
                          go_wp2_with fail
                          refine HLO.out.mono ?_
                          rintro e w6 ⟨rfl, rfl⟩
                          go_wp2
                          go_roundg og
                          case measure => omega
                          case rel => exact ⟨d + 1, by go_num, by omega, by omega, HSL3⟩
                        · have z3 : ((q.parent : Int) == (x : Int)) = false := by simpa using (show ¬ (q.parent : Int) = x by omega)
                          obtain ⟨g1, q2, g2, g3⟩ := HR2.out x q e1 e2 hp
                          have HQ2 : Hid (∃ q', T q.parent = some q' ∧ q'.kind = 1 ∧ rk q.parent + (st + 1) < 200) := Lib.hid ⟨q2, g2, g3, by omega⟩
                          clear e1 e2 e3 hp g1 g2 g3 HQ
                          generalize q.parent = y at *
                          go_wp2_with fail
                          refine HLO.out.mono ?_
                          rintro e w6 ⟨rfl, rfl⟩
                          go_wp2
                          go_roundg sg
                          case measure => omega
                          case rel => exact ⟨y, st + 1, rfl, by go_num, by omega, rfl, HQ2⟩
                  · have z5 : (m.kind == 1) = false := by simpa using hk
                    by_cases h1 : d = 1
                    case' pos =>
                      have hc3 := hc0 h1
                      rw [hc3] at q5 hlk
                      have z1 : ((d : Int) == 1) = true := by simp [h1]
                      clear hc1 hc0 hc3 hc8 y8 y9 h1 hk
                      go_upto_region 30 with fail
                      go_quiet (fail)
                      rename_i nq
                      go_upto_region 33 with fail
                    case' neg =>
                      have z1 : ((d : Int) == 1) = false := by simpa using (show ¬ (d : Int) = 1 by omega)
                      clear hc1 hc0 h1 hk
                      go_upto_region 30 with fail
                      go_quiet (fail)
                      rename_i nq
                      go_upto_region 33 with fail
                    all_goals
                      have hsl := HSL2.out.below (belowDrewN (Below.refl W5.heap.size W5) nq) HSL2.out.size
                      have q1' : (W5.drewN nq).cell? ⟨D, 1, none⟩ = some (.int .i64 m.kind) := q1
                      clear q0 q1 q5 hlk HSL2
                      generalize W5.drewN nq = W6 at *
                      have HSL3 := Lib.hid hsl
                      clear hsl
                      go_wp2_with fail
                      go_loopg [16, 17] 0 (fun g _ _ wr => g = 0 ∧ wr = W6)
                      case atStart => exact ⟨rfl, rfl⟩
                      case round =>
                        obtain ⟨_, rfl⟩ := hrel
                        go_wp2
                        go_roundg og
                        case measure => omega
                        case rel => exact ⟨d + 1, by go_num, by omega, by omega, HSL3⟩
              · obtain rfl : d = 201 := by omega
                clear hd
                go_wp2
                go_ret
                exact ⟨rfl, HB1.out.trans (HSL.out.bel.mono HB1.out.size)⟩
end Go.Proofs.Ytafonmnfeibaiaa
/- Ops that came in, opened. -/
namespace Go.Proofs.Ytafonmnfeibaiaa
open Go.ChangeShapes Go.WideShapes Go.ChangeAt Go.RowKit
open Go.Deep (open_slice)

theorem opCells9 : Try.prog.cellsOf 9 = 1 := by kernel_rfl
theorem opCells3 : Try.prog.cellsOf 3 = 1 := by kernel_rfl
theorem opCells : Try.prog.cellsOf 60 = 7 := by kernel_rfl
theorem op_drop {cs : List Value} {k : Nat} {v : Value} (h : (cs.drop k).take 1 = [v]) : cs[k]? = some v := by
  have := congrArg (fun l : List Value => l[0]?) h
  simpa using this
theorem op_wf {a : Int} (h : (Lit.int .i64 a).wf = true) : -9223372036854775808 ≤ a ∧ a < 9223372036854775808 := by
  simp only [Lit.wf, Bool.and_eq_true, decide_eq_true_eq] at h
  exact ⟨h.1, by have := h.2; change a ≤ 9223372036854775807 at this; omega⟩
set_option maxHeartbeats 1000000 in
theorem op_int {H : Type} {enc : TypeId × Value → H} {W : World} {sp : Nat → Bool} {n : Nat} {cs : List Value} {xs : List (DataW H × List MemPlace)} {k : Nat} {y : DataW H × List MemPlace} (h : DataW.trod enc Try.prog W 0 sp true n 3 ((cs.drop k).take (Try.prog.cellsOf 3)) = some y) (_hx : xs[k]? = some y) : ∃ v : Int, cs[k]? = some (.int .i64 v) ∧ -9223372036854775808 ≤ v ∧ v < 9223372036854775808 := by
  rw [opCells3] at h
  obtain ⟨v, e, _, hw⟩ := DataW.trod_int Try.underlying3 h
  exact ⟨v, op_drop e, op_wf hw⟩
theorem op_str {H : Type} {enc : TypeId × Value → H} {W : World} {sp : Nat → Bool} {n : Nat} {cs : List Value} {xs : List (DataW H × List MemPlace)} {k : Nat} {y : DataW H × List MemPlace} (h : DataW.trod enc Try.prog W 0 sp true n 9 ((cs.drop k).take (Try.prog.cellsOf 9)) = some y) (_hx : xs[k]? = some y) : ∃ s : ByteArray, cs[k]? = some (.string s) := by
  rw [opCells9] at h
  obtain ⟨s, e, _, _⟩ := DataW.trod_string Try.underlying9 h
  exact ⟨s, op_drop e⟩
set_option maxHeartbeats 1000000 in
theorem op_opened {H : Type} {enc : TypeId × Value → H} {W : World} {sp : Nat → Bool} {fuel : Nat} {cs : List Value} {x : DataW H × List MemPlace} (h : DataW.trod enc Try.prog W 0 sp true fuel 60 cs = some x) :
    ∃ (K oa ob oc od : Int) (s u : ByteArray), -9223372036854775808 ≤ ob ∧ ob < 9223372036854775808 ∧ ∀ i, i < 7 → cs[i]? = (opC K oa ob oc od s u)[i]? := by
  obtain ⟨xs, n, _, rfl, hl, hlen, hf⟩ := DataW.trod_struct Try.underlying60 h
  have hx : ∀ i, i < 7 → ∃ y, xs[i]? = some y := fun i hi => ⟨_, List.getElem?_eq_getElem (by rw [hlen]; exact hi)⟩
  obtain ⟨y0, e0⟩ := hx 0 (by decide)
  obtain ⟨y1, e1⟩ := hx 1 (by decide)
  obtain ⟨y2, e2⟩ := hx 2 (by decide)
  obtain ⟨y3, e3⟩ := hx 3 (by decide)
  obtain ⟨y4, e4⟩ := hx 4 (by decide)
  obtain ⟨y5, e5⟩ := hx 5 (by decide)
  obtain ⟨y6, e6⟩ := hx 6 (by decide)
  obtain ⟨K, c0, _⟩ := op_int ((hf 0 _ rfl).trans e0) e0
  obtain ⟨oa, c1, _⟩ := op_int ((hf 1 _ rfl).trans e1) e1
  obtain ⟨ob, c2, h1, h2⟩ := op_int ((hf 2 _ rfl).trans e2) e2
  obtain ⟨oc, c3, _⟩ := op_int ((hf 3 _ rfl).trans e3) e3
  obtain ⟨od, c4, _⟩ := op_int ((hf 4 _ rfl).trans e4) e4
  obtain ⟨s, c5⟩ := op_str ((hf 5 _ rfl).trans e5) e5
  obtain ⟨u, c6⟩ := op_str ((hf 6 _ rfl).trans e6) e6
  refine ⟨K, oa, ob, oc, od, s, u, h1, h2, fun i hi => ?_⟩
  obtain rfl | rfl | rfl | rfl | rfl | rfl | rfl : i = 0 ∨ i = 1 ∨ i = 2 ∨ i = 3 ∨ i = 4 ∨ i = 5 ∨ i = 6 := by omega
  · exact c0
  · exact c1
  · exact c2
  · exact c3
  · exact c4
  · exact c5
  · exact c6
theorem op_add (b o j : Nat) : (⟨b, o, none⟩ : Addr).add j = ⟨b, o + j, none⟩ := by
  cases j <;> rfl
theorem op_cells_get {W : World} {a : Addr} {n : Nat} {cs : List Value} (h : W.cells? 0 a n = some cs) (i : Nat) (hi : i < n) : W.cell? (a.add i) = cs[i]? := by
  unfold World.cells? at h
  rw [if_pos (Nat.zero_le _)] at h
  exact mapM_some_get h i i (by simp [hi])
theorem ops_of {H : Type} {enc : TypeId × Value → H} {W : World} {a : Option Addr} {len cap : Nat} {d : DataW H} {p : List MemPlace} (h : ∃ n, DataW.trod enc Try.prog W 0 (fun _ => true) true n 56 (Value.cells (.slice a len cap)).toList = some (d, p)) :
    len ≤ maxLen ∧ OpsAt W W.heap.size a len := by
  obtain ⟨fuel, hf⟩ := h
  rcases open_slice Try.underlying56 hf with ⟨hcs, _⟩ | ⟨x, l, c, m, nn, D, Pl, hcs, _, hl, hm, hz, _, hel⟩
  · simp [Value.cells] at hcs
    obtain ⟨rfl, rfl, rfl⟩ := hcs
    exact ⟨Nat.zero_le _, fun j hj => absurd hj (Nat.not_lt_zero j)⟩
  · simp [Value.cells] at hcs
    obtain ⟨rfl, rfl, rfl⟩ := hcs
    simp only [if_true] at hz
    have each : ∀ j, j < len → ∃ (K oa ob oc od : Int) (s u : ByteArray), -9223372036854775808 ≤ ob ∧ ob < 9223372036854775808 ∧ ∀ i, i < 7 → W.cell? ((x.add (j * 7)).add i) = (opC K oa ob oc od s u)[i]? := fun j hj => by
      obtain ⟨cs', h1, h2⟩ := hel j (by omega)
      rw [opCells] at h1
      obtain ⟨K, oa, ob, oc, od, s, u, e1, e2, e3⟩ := op_opened h2
      exact ⟨K, oa, ob, oc, od, s, u, e1, e2, fun i hi => (op_cells_get h1 i hi).trans (e3 i hi)⟩
    refine ⟨by omega, fun j hj => ?_⟩
    obtain ⟨b, off, spot⟩ := x
    obtain ⟨K0, _, _, _, _, _, _, _, _, g0⟩ := each 0 (by omega)
    have h00 : W.cell? (((⟨b, off, spot⟩ : Addr).add (0 * 7)).add 0) = some (.int .i64 K0) := g0 0 (by decide)
    have hspot : spot = none := by simpa [Addr.add] using World.cell?_spot h00
    subst hspot
    obtain ⟨K, oa, ob, oc, od, s, u, e1, e2, e3⟩ := each j hj
    have q : ∀ i, i < 7 → W.cell? ⟨b, off + j * 7 + i, none⟩ = (opC K oa ob oc od s u)[i]? := fun i hi => by
      have := e3 i hi
      rw [op_add, op_add] at this
      exact this
    have q0 : W.cell? ⟨b, off + j * 7, none⟩ = some (.int .i64 K) := q 0 (by decide)
    exact ⟨b, off, K, oa, ob, oc, od, s, u, rfl, World.block_lt_of_cell? W ⟨b, off + j * 7, none⟩ q0, e1, e2, q0, q 1 (by decide), q 2 (by decide), q 3 (by decide), q 4 (by decide), q 5 (by decide), q 6 (by decide)⟩
end Go.Proofs.Ytafonmnfeibaiaa
namespace Go.Proofs.Ytafonmnfeibaiaa.inodeSound
open Go.ChangeShapes Go.WideShapes Go.ChangeAt Go.RowKit
open Go.ChangeMaps (open_string shut_string)
set_option linter.unusedVariables false

theorem own : ownKnob Try.prog.godebug = none := by kernel_rfl
theorem laidOut : laidOutB Try.prog = true := by kernel_rfl

set_option maxRecDepth 100000 in
theorem lifted (os : Os) (started : os.Started) (H : Type) (enc : TypeId × Value → H) :
    ReturnsInHanded {} Try.checked os 6 .any (Rows.inodeSoundSpec.pre6 enc Try.prog Try.f6 Rows.inodeSoundRow.domain false) (Rows.inodeSoundSpec.post enc Try.prog Try.f6 false true false false) := by
  refine returnsInHanded_of_change (C := Try.checked) own started (by kernel_rfl) Try.func6
    (ChangeSpec.witness6 (enc := enc) (C := Try.checked) false ⟨#[], #[.slice none 0 0], []⟩ 8 (by kernel_rfl) (by kernel_rfl) (by kernel_rfl) (by kernel_rfl)) ?_
  intro W base args ds gs before hval0 hW hcnd _
  have hval : ∀ (j : Nat) t v, Try.f6.params[j]? = some t → args[j]? = some v → Value.okWide Try.prog W .any base t v := hval0
  have hW' := hW
  obtain ⟨p, q, hA0, hV, rfl, hfz, hnd⟩ := hW
  have hA : DataW.TrodAll enc Try.prog W 0 (fun _ => true) true Try.f6.params.toList args.toList ds p := hA0
  rw [Try.params6] at hA hval
  obtain ⟨v0, vs0, d0, ds0, p0, q0, hargs, rfl, rfl, h0, r0⟩ := trodAll_cons hA
  obtain ⟨rfl, rfl, rfl⟩ := trodAll_nil r0
  obtain rfl : args = #[v0] := by cases args; simp_all
  obtain ⟨rfl, rfl⟩ := trodVars_none hV
  obtain ⟨a0, len0, cap0, rfl⟩ := okWide_slice Try.underlying56 (hval 0 56 v0 rfl rfl)
  have lt0 : ∀ x ∈ p0, x.block < W.heap.size := by obtain ⟨m, hm⟩ := h0; exact DataW.trod_lt m _ _ _ hm
  obtain ⟨m0, w0⟩ := ops_of h0
  clear hA0 hval0
  refine (sound_any a0 len0 cap0 W m0 w0).mono fun e W' ⟨he, bel⟩ => ?_
  subst he
  exact ⟨_, rfl, _, _, _, [], _, [], hW', trodAll_mk1 (shut_bool Try.underlying4 _), (trodAll_cons_mk (Below.trod laidOut (by kernel_rfl) (of_decide_eq_true (by kernel_rfl)) h0 bel lt0) trodAll_mk0), rfl, bel.frame _, fun h => by cases h⟩

theorem over : Rows.inodeSoundRow.holds Try.pinned (OpenSpec.ofChange Rows.inodeSoundSpec) :=
  OpenClaim.holds_of_wide 6 Try.f6 rfl rfl rfl rfl rfl rfl rfl ⟨rfl, rfl, rfl, rfl, rfl⟩ rfl rfl rfl rfl rfl (by kernel_rfl) Try.func6 (by kernel_rfl)
    (of_decide_eq_true (by kernel_rfl)) (by unfold Func.isWrapper; first | (rw [if_pos (by decide +kernel)]; kernel_rfl) | (rw [if_neg (by decide +kernel)]; exact ⟨rfl, rfl⟩))
    (fun os started H enc _ => lifted os started H enc)

/-- The statement. -/
theorem proved : Rows.InodeSoundSaid :=
  over
#print axioms proved
end Go.Proofs.Ytafonmnfeibaiaa.inodeSound
