/-
  It is proved that InodePlays returns true for every input: whatever the root and whatever steps (a hundred and twenty at most), each call of the tree answers as the document's tree does, and each inode that is looked at reads as the document's.
  Conditions: none beyond the statement's own (the reading of the arguments; internal/bytealg.MaxLen is named, not read).
-/
import Derived.Test.YtafonmnfeibaiaaAll5
import Derived.Test.YtafonmnfeibaiaaAll0
import Derived.BigRegion
import Derived.RegionTactic
import Derived.Test.YtafonmnfeibaiaaAll3
import Derived.Laws.StructEq
import Derived.Test.YtafonmnfeibaiaaAll2
import Derived.Deep.QuietTactic
import Derived.BigQuiet
import Derived.WalkKit
import Derived.ProofKit
import Derived.OpenShut
import Derived.ChangeOld
import Derived.SliceStrings
import Derived.ChangeSlices
import Derived.Carry
import Derived.Deep.Slices
import Derived.ChangeArms
import Derived.DataReads
import Derived.Test.YtafonmnfeibaiaaRows
import Derived.ShutString
import Derived.Below
set_option linter.unusedSimpArgs false
set_option linter.unusedVariables false
namespace Go.Proofs.Ytafonmnfeibaiaa
open Go.RowKit

/-! ### walk: plainer, takes -/
theorem Stp.pre {w w1 w' : World} {t : Nat} {S S1 : Tab} {R : IT.Tr → Prop} (g : Mv w t S w1 S1) (s : Stp w1 t S1 R w') : Stp w t S R w' := by
  obtain ⟨S', T', h1, h2, h3⟩ := s
  exact ⟨S', T', g.trans h1, h2, h3⟩
theorem Stp.imp {w w' : World} {t : Nat} {S : Tab} {R R' : IT.Tr → Prop} (s : Stp w t S R w') (f : ∀ T', R T' → R' T') : Stp w t S R' w' := by
  obtain ⟨S', T', h1, h2, h3⟩ := s
  exact ⟨S', T', h1, h2, f T' h3⟩
theorem Stp.below {w w1 w' : World} {t : Nat} {S : Tab} {R : IT.Tr → Prop} (s : Stp w t S R w1) (hb : Below w1.heap.size w1 w') : Stp w t S R w' := by
  obtain ⟨S', T', h1, h2, h3⟩ := s
  exact ⟨S', T', h1.below hb, h2, h3⟩
/-- A mode without set-user-id. -/
def clr (m : Int) : Int := bits .andNot .i64 m 2048
def isPlainer (T : IT.Tr) (k : Nat) (T' : IT.Tr) : Prop := match T k with
  | none => T' = T
  | some m => ∃ r, IT.isSet rt T k (clr m.mode) m.owner m.group r T'
theorem isPlainer.sound {T T' : IT.Tr} {k : Nat} (h : isPlainer T k T') (hs : IT.Sound okN T) : IT.Sound okN T' := by
  unfold isPlainer at h
  split at h
  · exact h ▸ hs
  · obtain ⟨r, h⟩ := h
    exact h.sound hs
set_option maxRecDepth 100000 in
set_option maxHeartbeats 4000000 in
theorem plainer_any {w : World} {t : Nat} {S : Tab} {T : IT.Tr} (h : Tre w t S T) (ki : Int) :
    Calls Try.prog 45 #[.pointer (some ⟨t, 0, none⟩), .int .i64 ki] w fun e w' => e = .returned (.tuple #[]) ∧ Stp w t S (fun T' => isPlainer T ki.toNat T') w' := by
  have H := Lib.hid h
  cases hk : T ki.toNat with
  | none =>
    have HC : Hid (Calls Try.prog 14 #[.pointer (some ⟨t, 0, none⟩), .int .i64 ki] w fun e w' => e = .returned (.tuple #[noInfo, .bool false]) ∧ Below w.heap.size w w') := Lib.hid ((stat_any h ki).mono (by
      rintro e w' ⟨rfl, hb⟩
      refine ⟨?_, hb⟩
      rw [hk]; unfold statV; rw [hk]; rfl))
    have HK := Lib.hid hk
    clear h hk
    unfold noInfo at HC
    go_enter Try.func45, Try.ntmps45
    go_wp2_with fail
    refine HC.out.mono ?_
    rintro e w2 ⟨rfl, hb⟩
    have HB := Lib.hid hb
    clear hb
    go_wp2
    refine bodyPost_end (results_none rfl _ _ _) rfl ⟨rfl, Stp.keepB H.out (belowA HB.out _) ?_⟩
    unfold isPlainer
    rw [HK.out]
  | some m =>
    obtain ⟨d0, d1, d2, d3, d4, d5, d6, d7, hd⟩ : ∃ d0 d1 d2 d3 d4 d5 d6 d7 : Int, infC T ki.toNat m = #[.int .i64 d0, .int .i64 d1, .int .i64 d2, .int .i64 d3, .int .i64 d4, .int .i64 d5, .int .i64 d6, .int .i64 d7] := ⟨_, _, _, _, _, _, _, _, rfl⟩
    have HC : Hid (Calls Try.prog 14 #[.pointer (some ⟨t, 0, none⟩), .int .i64 ki] w fun e w' => e = .returned (.tuple #[.agg #[.int .i64 d0, .int .i64 d1, .int .i64 d2, .int .i64 d3, .int .i64 d4, .int .i64 d5, .int .i64 d6, .int .i64 d7], .bool true]) ∧ Below w.heap.size w w') := Lib.hid ((stat_any h ki).mono (by
      rintro e w' ⟨rfl, hb⟩
      refine ⟨?_, hb⟩
      rw [hk, ← stat_eq hk, hd]; rfl))
    have HK := Lib.hid hk
    have HI := Lib.hid (infC_inj hd)
    clear h hk hd
    go_enter Try.func45, Try.ntmps45
    go_wp2_with fail
    refine HC.out.mono ?_
    rintro e w2 ⟨rfl, hb⟩
    have HB := Lib.hid (belowA hb (.cells #[.int .i64 d0, .int .i64 d1, .int .i64 d2, .int .i64 d3, .int .i64 d4, .int .i64 d5, .int .i64 d6, .int .i64 d7] 35))
    clear hb HC
    go_wp2_with fail
    refine (set_any (H.out.mv ((Mv.refl H.out.rep).below HB.out)) _ _ _ _).mono ?_
    rintro e w3 ⟨r, rfl, hs⟩
    have HS := Lib.hid (Stp.pre ((Mv.refl H.out.rep).below HB.out) hs)
    clear hs
    go_wp2
    refine bodyPost_end (results_none rfl _ _ _) rfl ⟨rfl, HS.out.imp fun T' hT' => ?_⟩
    unfold isPlainer
    rw [HK.out]
    obtain ⟨e0, e1, e2, e3, e4, _, _, _⟩ := HI.out
    refine ⟨r, ?_⟩
    rw [e2, e3, e4]
    exact hT'
end Go.Proofs.Ytafonmnfeibaiaa
/- How far the holds of a tree go: a bound that each call keeps, or makes greater by one. Plain. -/
namespace Go.Proofs.Ytafonmnfeibaiaa
open Go.RowKit

theorem HB.mono {T : IT.Tr} {B B' : Nat} (h : HB T B) (hB : B ≤ B') : HB T B' := fun k m hk => Nat.le_trans (h k m hk) hB
theorem HB.upd {T : IT.Tr} {B : Nat} (h : HB T B) (k : Nat) {o : Option IT.Nd} (ho : ∀ m, o = some m → m.holds ≤ B) : HB (IT.upd T k o) B := fun j m hj => by
  by_cases e : j = k
  · subst e; rw [IT.upd_same] at hj; exact ho m hj
  · rw [IT.upd_other T o e] at hj; exact h j m hj
theorem alone_holds (j : Nat) (m : IT.Nd) : (IT.alone j m).holds = m.holds := by unfold IT.alone; split <;> rfl
theorem HB.rem {T : IT.Tr} {B : Nat} (h : HB T B) (i : Nat) : HB (IT.rem T i) B := fun j m hj => by
  unfold IT.rem at hj
  split at hj
  · cases hj
  · split at hj
    · exact h j m hj
    · obtain ⟨m0, h0, rfl⟩ := Option.map_eq_some_iff.1 hj
      rw [alone_holds]
      exact h j m0 h0
theorem HB.nf {T A : IT.Tr} (h : IT.NF T A) : ∀ {B : Nat}, HB T B → HB A B := by
  induction h with
  | done _ => exact fun hb => hb
  | step _ _ ih => exact fun hb => ih (hb.rem _)
theorem HB.make {T T' : IT.Tr} {B i : Nat} {kind m o g tty e : Int} (h : HB T B) (hB : 1 ≤ B) (hm : IT.isMake rt T kind m o g tty i e T') : HB T' B := by
  unfold IT.isMake at hm
  split at hm
  · exact hm.2.2 ▸ h
  · split at hm
    · exact hm.2.2 ▸ h
    · split at hm
      · exact hm.2.2 ▸ h
      · obtain ⟨_, _, _, _, _, rfl⟩ := hm
        exact h.upd _ (fun m hm => by cases hm; exact hB)
theorem HB.ent {T : IT.Tr} {B d x : Nat} {nm : IT.Bytes} {n m : IT.Nd} (h : HB T B) (hd : T d = some n) (hx : T x = some m) : HB (IT.entT T d x nm n m) B := by
  unfold IT.entT
  refine (h.upd _ (fun q hq => ?_)).upd _ (fun q hq => ?_)
  · cases hq; rw [IT.under_holds]; exact h x m hx
  · cases hq; exact h d n hd
theorem HB.enter {T T' : IT.Tr} {B d x : Nat} {nm : IT.Bytes} {e : Int} (h : HB T B) (hm : IT.isEnter okN T d nm x e T') : HB T' B := by
  unfold IT.isEnter at hm
  cases hd : T d with
  | none => rw [hd] at hm; exact hm.2 ▸ h
  | some n =>
    cases hx : T x with
    | none => rw [hd, hx] at hm; exact hm.2 ▸ h
    | some m =>
      rw [hd, hx] at hm
      dsimp only at hm
      repeat' split at hm
      all_goals first | exact hm.2 ▸ h | (rw [hm.2]; exact h.ent hd hx)
theorem HB.hold {T T' : IT.Tr} {B k : Nat} {r : Bool} (h : HB T B) (hm : IT.isHold T k r T') : HB T' (B + 1) := by
  unfold IT.isHold at hm
  cases hk : T k with
  | none => rw [hk] at hm; exact (hm.2 ▸ h).mono (Nat.le_succ B)
  | some n =>
    rw [hk] at hm
    dsimp only at hm
    rw [hm.2]
    exact (h.mono (Nat.le_succ B)).upd _ (fun q hq => by cases hq; exact Nat.succ_le_succ (h k n hk))
theorem HB.drop {T T' : IT.Tr} {B k : Nat} {r : Bool} (h : HB T B) (hm : IT.isDrop T k r T') : HB T' B := by
  unfold IT.isDrop at hm
  cases hk : T k with
  | none => rw [hk] at hm; exact hm.2 ▸ h
  | some n =>
    rw [hk] at hm
    dsimp only at hm
    split at hm
    · exact hm.2 ▸ h
    · exact HB.nf hm.2 (h.upd _ (fun q hq => by cases hq; exact Nat.le_trans (Nat.sub_le _ _) (h k n hk)))
theorem HB.set {T T' : IT.Tr} {B k : Nat} {m o g e : Int} (h : HB T B) (hm : IT.isSet rt T k m o g e T') : HB T' B := by
  unfold IT.isSet at hm
  cases hk : T k with
  | none => rw [hk] at hm; exact hm.2 ▸ h
  | some n =>
    rw [hk] at hm
    dsimp only at hm
    split at hm
    · exact hm.2 ▸ h
    · rw [hm.2]; exact h.upd _ (fun q hq => by cases hq; exact h k n hk)
theorem HB.put {T T' : IT.Tr} {B k : Nat} {a e : Int} {s : IT.Bytes} (h : HB T B) (hm : IT.isPut T k a s e T') : HB T' B := by
  unfold IT.isPut at hm
  cases hk : T k with
  | none => rw [hk] at hm; exact hm.2 ▸ h
  | some n =>
    rw [hk] at hm
    dsimp only at hm
    repeat' split at hm
    all_goals first | exact hm.2 ▸ h | (rw [hm.2]; exact h.upd _ (fun q hq => by cases hq; exact h k n hk))
theorem HB.cut {T T' : IT.Tr} {B k : Nat} {e : Int} (h : HB T B) (hm : IT.isCut T k e T') : HB T' B := by
  unfold IT.isCut at hm
  cases hk : T k with
  | none => rw [hk] at hm; exact hm.2 ▸ h
  | some n =>
    rw [hk] at hm
    dsimp only at hm
    repeat' split at hm
    all_goals first | exact hm.2 ▸ h | (rw [hm.2]; exact h.upd _ (fun q hq => by cases hq; exact h k n hk))
theorem HB.del' {T : IT.Tr} {B d x : Nat} {nm : IT.Bytes} {n m : IT.Nd} (h : HB T B) (hd : T d = some n) (hm : m.holds ≤ B) : HB (IT.delT T d x nm n m) B := by
  unfold IT.delT
  refine (h.upd _ (fun q hq => ?_)).upd _ (fun q hq => ?_)
  · cases hq; rw [alone_holds]; exact hm
  · cases hq; exact h d n hd
theorem HB.del {T : IT.Tr} {B d x : Nat} {nm : IT.Bytes} {n m : IT.Nd} (h : HB T B) (hd : T d = some n) (hx : T x = some m) : HB (IT.delT T d x nm n m) B := by
  unfold IT.delT
  refine (h.upd _ (fun q hq => ?_)).upd _ (fun q hq => ?_)
  · cases hq; rw [alone_holds]; exact h x m hx
  · cases hq; exact h d n hd
theorem HB.remove {T T' : IT.Tr} {B d : Nat} {nm : IT.Bytes} {e : Int} (h : HB T B) (hm : IT.isRemove T d nm e T') : HB T' B := by
  unfold IT.isRemove at hm
  cases hd : T d with
  | none => rw [hd] at hm; exact hm.2 ▸ h
  | some n =>
    rw [hd] at hm
    dsimp only at hm
    split at hm
    · exact hm.2 ▸ h
    · split at hm
      · exact hm.2 ▸ h
      · obtain ⟨m, hx, hm⟩ := hm
        split at hm
        · exact hm.2 ▸ h
        · exact HB.nf hm.2 (h.del hd hx)
theorem HB.move {T T' : IT.Tr} {B d b : Nat} {nm ar : IT.Bytes} {e : Int} (h : HB T B) (hm : IT.isMove okN T d nm b ar e T') : HB T' B := by
  unfold IT.isMove at hm
  cases hd : T d with
  | none => rw [hd] at hm; exact hm.2 ▸ h
  | some n =>
    cases hb : T b with
    | none => rw [hd, hb] at hm; exact hm.2 ▸ h
    | some q =>
      rw [hd, hb] at hm
      dsimp only at hm
      split at hm
      · exact hm.2 ▸ h
      · split at hm
        · exact hm.2 ▸ h
        · obtain ⟨m, hx, hm⟩ := hm
          split at hm
          · exact hm.2 ▸ h
          · split at hm
            · exact hm.2 ▸ h
            · split at hm
              · split at hm
                · exact hm.2 ▸ h
                · obtain ⟨_, q1, m1, h1, h2, rfl⟩ := hm
                  exact (h.del hd hx).ent h1 h2
              · split at hm
                · exact hm.2 ▸ h
                · obtain ⟨mw, hw, hm⟩ := hm
                  split at hm
                  · exact hm.2 ▸ h
                  · split at hm
                    · exact hm.2 ▸ h
                    · obtain ⟨_, q1, q2, m2, h1, h2, h3, hnf⟩ := hm
                      refine HB.nf hnf (HB.ent ?_ h2 h3)
                      exact HB.del' (h.del hd hx) h1 (h _ mw hw)
theorem HB.plainer {T T' : IT.Tr} {B k : Nat} (h : HB T B) (hm : isPlainer T k T') : HB T' B := by
  unfold isPlainer at hm
  split at hm
  · exact hm ▸ h
  · obtain ⟨r, hm⟩ := hm
    exact h.set hm
end Go.Proofs.Ytafonmnfeibaiaa
/- The program's tree and the document's, side by side. No walk in sight. -/
namespace Go.Proofs.Ytafonmnfeibaiaa
open Go.RowKit

theorem not_foot {w : World} {t : Nat} {S : Tab} (h : Rep w t S) {b : Nat} {C : Array Value} {T : TypeId} {f : Nat × Nat} (hh : w.heap[b]? = some (.cells C T f)) (h1 : T ≠ 71) (h2 : T ≠ 86) : ¬ foot S t b := by
  rintro (rfl | ⟨k, c, n, hk, rfl | hm⟩)
  · have e := hh.symm.trans h.tree
    simp only [Option.some.injEq, Obj.cells.injEq] at e
    exact h1 e.2.1
  · have e := hh.symm.trans (h.node k _ n hk)
    simp only [Option.some.injEq, Obj.cells.injEq] at e
    exact h2 e.2.1
  · obtain ⟨es, clock, e, _⟩ := h.map k c n _ hk hm
    rw [hh] at e; cases e
/-- Blocks that are neither tree's stay. -/
def Lay (w w' : World) : Prop := w.heap.size ≤ w'.heap.size ∧ ∀ (b : Nat) (C : Array Value) (T : TypeId) (f : Nat × Nat), w.heap[b]? = some (.cells C T f) → T ≠ 71 → T ≠ 86 → T ≠ 110 → w'.heap[b]? = some (.cells C T f)
theorem Lay.refl (w : World) : Lay w w := ⟨Nat.le_refl _, fun _ _ _ _ h _ _ _ => h⟩
theorem Lay.trans {a b c : World} (h : Lay a b) (g : Lay b c) : Lay a c := ⟨Nat.le_trans h.1 g.1, fun k C T f e h1 h2 h3 => g.2 k C T f (h.2 k C T f e h1 h2 h3) h1 h2 h3⟩
theorem Lay.below {w w' : World} (h : Below w.heap.size w w') : Lay w w' := ⟨h.size, fun b C T f e _ _ _ => (h.block b (lt_of_heap e)).trans e⟩
theorem RF.Rf.mv {w w' : World} {t r B : Nat} {S S' : Tab} {G : RF.Gt} (h : RF.Rf w r B G) (hr : Rep w t S) (g : Mv w t S w' S') : RF.Rf w' r B G :=
  ⟨(g.block r h.ltT (not_foot hr h.tree (by decide) (by decide))).trans h.tree, (g.block B h.ltB (not_foot hr h.row (by decide) (by decide))).trans h.row,
    fun k hk => (h.ents k hk).same fun g0 _ _ hg => g.block g0 (lt_of_heap hg) (not_foot hr hg (by decide) (by decide))⟩
theorem Rep.mo {w w' : World} {t r B : Nat} {S : Tab} {G : RF.Gt} (h : Rep w t S) (hr : RF.Rf w r B G) (g : RF.Mo B w w') : Rep w' t S :=
  h.same fun b hb => g.block b (h.foot_lt hb) (fun e => not_foot h hr.row (by decide) (by decide) (e ▸ hb))
/-- Both trees, the call's own from n0 on. -/
structure Duo (n0 : Nat) (w0 w : World) (t : Nat) (S : Tab) (T : IT.Tr) (r B : Nat) (G : RF.Gt) (T2 : IT.Tr) : Prop where
  a : Tro n0 w0 w t S T
  b : RF.Trf w r B G T2
  le : n0 ≤ B
theorem Duo.below {n0 : Nat} {w0 w w' : World} {t : Nat} {S : Tab} {T : IT.Tr} {r B : Nat} {G : RF.Gt} {T2 : IT.Tr} (h : Duo n0 w0 w t S T r B G T2) (hb : Below w.heap.size w w') : Duo n0 w0 w' t S T r B G T2 :=
  ⟨h.a.below hb, ⟨h.b.rep.below hb, h.b.ties, h.b.snd⟩, h.le⟩
theorem Duo.stp {n0 : Nat} {w0 w w' : World} {t : Nat} {S : Tab} {T : IT.Tr} {r B : Nat} {G : RF.Gt} {T2 : IT.Tr} (h : Duo n0 w0 w t S T r B G T2) {R : IT.Tr → Prop} (g : Stp w t S R w') (hR : ∀ T', R T' → IT.Sound okN T') : ∃ S' T', Duo n0 w0 w' t S' T' r B G T2 ∧ R T' ∧ Lay w w' := by
  obtain ⟨S', T', g1, g2, g3⟩ := h.a.stp g hR
  exact ⟨S', T', ⟨g1, ⟨h.b.rep.mv h.a.own.rep g3, h.b.ties, h.b.snd⟩, h.le⟩, g2, g3.size, fun b C T f e h1 h2 _ => (g3.block b (lt_of_heap e) (not_foot h.a.own.rep e h1 h2)).trans e⟩
theorem Duo.stf {n0 : Nat} {w0 w w' : World} {t : Nat} {S : Tab} {T : IT.Tr} {r B : Nat} {G : RF.Gt} {T2 : IT.Tr} (h : Duo n0 w0 w t S T r B G T2) {R : IT.Tr → Prop} (g : RF.Stf w r B R w') (hR : ∀ T', R T' → IT.Sound okN T') : ∃ G' T', Duo n0 w0 w' t S T r B G' T' ∧ R T' ∧ Lay w w' := by
  obtain ⟨G', T', g1, g2, g3, g4⟩ := g
  refine ⟨G', T', ⟨⟨⟨h.a.own.rep.mo h.b.rep g1, h.a.own.below.trans ⟨g1.os, g1.tape, g1.output, g1.size, fun b hb => g1.block b (Nat.lt_of_lt_of_le hb h.a.own.le) (by have := h.le; omega)⟩, Nat.le_trans h.a.own.le g1.size, h.a.own.own⟩, h.a.ties, h.a.snd⟩, ⟨g2, g3, hR T' g4⟩, h.le⟩, g4, g1.size, fun b C T f e _ _ h3 => (g1.block b (lt_of_heap e) (fun e2 => ?_)).trans e⟩
  subst e2
  have e3 := e.symm.trans h.b.rep.row
  simp only [Option.some.injEq, Obj.cells.injEq] at e3
  exact h3 e3.2.1
end Go.Proofs.Ytafonmnfeibaiaa
namespace Go.Proofs.Ytafonmnfeibaiaa
open Go.RowKit

def opC (K oa ob oc od : Int) (s u : ByteArray) : Array Value := #[.int .i64 K, .int .i64 oa, .int .i64 ob, .int .i64 oc, .int .i64 od, .string s, .string u]
theorem op_cells {W : World} {b : Nat} {K oa ob oc od : Int} {s u : ByteArray} (h : W.heap[b]? = some (.cells (opC K oa ob oc od s u) 60 (0, 0))) : W.cell? ⟨b, 0, none⟩ = some (.int .i64 K) ∧ W.cell? ⟨b, 1, none⟩ = some (.int .i64 oa) ∧ W.cell? ⟨b, 2, none⟩ = some (.int .i64 ob) ∧ W.cell? ⟨b, 3, none⟩ = some (.int .i64 oc) ∧ W.cell? ⟨b, 4, none⟩ = some (.int .i64 od) ∧ W.cell? ⟨b, 5, none⟩ = some (.string s) ∧ W.cell? ⟨b, 6, none⟩ = some (.string u) :=
  ⟨cell_of h 0, cell_of h 1, cell_of h 2, cell_of h 3, cell_of h 4, cell_of h 5, cell_of h 6⟩
/-- Each has done it. -/
def Did {ρ : Type} (n0 : Nat) (w0 w : World) (t : Nat) (r B : Nat) (R1 R2 : ρ → IT.Tr → Prop) (v : Value) (w' : World) : Prop := ∃ p q S' T' G' T2', (v = .bool true ↔ p = q) ∧ (∃ b, v = .bool b) ∧ Duo n0 w0 w' t S' T' r B G' T2' ∧ R1 p T' ∧ R2 q T2' ∧ Lay w w'
set_option maxRecDepth 100000 in
set_option maxHeartbeats 4000000 in
theorem does_hold {n0 : Nat} {w0 w : World} {t : Nat} {S : Tab} {T : IT.Tr} {r B : Nat} {G : RF.Gt} {T2 : IT.Tr} (h : Duo n0 w0 w t S T r B G T2) (hb : HB T 1000000) (hb2 : HB T2 1000000) (oa ob oc od : Int) (s u : ByteArray) :
    Calls Try.prog 29 #[.pointer (some ⟨t, 0, none⟩), .pointer (some ⟨r, 0, none⟩), .agg #[.int .i64 2, .int .i64 oa, .int .i64 ob, .int .i64 oc, .int .i64 od, .string s, .string u]] w fun e w' => ∃ v, e = .returned v ∧ Did n0 w0 w t r B (fun p T' => IT.isHold T oa.toNat p T') (fun p T' => IT.isHold T2 oa.toNat p T') v w' := by
  have HD0 := Lib.hid (h.below ((Below.refl _ _).alloc (Nat.le_refl _) (.cells (opC 2 oa ob oc od s u) 60)))
  have HO0 := Lib.hid (alloc_heap w (.cells (opC 2 oa ob oc od s u) 60))
  have HL0 := Lib.hid (Lay.below ((Below.refl w.heap.size w).alloc (Nat.le_refl _) (.cells (opC 2 oa ob oc od s u) 60)))
  have hWW : w.alloc (.cells (opC 2 oa ob oc od s u) 60) = w.alloc (.cells #[.int .i64 2, .int .i64 oa, .int .i64 ob, .int .i64 oc, .int .i64 od, .string s, .string u] 60) := rfl
  rw [hWW] at HD0 HO0 HL0
  clear h hWW
  go_enter Try.func29, Try.ntmps29
  go_upto_region 1 with fail
  generalize w.alloc (.cells #[.int .i64 2, .int .i64 oa, .int .i64 ob, .int .i64 oc, .int .i64 od, .string s, .string u] 60) = W at *
  obtain ⟨b5, hb5⟩ : ∃ b5, w.heap.size = b5 := ⟨_, rfl⟩
  rw [hb5] at HO0 ⊢
  clear hb5
  have HD := HD0
  have HO := HO0
  have HL := HL0
  clear HD0 HO0 HL0
  obtain ⟨o0, o1, o2, o3, o4, o5, o6⟩ := op_cells HO.out
  have KP : ∀ W' : World, W'.heap[b5]? = some (.cells (opC 2 oa ob oc od s u) 60 (0, 0)) → (W'.cell? ⟨b5, 0, none⟩ = some (.int .i64 2) ∧ W'.cell? ⟨b5, 1, none⟩ = some (.int .i64 oa) ∧ W'.cell? ⟨b5, 2, none⟩ = some (.int .i64 ob) ∧ W'.cell? ⟨b5, 3, none⟩ = some (.int .i64 oc) ∧ W'.cell? ⟨b5, 4, none⟩ = some (.int .i64 od) ∧ W'.cell? ⟨b5, 5, none⟩ = some (.string s) ∧ W'.cell? ⟨b5, 6, none⟩ = some (.string u)) := fun W' hh => op_cells hh
  go_upto_region 7 with fail
  go_region_held3 (fun W' => W'.cell? ⟨b5, 0, none⟩ = some (.int .i64 2) ∧ W'.cell? ⟨b5, 1, none⟩ = some (.int .i64 oa) ∧ W'.cell? ⟨b5, 2, none⟩ = some (.int .i64 ob) ∧ W'.cell? ⟨b5, 3, none⟩ = some (.int .i64 oc) ∧ W'.cell? ⟨b5, 4, none⟩ = some (.int .i64 od) ∧ W'.cell? ⟨b5, 5, none⟩ = some (.string s) ∧ W'.cell? ⟨b5, 6, none⟩ = some (.string u))
    (first | (refine KP _ ?_; first | with_reducible exact HO.out | exact ho2 | exact ho1 | exact HO.out))
    (first
      | (go_at_call 43; refine (hold_any (HD.out.below (Below.refl _ _).drew).a.tre hb oa).mono ?_; rintro e w2 ⟨p, rfl, hs⟩; obtain ⟨S1, T1, hd1, hr1, hl1⟩ := (HD.out.below (Below.refl _ _).drew).stp hs (fun _ hh => IT.isHold.sound hh (HD.out.below (Below.refl _ _).drew).a.snd); have ho1 := hl1.2 _ _ _ _ HO.out (by decide) (by decide) (by decide))
      | (go_at_call 59; refine (RF.rf_hold hd1.b hb2 oa).mono ?_; rintro e w3 ⟨q, rfl, hs2⟩; obtain ⟨G1, T3, hd2, hr2, hl2⟩ := hd1.stf hs2 (fun _ hh => IT.isHold.sound hh hd1.b.snd); have ho2 := hl2.2 _ _ _ _ ho1 (by decide) (by decide) (by decide))
      | (go_at_call 59; refine (RF.rf_hold (HD.out.below (Below.refl _ _).drew).b hb2 oa).mono ?_; rintro e w2 ⟨q, rfl, hs⟩; obtain ⟨G1, T3, hd1, hr2, hl1⟩ := (HD.out.below (Below.refl _ _).drew).stf hs (fun _ hh => IT.isHold.sound hh (HD.out.below (Below.refl _ _).drew).b.snd); have ho1 := hl1.2 _ _ _ _ HO.out (by decide) (by decide) (by decide))
      | (go_at_call 43; refine (hold_any hd1.a.tre hb oa).mono ?_; rintro e w3 ⟨p, rfl, hs2⟩; obtain ⟨S1, T1, hd2, hr1, hl2⟩ := hd1.stp hs2 (fun _ hh => IT.isHold.sound hh hd1.a.snd); have ho2 := hl2.2 _ _ _ _ ho1 (by decide) (by decide) (by decide)))
  all_goals
    have hfin : Hid (Did n0 w0 w t r B (fun p T' => IT.isHold T oa.toNat p T') (fun p T' => IT.isHold T2 oa.toNat p T') (.bool (p == q)) w3) := Lib.hid ⟨p, q, S1, T1, G1, T3, by simp, ⟨_, rfl⟩, hd2, hr1, hr2, HL.out.trans ((Lay.below (Below.refl _ _).drew).trans (hl1.trans hl2))⟩
    clear hd1 hd2 hr1 hr2 hl1 hl2 ho1 ho2
    go_wp2
    go_ret
    exact ⟨_, rfl, hfin.out⟩
set_option maxRecDepth 100000 in
set_option maxHeartbeats 4000000 in
theorem does_drop {n0 : Nat} {w0 w : World} {t : Nat} {S : Tab} {T : IT.Tr} {r B : Nat} {G : RF.Gt} {T2 : IT.Tr} (h : Duo n0 w0 w t S T r B G T2) (hb : HB T 1000000) (hb2 : HB T2 1000000) (oa ob oc od : Int) (s u : ByteArray) :
    Calls Try.prog 29 #[.pointer (some ⟨t, 0, none⟩), .pointer (some ⟨r, 0, none⟩), .agg #[.int .i64 3, .int .i64 oa, .int .i64 ob, .int .i64 oc, .int .i64 od, .string s, .string u]] w fun e w' => ∃ v, e = .returned v ∧ Did n0 w0 w t r B (fun p T' => IT.isDrop T oa.toNat p T') (fun p T' => IT.isDrop T2 oa.toNat p T') v w' := by
  have HD0 := Lib.hid (h.below ((Below.refl _ _).alloc (Nat.le_refl _) (.cells (opC 3 oa ob oc od s u) 60)))
  have HO0 := Lib.hid (alloc_heap w (.cells (opC 3 oa ob oc od s u) 60))
  have HL0 := Lib.hid (Lay.below ((Below.refl w.heap.size w).alloc (Nat.le_refl _) (.cells (opC 3 oa ob oc od s u) 60)))
  have hWW : w.alloc (.cells (opC 3 oa ob oc od s u) 60) = w.alloc (.cells #[.int .i64 3, .int .i64 oa, .int .i64 ob, .int .i64 oc, .int .i64 od, .string s, .string u] 60) := rfl
  rw [hWW] at HD0 HO0 HL0
  clear h hWW
  go_enter Try.func29, Try.ntmps29
  go_upto_region 1 with fail
  generalize w.alloc (.cells #[.int .i64 3, .int .i64 oa, .int .i64 ob, .int .i64 oc, .int .i64 od, .string s, .string u] 60) = W at *
  obtain ⟨b5, hb5⟩ : ∃ b5, w.heap.size = b5 := ⟨_, rfl⟩
  rw [hb5] at HO0 ⊢
  clear hb5
  have HD := HD0
  have HO := HO0
  have HL := HL0
  clear HD0 HO0 HL0
  obtain ⟨o0, o1, o2, o3, o4, o5, o6⟩ := op_cells HO.out
  have KP : ∀ W' : World, W'.heap[b5]? = some (.cells (opC 3 oa ob oc od s u) 60 (0, 0)) → (W'.cell? ⟨b5, 0, none⟩ = some (.int .i64 3) ∧ W'.cell? ⟨b5, 1, none⟩ = some (.int .i64 oa) ∧ W'.cell? ⟨b5, 2, none⟩ = some (.int .i64 ob) ∧ W'.cell? ⟨b5, 3, none⟩ = some (.int .i64 oc) ∧ W'.cell? ⟨b5, 4, none⟩ = some (.int .i64 od) ∧ W'.cell? ⟨b5, 5, none⟩ = some (.string s) ∧ W'.cell? ⟨b5, 6, none⟩ = some (.string u)) := fun W' hh => op_cells hh
  go_upto_region 9 with fail
  go_region_held3 (fun W' => W'.cell? ⟨b5, 0, none⟩ = some (.int .i64 3) ∧ W'.cell? ⟨b5, 1, none⟩ = some (.int .i64 oa) ∧ W'.cell? ⟨b5, 2, none⟩ = some (.int .i64 ob) ∧ W'.cell? ⟨b5, 3, none⟩ = some (.int .i64 oc) ∧ W'.cell? ⟨b5, 4, none⟩ = some (.int .i64 od) ∧ W'.cell? ⟨b5, 5, none⟩ = some (.string s) ∧ W'.cell? ⟨b5, 6, none⟩ = some (.string u))
    (first | (refine KP _ ?_; first | with_reducible exact HO.out | exact ho2 | exact ho1 | exact HO.out))
    (first
      | (go_at_call 39; refine (drop_any (HD.out.below (Below.refl _ _).drew).a.tre hb oa).mono ?_; rintro e w2 ⟨p, rfl, hs⟩; obtain ⟨S1, T1, hd1, hr1, hl1⟩ := (HD.out.below (Below.refl _ _).drew).stp hs (fun _ hh => IT.isDrop.sound hh (HD.out.below (Below.refl _ _).drew).a.snd); have ho1 := hl1.2 _ _ _ _ HO.out (by decide) (by decide) (by decide))
      | (go_at_call 60; refine (RF.rf_drop hd1.b hb2 oa).mono ?_; rintro e w3 ⟨q, rfl, hs2⟩; obtain ⟨G1, T3, hd2, hr2, hl2⟩ := hd1.stf hs2 (fun _ hh => IT.isDrop.sound hh hd1.b.snd); have ho2 := hl2.2 _ _ _ _ ho1 (by decide) (by decide) (by decide))
      | (go_at_call 60; refine (RF.rf_drop (HD.out.below (Below.refl _ _).drew).b hb2 oa).mono ?_; rintro e w2 ⟨q, rfl, hs⟩; obtain ⟨G1, T3, hd1, hr2, hl1⟩ := (HD.out.below (Below.refl _ _).drew).stf hs (fun _ hh => IT.isDrop.sound hh (HD.out.below (Below.refl _ _).drew).b.snd); have ho1 := hl1.2 _ _ _ _ HO.out (by decide) (by decide) (by decide))
      | (go_at_call 39; refine (drop_any hd1.a.tre hb oa).mono ?_; rintro e w3 ⟨p, rfl, hs2⟩; obtain ⟨S1, T1, hd2, hr1, hl2⟩ := hd1.stp hs2 (fun _ hh => IT.isDrop.sound hh hd1.a.snd); have ho2 := hl2.2 _ _ _ _ ho1 (by decide) (by decide) (by decide)))
  all_goals
    have hfin : Hid (Did n0 w0 w t r B (fun p T' => IT.isDrop T oa.toNat p T') (fun p T' => IT.isDrop T2 oa.toNat p T') (.bool (p == q)) w3) := Lib.hid ⟨p, q, S1, T1, G1, T3, by simp, ⟨_, rfl⟩, hd2, hr1, hr2, HL.out.trans ((Lay.below (Below.refl _ _).drew).trans (hl1.trans hl2))⟩
    clear hd1 hd2 hr1 hr2 hl1 hl2 ho1 ho2
    go_wp2
    go_ret
    exact ⟨_, rfl, hfin.out⟩
set_option maxRecDepth 100000 in
set_option maxHeartbeats 4000000 in
theorem does_set {n0 : Nat} {w0 w : World} {t : Nat} {S : Tab} {T : IT.Tr} {r B : Nat} {G : RF.Gt} {T2 : IT.Tr} (h : Duo n0 w0 w t S T r B G T2) (oa ob oc od : Int) (s u : ByteArray) (hm : ob < 9223372036854775808) :
    Calls Try.prog 29 #[.pointer (some ⟨t, 0, none⟩), .pointer (some ⟨r, 0, none⟩), .agg #[.int .i64 4, .int .i64 oa, .int .i64 ob, .int .i64 oc, .int .i64 od, .string s, .string u]] w fun e w' => ∃ v, e = .returned v ∧ Did n0 w0 w t r B (fun p T' => IT.isSet rt T oa.toNat ob oc od p T') (fun p T' => IT.isSet rt T2 oa.toNat ob oc od p T') v w' := by
  have HD0 := Lib.hid (h.below ((Below.refl _ _).alloc (Nat.le_refl _) (.cells (opC 4 oa ob oc od s u) 60)))
  have HO0 := Lib.hid (alloc_heap w (.cells (opC 4 oa ob oc od s u) 60))
  have HL0 := Lib.hid (Lay.below ((Below.refl w.heap.size w).alloc (Nat.le_refl _) (.cells (opC 4 oa ob oc od s u) 60)))
  have hWW : w.alloc (.cells (opC 4 oa ob oc od s u) 60) = w.alloc (.cells #[.int .i64 4, .int .i64 oa, .int .i64 ob, .int .i64 oc, .int .i64 od, .string s, .string u] 60) := rfl
  rw [hWW] at HD0 HO0 HL0
  clear h hWW
  go_enter Try.func29, Try.ntmps29
  go_upto_region 1 with fail
  generalize w.alloc (.cells #[.int .i64 4, .int .i64 oa, .int .i64 ob, .int .i64 oc, .int .i64 od, .string s, .string u] 60) = W at *
  obtain ⟨b5, hb5⟩ : ∃ b5, w.heap.size = b5 := ⟨_, rfl⟩
  rw [hb5] at HO0 ⊢
  clear hb5
  have HD := HD0
  have HO := HO0
  have HL := HL0
  clear HD0 HO0 HL0
  obtain ⟨o0, o1, o2, o3, o4, o5, o6⟩ := op_cells HO.out
  have KP : ∀ W' : World, W'.heap[b5]? = some (.cells (opC 4 oa ob oc od s u) 60 (0, 0)) → (W'.cell? ⟨b5, 0, none⟩ = some (.int .i64 4) ∧ W'.cell? ⟨b5, 1, none⟩ = some (.int .i64 oa) ∧ W'.cell? ⟨b5, 2, none⟩ = some (.int .i64 ob) ∧ W'.cell? ⟨b5, 3, none⟩ = some (.int .i64 oc) ∧ W'.cell? ⟨b5, 4, none⟩ = some (.int .i64 od) ∧ W'.cell? ⟨b5, 5, none⟩ = some (.string s) ∧ W'.cell? ⟨b5, 6, none⟩ = some (.string u)) := fun W' hh => op_cells hh
  go_upto_region 11 with fail
  go_region_held3 (fun W' => W'.cell? ⟨b5, 0, none⟩ = some (.int .i64 4) ∧ W'.cell? ⟨b5, 1, none⟩ = some (.int .i64 oa) ∧ W'.cell? ⟨b5, 2, none⟩ = some (.int .i64 ob) ∧ W'.cell? ⟨b5, 3, none⟩ = some (.int .i64 oc) ∧ W'.cell? ⟨b5, 4, none⟩ = some (.int .i64 od) ∧ W'.cell? ⟨b5, 5, none⟩ = some (.string s) ∧ W'.cell? ⟨b5, 6, none⟩ = some (.string u))
    (first | (refine KP _ ?_; first | with_reducible exact HO.out | exact ho2 | exact ho1 | exact HO.out))
    (first
      | (go_at_call 61; refine (set_any (HD.out.below (Below.refl _ _).drew).a.tre oa ob oc od).mono ?_; rintro e w2 ⟨p, rfl, hs⟩; obtain ⟨S1, T1, hd1, hr1, hl1⟩ := (HD.out.below (Below.refl _ _).drew).stp hs (fun _ hh => IT.isSet.sound hh (HD.out.below (Below.refl _ _).drew).a.snd); have ho1 := hl1.2 _ _ _ _ HO.out (by decide) (by decide) (by decide))
      | (go_at_call 62; refine (RF.rf_set hd1.b oa ob oc od hm).mono ?_; rintro e w3 ⟨q, rfl, hs2⟩; obtain ⟨G1, T3, hd2, hr2, hl2⟩ := hd1.stf hs2 (fun _ hh => IT.isSet.sound hh hd1.b.snd); have ho2 := hl2.2 _ _ _ _ ho1 (by decide) (by decide) (by decide))
      | (go_at_call 62; refine (RF.rf_set (HD.out.below (Below.refl _ _).drew).b oa ob oc od hm).mono ?_; rintro e w2 ⟨q, rfl, hs⟩; obtain ⟨G1, T3, hd1, hr2, hl1⟩ := (HD.out.below (Below.refl _ _).drew).stf hs (fun _ hh => IT.isSet.sound hh (HD.out.below (Below.refl _ _).drew).b.snd); have ho1 := hl1.2 _ _ _ _ HO.out (by decide) (by decide) (by decide))
      | (go_at_call 61; refine (set_any hd1.a.tre oa ob oc od).mono ?_; rintro e w3 ⟨p, rfl, hs2⟩; obtain ⟨S1, T1, hd2, hr1, hl2⟩ := hd1.stp hs2 (fun _ hh => IT.isSet.sound hh hd1.a.snd); have ho2 := hl2.2 _ _ _ _ ho1 (by decide) (by decide) (by decide)))
  all_goals
    have hfin : Hid (Did n0 w0 w t r B (fun p T' => IT.isSet rt T oa.toNat ob oc od p T') (fun p T' => IT.isSet rt T2 oa.toNat ob oc od p T') (.bool (p == q)) w3) := Lib.hid ⟨p, q, S1, T1, G1, T3, by simp, ⟨_, rfl⟩, hd2, hr1, hr2, HL.out.trans ((Lay.below (Below.refl _ _).drew).trans (hl1.trans hl2))⟩
    clear hd1 hd2 hr1 hr2 hl1 hl2 ho1 ho2
    go_wp2
    go_ret
    exact ⟨_, rfl, hfin.out⟩
set_option maxRecDepth 100000 in
set_option maxHeartbeats 4000000 in
theorem does_put {n0 : Nat} {w0 w : World} {t : Nat} {S : Tab} {T : IT.Tr} {r B : Nat} {G : RF.Gt} {T2 : IT.Tr} (h : Duo n0 w0 w t S T r B G T2) (oa ob oc od : Int) (s u : ByteArray) (hz : s.size ≤ maxLen) (hm : -9223372036854775808 ≤ ob) :
    Calls Try.prog 29 #[.pointer (some ⟨t, 0, none⟩), .pointer (some ⟨r, 0, none⟩), .agg #[.int .i64 5, .int .i64 oa, .int .i64 ob, .int .i64 oc, .int .i64 od, .string s, .string u]] w fun e w' => ∃ v, e = .returned v ∧ Did n0 w0 w t r B (fun p T' => IT.isPut T oa.toNat ob (bs s) p T') (fun p T' => IT.isPut T2 oa.toNat ob (bs s) p T') v w' := by
  have HD0 := Lib.hid (h.below ((Below.refl _ _).alloc (Nat.le_refl _) (.cells (opC 5 oa ob oc od s u) 60)))
  have HO0 := Lib.hid (alloc_heap w (.cells (opC 5 oa ob oc od s u) 60))
  have HL0 := Lib.hid (Lay.below ((Below.refl w.heap.size w).alloc (Nat.le_refl _) (.cells (opC 5 oa ob oc od s u) 60)))
  have hWW : w.alloc (.cells (opC 5 oa ob oc od s u) 60) = w.alloc (.cells #[.int .i64 5, .int .i64 oa, .int .i64 ob, .int .i64 oc, .int .i64 od, .string s, .string u] 60) := rfl
  rw [hWW] at HD0 HO0 HL0
  clear h hWW
  go_enter Try.func29, Try.ntmps29
  go_upto_region 1 with fail
  generalize w.alloc (.cells #[.int .i64 5, .int .i64 oa, .int .i64 ob, .int .i64 oc, .int .i64 od, .string s, .string u] 60) = W at *
  obtain ⟨b5, hb5⟩ : ∃ b5, w.heap.size = b5 := ⟨_, rfl⟩
  rw [hb5] at HO0 ⊢
  clear hb5
  have HD := HD0
  have HO := HO0
  have HL := HL0
  clear HD0 HO0 HL0
  obtain ⟨o0, o1, o2, o3, o4, o5, o6⟩ := op_cells HO.out
  have KP : ∀ W' : World, W'.heap[b5]? = some (.cells (opC 5 oa ob oc od s u) 60 (0, 0)) → (W'.cell? ⟨b5, 0, none⟩ = some (.int .i64 5) ∧ W'.cell? ⟨b5, 1, none⟩ = some (.int .i64 oa) ∧ W'.cell? ⟨b5, 2, none⟩ = some (.int .i64 ob) ∧ W'.cell? ⟨b5, 3, none⟩ = some (.int .i64 oc) ∧ W'.cell? ⟨b5, 4, none⟩ = some (.int .i64 od) ∧ W'.cell? ⟨b5, 5, none⟩ = some (.string s) ∧ W'.cell? ⟨b5, 6, none⟩ = some (.string u)) := fun W' hh => op_cells hh
  go_upto_region 13 with fail
  go_region_held3 (fun W' => W'.cell? ⟨b5, 0, none⟩ = some (.int .i64 5) ∧ W'.cell? ⟨b5, 1, none⟩ = some (.int .i64 oa) ∧ W'.cell? ⟨b5, 2, none⟩ = some (.int .i64 ob) ∧ W'.cell? ⟨b5, 3, none⟩ = some (.int .i64 oc) ∧ W'.cell? ⟨b5, 4, none⟩ = some (.int .i64 od) ∧ W'.cell? ⟨b5, 5, none⟩ = some (.string s) ∧ W'.cell? ⟨b5, 6, none⟩ = some (.string u))
    (first | (refine KP _ ?_; first | with_reducible exact HO.out | exact ho2 | exact ho1 | exact HO.out))
    (first
      | (go_at_call 23; refine (put_any (HD.out.below (Below.refl _ _).drew).a.tre oa ob s).mono ?_; rintro e w2 ⟨p, rfl, hs⟩; obtain ⟨S1, T1, hd1, hr1, hl1⟩ := (HD.out.below (Below.refl _ _).drew).stp hs (fun _ hh => IT.isPut.sound hh (HD.out.below (Below.refl _ _).drew).a.snd); have ho1 := hl1.2 _ _ _ _ HO.out (by decide) (by decide) (by decide))
      | (go_at_call 63; refine (RF.rf_put hd1.b oa ob s hz hm).mono ?_; rintro e w3 ⟨q, rfl, hs2⟩; obtain ⟨G1, T3, hd2, hr2, hl2⟩ := hd1.stf hs2 (fun _ hh => IT.isPut.sound hh hd1.b.snd); have ho2 := hl2.2 _ _ _ _ ho1 (by decide) (by decide) (by decide))
      | (go_at_call 63; refine (RF.rf_put (HD.out.below (Below.refl _ _).drew).b oa ob s hz hm).mono ?_; rintro e w2 ⟨q, rfl, hs⟩; obtain ⟨G1, T3, hd1, hr2, hl1⟩ := (HD.out.below (Below.refl _ _).drew).stf hs (fun _ hh => IT.isPut.sound hh (HD.out.below (Below.refl _ _).drew).b.snd); have ho1 := hl1.2 _ _ _ _ HO.out (by decide) (by decide) (by decide))
      | (go_at_call 23; refine (put_any hd1.a.tre oa ob s).mono ?_; rintro e w3 ⟨p, rfl, hs2⟩; obtain ⟨S1, T1, hd2, hr1, hl2⟩ := hd1.stp hs2 (fun _ hh => IT.isPut.sound hh hd1.a.snd); have ho2 := hl2.2 _ _ _ _ ho1 (by decide) (by decide) (by decide)))
  all_goals
    have hfin : Hid (Did n0 w0 w t r B (fun p T' => IT.isPut T oa.toNat ob (bs s) p T') (fun p T' => IT.isPut T2 oa.toNat ob (bs s) p T') (.bool (p == q)) w3) := Lib.hid ⟨p, q, S1, T1, G1, T3, by simp, ⟨_, rfl⟩, hd2, hr1, hr2, HL.out.trans ((Lay.below (Below.refl _ _).drew).trans (hl1.trans hl2))⟩
    clear hd1 hd2 hr1 hr2 hl1 hl2 ho1 ho2
    go_wp2
    go_ret
    exact ⟨_, rfl, hfin.out⟩
end Go.Proofs.Ytafonmnfeibaiaa
namespace Go.Proofs.Ytafonmnfeibaiaa
open Go.RowKit

set_option maxRecDepth 100000 in
set_option maxHeartbeats 4000000 in
theorem does_cut {n0 : Nat} {w0 w : World} {t : Nat} {S : Tab} {T : IT.Tr} {r B : Nat} {G : RF.Gt} {T2 : IT.Tr} (h : Duo n0 w0 w t S T r B G T2) (oa ob oc od : Int) (s u : ByteArray) :
    Calls Try.prog 29 #[.pointer (some ⟨t, 0, none⟩), .pointer (some ⟨r, 0, none⟩), .agg #[.int .i64 6, .int .i64 oa, .int .i64 ob, .int .i64 oc, .int .i64 od, .string s, .string u]] w fun e w' => ∃ v, e = .returned v ∧ Did n0 w0 w t r B (fun p T' => IT.isCut T oa.toNat p T') (fun p T' => IT.isCut T2 oa.toNat p T') v w' := by
  have HD0 := Lib.hid (h.below ((Below.refl _ _).alloc (Nat.le_refl _) (.cells (opC 6 oa ob oc od s u) 60)))
  have HO0 := Lib.hid (alloc_heap w (.cells (opC 6 oa ob oc od s u) 60))
  have HL0 := Lib.hid (Lay.below ((Below.refl w.heap.size w).alloc (Nat.le_refl _) (.cells (opC 6 oa ob oc od s u) 60)))
  have hWW : w.alloc (.cells (opC 6 oa ob oc od s u) 60) = w.alloc (.cells #[.int .i64 6, .int .i64 oa, .int .i64 ob, .int .i64 oc, .int .i64 od, .string s, .string u] 60) := rfl
  rw [hWW] at HD0 HO0 HL0
  clear h hWW
  go_enter Try.func29, Try.ntmps29
  go_upto_region 1 with fail
  generalize w.alloc (.cells #[.int .i64 6, .int .i64 oa, .int .i64 ob, .int .i64 oc, .int .i64 od, .string s, .string u] 60) = W at *
  obtain ⟨b5, hb5⟩ : ∃ b5, w.heap.size = b5 := ⟨_, rfl⟩
  rw [hb5] at HO0 ⊢
  clear hb5
  have HD := HD0
  have HO := HO0
  have HL := HL0
  clear HD0 HO0 HL0
  obtain ⟨o0, o1, o2, o3, o4, o5, o6⟩ := op_cells HO.out
  have KP : ∀ W' : World, W'.heap[b5]? = some (.cells (opC 6 oa ob oc od s u) 60 (0, 0)) → (W'.cell? ⟨b5, 0, none⟩ = some (.int .i64 6) ∧ W'.cell? ⟨b5, 1, none⟩ = some (.int .i64 oa) ∧ W'.cell? ⟨b5, 2, none⟩ = some (.int .i64 ob) ∧ W'.cell? ⟨b5, 3, none⟩ = some (.int .i64 oc) ∧ W'.cell? ⟨b5, 4, none⟩ = some (.int .i64 od) ∧ W'.cell? ⟨b5, 5, none⟩ = some (.string s) ∧ W'.cell? ⟨b5, 6, none⟩ = some (.string u)) := fun W' hh => op_cells hh
  go_upto_region 15 with fail
  go_region_held3 (fun W' => W'.cell? ⟨b5, 0, none⟩ = some (.int .i64 6) ∧ W'.cell? ⟨b5, 1, none⟩ = some (.int .i64 oa) ∧ W'.cell? ⟨b5, 2, none⟩ = some (.int .i64 ob) ∧ W'.cell? ⟨b5, 3, none⟩ = some (.int .i64 oc) ∧ W'.cell? ⟨b5, 4, none⟩ = some (.int .i64 od) ∧ W'.cell? ⟨b5, 5, none⟩ = some (.string s) ∧ W'.cell? ⟨b5, 6, none⟩ = some (.string u))
    (first | (refine KP _ ?_; first | with_reducible exact HO.out | exact ho2 | exact ho1 | exact HO.out))
    (first
      | (go_at_call 44; refine (cut_any (HD.out.below (Below.refl _ _).drew).a.tre oa).mono ?_; rintro e w2 ⟨p, rfl, hs⟩; obtain ⟨S1, T1, hd1, hr1, hl1⟩ := (HD.out.below (Below.refl _ _).drew).stp hs (fun _ hh => IT.isCut.sound hh (HD.out.below (Below.refl _ _).drew).a.snd); have ho1 := hl1.2 _ _ _ _ HO.out (by decide) (by decide) (by decide))
      | (go_at_call 64; refine (RF.rf_cut hd1.b oa).mono ?_; rintro e w3 ⟨q, rfl, hs2⟩; obtain ⟨G1, T3, hd2, hr2, hl2⟩ := hd1.stf hs2 (fun _ hh => IT.isCut.sound hh hd1.b.snd); have ho2 := hl2.2 _ _ _ _ ho1 (by decide) (by decide) (by decide))
      | (go_at_call 64; refine (RF.rf_cut (HD.out.below (Below.refl _ _).drew).b oa).mono ?_; rintro e w2 ⟨q, rfl, hs⟩; obtain ⟨G1, T3, hd1, hr2, hl1⟩ := (HD.out.below (Below.refl _ _).drew).stf hs (fun _ hh => IT.isCut.sound hh (HD.out.below (Below.refl _ _).drew).b.snd); have ho1 := hl1.2 _ _ _ _ HO.out (by decide) (by decide) (by decide))
      | (go_at_call 44; refine (cut_any hd1.a.tre oa).mono ?_; rintro e w3 ⟨p, rfl, hs2⟩; obtain ⟨S1, T1, hd2, hr1, hl2⟩ := hd1.stp hs2 (fun _ hh => IT.isCut.sound hh hd1.a.snd); have ho2 := hl2.2 _ _ _ _ ho1 (by decide) (by decide) (by decide)))
  all_goals
    have hfin : Hid (Did n0 w0 w t r B (fun p T' => IT.isCut T oa.toNat p T') (fun p T' => IT.isCut T2 oa.toNat p T') (.bool (p == q)) w3) := Lib.hid ⟨p, q, S1, T1, G1, T3, by simp, ⟨_, rfl⟩, hd2, hr1, hr2, HL.out.trans ((Lay.below (Below.refl _ _).drew).trans (hl1.trans hl2))⟩
    clear hd1 hd2 hr1 hr2 hl1 hl2 ho1 ho2
    go_wp2
    go_ret
    exact ⟨_, rfl, hfin.out⟩
set_option maxRecDepth 100000 in
set_option maxHeartbeats 4000000 in
theorem does_enter {n0 : Nat} {w0 w : World} {t : Nat} {S : Tab} {T : IT.Tr} {r B : Nat} {G : RF.Gt} {T2 : IT.Tr} (h : Duo n0 w0 w t S T r B G T2) (oa ob oc od : Int) (s u : ByteArray) :
    Calls Try.prog 29 #[.pointer (some ⟨t, 0, none⟩), .pointer (some ⟨r, 0, none⟩), .agg #[.int .i64 7, .int .i64 oa, .int .i64 ob, .int .i64 oc, .int .i64 od, .string s, .string u]] w fun e w' => ∃ v, e = .returned v ∧ Did n0 w0 w t r B (fun p T' => IT.isEnter okN T oa.toNat (bs s) ob.toNat p T') (fun p T' => IT.isEnter okN T2 oa.toNat (bs s) ob.toNat p T') v w' := by
  have HD0 := Lib.hid (h.below ((Below.refl _ _).alloc (Nat.le_refl _) (.cells (opC 7 oa ob oc od s u) 60)))
  have HO0 := Lib.hid (alloc_heap w (.cells (opC 7 oa ob oc od s u) 60))
  have HL0 := Lib.hid (Lay.below ((Below.refl w.heap.size w).alloc (Nat.le_refl _) (.cells (opC 7 oa ob oc od s u) 60)))
  have hWW : w.alloc (.cells (opC 7 oa ob oc od s u) 60) = w.alloc (.cells #[.int .i64 7, .int .i64 oa, .int .i64 ob, .int .i64 oc, .int .i64 od, .string s, .string u] 60) := rfl
  rw [hWW] at HD0 HO0 HL0
  clear h hWW
  go_enter Try.func29, Try.ntmps29
  go_upto_region 1 with fail
  generalize w.alloc (.cells #[.int .i64 7, .int .i64 oa, .int .i64 ob, .int .i64 oc, .int .i64 od, .string s, .string u] 60) = W at *
  obtain ⟨b5, hb5⟩ : ∃ b5, w.heap.size = b5 := ⟨_, rfl⟩
  rw [hb5] at HO0 ⊢
  clear hb5
  have HD := HD0
  have HO := HO0
  have HL := HL0
  clear HD0 HO0 HL0
  obtain ⟨o0, o1, o2, o3, o4, o5, o6⟩ := op_cells HO.out
  have KP : ∀ W' : World, W'.heap[b5]? = some (.cells (opC 7 oa ob oc od s u) 60 (0, 0)) → (W'.cell? ⟨b5, 0, none⟩ = some (.int .i64 7) ∧ W'.cell? ⟨b5, 1, none⟩ = some (.int .i64 oa) ∧ W'.cell? ⟨b5, 2, none⟩ = some (.int .i64 ob) ∧ W'.cell? ⟨b5, 3, none⟩ = some (.int .i64 oc) ∧ W'.cell? ⟨b5, 4, none⟩ = some (.int .i64 od) ∧ W'.cell? ⟨b5, 5, none⟩ = some (.string s) ∧ W'.cell? ⟨b5, 6, none⟩ = some (.string u)) := fun W' hh => op_cells hh
  go_upto_region 17 with fail
  go_region_held3 (fun W' => W'.cell? ⟨b5, 0, none⟩ = some (.int .i64 7) ∧ W'.cell? ⟨b5, 1, none⟩ = some (.int .i64 oa) ∧ W'.cell? ⟨b5, 2, none⟩ = some (.int .i64 ob) ∧ W'.cell? ⟨b5, 3, none⟩ = some (.int .i64 oc) ∧ W'.cell? ⟨b5, 4, none⟩ = some (.int .i64 od) ∧ W'.cell? ⟨b5, 5, none⟩ = some (.string s) ∧ W'.cell? ⟨b5, 6, none⟩ = some (.string u))
    (first | (refine KP _ ?_; first | with_reducible exact HO.out | exact ho2 | exact ho1 | exact HO.out))
    (first
      | (go_at_call 22; refine (enter_any (HD.out.below (Below.refl _ _).drew).a.tre oa ob s).mono ?_; rintro e w2 ⟨p, rfl, hs⟩; obtain ⟨S1, T1, hd1, hr1, hl1⟩ := (HD.out.below (Below.refl _ _).drew).stp hs (fun _ hh => IT.isEnter.sound hh (HD.out.below (Below.refl _ _).drew).a.snd); have ho1 := hl1.2 _ _ _ _ HO.out (by decide) (by decide) (by decide))
      | (go_at_call 65; refine (RF.rf_enter hd1.b oa ob s).mono ?_; rintro e w3 ⟨q, rfl, hs2⟩; obtain ⟨G1, T3, hd2, hr2, hl2⟩ := hd1.stf hs2 (fun _ hh => IT.isEnter.sound hh hd1.b.snd); have ho2 := hl2.2 _ _ _ _ ho1 (by decide) (by decide) (by decide))
      | (go_at_call 65; refine (RF.rf_enter (HD.out.below (Below.refl _ _).drew).b oa ob s).mono ?_; rintro e w2 ⟨q, rfl, hs⟩; obtain ⟨G1, T3, hd1, hr2, hl1⟩ := (HD.out.below (Below.refl _ _).drew).stf hs (fun _ hh => IT.isEnter.sound hh (HD.out.below (Below.refl _ _).drew).b.snd); have ho1 := hl1.2 _ _ _ _ HO.out (by decide) (by decide) (by decide))
      | (go_at_call 22; refine (enter_any hd1.a.tre oa ob s).mono ?_; rintro e w3 ⟨p, rfl, hs2⟩; obtain ⟨S1, T1, hd2, hr1, hl2⟩ := hd1.stp hs2 (fun _ hh => IT.isEnter.sound hh hd1.a.snd); have ho2 := hl2.2 _ _ _ _ ho1 (by decide) (by decide) (by decide)))
  all_goals
    have hfin : Hid (Did n0 w0 w t r B (fun p T' => IT.isEnter okN T oa.toNat (bs s) ob.toNat p T') (fun p T' => IT.isEnter okN T2 oa.toNat (bs s) ob.toNat p T') (.bool (p == q)) w3) := Lib.hid ⟨p, q, S1, T1, G1, T3, by simp, ⟨_, rfl⟩, hd2, hr1, hr2, HL.out.trans ((Lay.below (Below.refl _ _).drew).trans (hl1.trans hl2))⟩
    clear hd1 hd2 hr1 hr2 hl1 hl2 ho1 ho2
    go_wp2
    go_ret
    exact ⟨_, rfl, hfin.out⟩
set_option maxRecDepth 100000 in
set_option maxHeartbeats 4000000 in
theorem does_remove {n0 : Nat} {w0 w : World} {t : Nat} {S : Tab} {T : IT.Tr} {r B : Nat} {G : RF.Gt} {T2 : IT.Tr} (h : Duo n0 w0 w t S T r B G T2) (oa ob oc od : Int) (s u : ByteArray) :
    Calls Try.prog 29 #[.pointer (some ⟨t, 0, none⟩), .pointer (some ⟨r, 0, none⟩), .agg #[.int .i64 8, .int .i64 oa, .int .i64 ob, .int .i64 oc, .int .i64 od, .string s, .string u]] w fun e w' => ∃ v, e = .returned v ∧ Did n0 w0 w t r B (fun p T' => IT.isRemove T oa.toNat (bs s) p T') (fun p T' => IT.isRemove T2 oa.toNat (bs s) p T') v w' := by
  have HD0 := Lib.hid (h.below ((Below.refl _ _).alloc (Nat.le_refl _) (.cells (opC 8 oa ob oc od s u) 60)))
  have HO0 := Lib.hid (alloc_heap w (.cells (opC 8 oa ob oc od s u) 60))
  have HL0 := Lib.hid (Lay.below ((Below.refl w.heap.size w).alloc (Nat.le_refl _) (.cells (opC 8 oa ob oc od s u) 60)))
  have hWW : w.alloc (.cells (opC 8 oa ob oc od s u) 60) = w.alloc (.cells #[.int .i64 8, .int .i64 oa, .int .i64 ob, .int .i64 oc, .int .i64 od, .string s, .string u] 60) := rfl
  rw [hWW] at HD0 HO0 HL0
  clear h hWW
  go_enter Try.func29, Try.ntmps29
  go_upto_region 1 with fail
  generalize w.alloc (.cells #[.int .i64 8, .int .i64 oa, .int .i64 ob, .int .i64 oc, .int .i64 od, .string s, .string u] 60) = W at *
  obtain ⟨b5, hb5⟩ : ∃ b5, w.heap.size = b5 := ⟨_, rfl⟩
  rw [hb5] at HO0 ⊢
  clear hb5
  have HD := HD0
  have HO := HO0
  have HL := HL0
  clear HD0 HO0 HL0
  obtain ⟨o0, o1, o2, o3, o4, o5, o6⟩ := op_cells HO.out
  have KP : ∀ W' : World, W'.heap[b5]? = some (.cells (opC 8 oa ob oc od s u) 60 (0, 0)) → (W'.cell? ⟨b5, 0, none⟩ = some (.int .i64 8) ∧ W'.cell? ⟨b5, 1, none⟩ = some (.int .i64 oa) ∧ W'.cell? ⟨b5, 2, none⟩ = some (.int .i64 ob) ∧ W'.cell? ⟨b5, 3, none⟩ = some (.int .i64 oc) ∧ W'.cell? ⟨b5, 4, none⟩ = some (.int .i64 od) ∧ W'.cell? ⟨b5, 5, none⟩ = some (.string s) ∧ W'.cell? ⟨b5, 6, none⟩ = some (.string u)) := fun W' hh => op_cells hh
  go_upto_region 19 with fail
  go_region_held3 (fun W' => W'.cell? ⟨b5, 0, none⟩ = some (.int .i64 8) ∧ W'.cell? ⟨b5, 1, none⟩ = some (.int .i64 oa) ∧ W'.cell? ⟨b5, 2, none⟩ = some (.int .i64 ob) ∧ W'.cell? ⟨b5, 3, none⟩ = some (.int .i64 oc) ∧ W'.cell? ⟨b5, 4, none⟩ = some (.int .i64 od) ∧ W'.cell? ⟨b5, 5, none⟩ = some (.string s) ∧ W'.cell? ⟨b5, 6, none⟩ = some (.string u))
    (first | (refine KP _ ?_; first | with_reducible exact HO.out | exact ho2 | exact ho1 | exact HO.out))
    (first
      | (go_at_call 47; refine (remove_any (HD.out.below (Below.refl _ _).drew).a.tre oa s).mono ?_; rintro e w2 ⟨p, rfl, hs⟩; obtain ⟨S1, T1, hd1, hr1, hl1⟩ := (HD.out.below (Below.refl _ _).drew).stp hs (fun _ hh => IT.isRemove.sound hh (HD.out.below (Below.refl _ _).drew).a.snd); have ho1 := hl1.2 _ _ _ _ HO.out (by decide) (by decide) (by decide))
      | (go_at_call 66; refine (RF.rf_remove hd1.b oa s).mono ?_; rintro e w3 ⟨q, rfl, hs2⟩; obtain ⟨G1, T3, hd2, hr2, hl2⟩ := hd1.stf hs2 (fun _ hh => IT.isRemove.sound hh hd1.b.snd); have ho2 := hl2.2 _ _ _ _ ho1 (by decide) (by decide) (by decide))
      | (go_at_call 66; refine (RF.rf_remove (HD.out.below (Below.refl _ _).drew).b oa s).mono ?_; rintro e w2 ⟨q, rfl, hs⟩; obtain ⟨G1, T3, hd1, hr2, hl1⟩ := (HD.out.below (Below.refl _ _).drew).stf hs (fun _ hh => IT.isRemove.sound hh (HD.out.below (Below.refl _ _).drew).b.snd); have ho1 := hl1.2 _ _ _ _ HO.out (by decide) (by decide) (by decide))
      | (go_at_call 47; refine (remove_any hd1.a.tre oa s).mono ?_; rintro e w3 ⟨p, rfl, hs2⟩; obtain ⟨S1, T1, hd2, hr1, hl2⟩ := hd1.stp hs2 (fun _ hh => IT.isRemove.sound hh hd1.a.snd); have ho2 := hl2.2 _ _ _ _ ho1 (by decide) (by decide) (by decide)))
  all_goals
    have hfin : Hid (Did n0 w0 w t r B (fun p T' => IT.isRemove T oa.toNat (bs s) p T') (fun p T' => IT.isRemove T2 oa.toNat (bs s) p T') (.bool (p == q)) w3) := Lib.hid ⟨p, q, S1, T1, G1, T3, by simp, ⟨_, rfl⟩, hd2, hr1, hr2, HL.out.trans ((Lay.below (Below.refl _ _).drew).trans (hl1.trans hl2))⟩
    clear hd1 hd2 hr1 hr2 hl1 hl2 ho1 ho2
    go_wp2
    go_ret
    exact ⟨_, rfl, hfin.out⟩
set_option maxRecDepth 100000 in
set_option maxHeartbeats 4000000 in
theorem does_move {n0 : Nat} {w0 w : World} {t : Nat} {S : Tab} {T : IT.Tr} {r B : Nat} {G : RF.Gt} {T2 : IT.Tr} (h : Duo n0 w0 w t S T r B G T2) (hb : HB T 1000000) (hb2 : HB T2 1000000) (K oa ob oc od : Int) (s u : ByteArray) (k1 : ¬ K = 1) (k2 : ¬ K = 2) (k3 : ¬ K = 3) (k4 : ¬ K = 4) (k5 : ¬ K = 5) (k6 : ¬ K = 6) (k7 : ¬ K = 7) (k8 : ¬ K = 8) :
    Calls Try.prog 29 #[.pointer (some ⟨t, 0, none⟩), .pointer (some ⟨r, 0, none⟩), .agg #[.int .i64 K, .int .i64 oa, .int .i64 ob, .int .i64 oc, .int .i64 od, .string s, .string u]] w fun e w' => ∃ v, e = .returned v ∧ Did n0 w0 w t r B (fun p T' => IT.isMove okN T oa.toNat (bs s) ob.toNat (bs u) p T') (fun p T' => IT.isMove okN T2 oa.toNat (bs s) ob.toNat (bs u) p T') v w' := by
  have HD0 := Lib.hid (h.below ((Below.refl _ _).alloc (Nat.le_refl _) (.cells (opC K oa ob oc od s u) 60)))
  have HO0 := Lib.hid (alloc_heap w (.cells (opC K oa ob oc od s u) 60))
  have HL0 := Lib.hid (Lay.below ((Below.refl w.heap.size w).alloc (Nat.le_refl _) (.cells (opC K oa ob oc od s u) 60)))
  have hWW : w.alloc (.cells (opC K oa ob oc od s u) 60) = w.alloc (.cells #[.int .i64 K, .int .i64 oa, .int .i64 ob, .int .i64 oc, .int .i64 od, .string s, .string u] 60) := rfl
  rw [hWW] at HD0 HO0 HL0
  clear h hWW
  have z1 : (K == 1) = false := by simpa using k1
  have z2 : (K == 2) = false := by simpa using k2
  have z3 : (K == 3) = false := by simpa using k3
  have z4 : (K == 4) = false := by simpa using k4
  have z5 : (K == 5) = false := by simpa using k5
  have z6 : (K == 6) = false := by simpa using k6
  have z7 : (K == 7) = false := by simpa using k7
  have z8 : (K == 8) = false := by simpa using k8
  clear k1 k2 k3 k4 k5 k6 k7 k8
  go_enter Try.func29, Try.ntmps29
  go_upto_region 1 with fail
  generalize w.alloc (.cells #[.int .i64 K, .int .i64 oa, .int .i64 ob, .int .i64 oc, .int .i64 od, .string s, .string u] 60) = W at *
  obtain ⟨b5, hb5⟩ : ∃ b5, w.heap.size = b5 := ⟨_, rfl⟩
  rw [hb5] at HO0 ⊢
  clear hb5
  have HD := HD0
  have HO := HO0
  have HL := HL0
  clear HD0 HO0 HL0
  obtain ⟨o0, o1, o2, o3, o4, o5, o6⟩ := op_cells HO.out
  have KP : ∀ W' : World, W'.heap[b5]? = some (.cells (opC K oa ob oc od s u) 60 (0, 0)) → (W'.cell? ⟨b5, 0, none⟩ = some (.int .i64 K) ∧ W'.cell? ⟨b5, 1, none⟩ = some (.int .i64 oa) ∧ W'.cell? ⟨b5, 2, none⟩ = some (.int .i64 ob) ∧ W'.cell? ⟨b5, 3, none⟩ = some (.int .i64 oc) ∧ W'.cell? ⟨b5, 4, none⟩ = some (.int .i64 od) ∧ W'.cell? ⟨b5, 5, none⟩ = some (.string s) ∧ W'.cell? ⟨b5, 6, none⟩ = some (.string u)) := fun W' hh => op_cells hh
  go_upto_region 20 with fail
  go_region_held3 (fun W' => W'.cell? ⟨b5, 0, none⟩ = some (.int .i64 K) ∧ W'.cell? ⟨b5, 1, none⟩ = some (.int .i64 oa) ∧ W'.cell? ⟨b5, 2, none⟩ = some (.int .i64 ob) ∧ W'.cell? ⟨b5, 3, none⟩ = some (.int .i64 oc) ∧ W'.cell? ⟨b5, 4, none⟩ = some (.int .i64 od) ∧ W'.cell? ⟨b5, 5, none⟩ = some (.string s) ∧ W'.cell? ⟨b5, 6, none⟩ = some (.string u))
    (first | (refine KP _ ?_; first | with_reducible exact HO.out | exact ho2 | exact ho1 | exact HO.out))
    (first
      | (go_at_call 24; refine (move_any (HD.out.below (Below.refl _ _).drew).a.tre oa ob s u).mono ?_; rintro e w2 ⟨p, rfl, hs⟩; obtain ⟨S1, T1, hd1, hr1, hl1⟩ := (HD.out.below (Below.refl _ _).drew).stp hs (fun _ hh => IT.isMove.sound hh (HD.out.below (Below.refl _ _).drew).a.snd); have ho1 := hl1.2 _ _ _ _ HO.out (by decide) (by decide) (by decide))
      | (go_at_call 67; refine (RF.rf_move hd1.b hb2 oa ob s u).mono ?_; rintro e w3 ⟨q, rfl, hs2⟩; obtain ⟨G1, T3, hd2, hr2, hl2⟩ := hd1.stf hs2 (fun _ hh => IT.isMove.sound hh hd1.b.snd); have ho2 := hl2.2 _ _ _ _ ho1 (by decide) (by decide) (by decide))
      | (go_at_call 67; refine (RF.rf_move (HD.out.below (Below.refl _ _).drew).b hb2 oa ob s u).mono ?_; rintro e w2 ⟨q, rfl, hs⟩; obtain ⟨G1, T3, hd1, hr2, hl1⟩ := (HD.out.below (Below.refl _ _).drew).stf hs (fun _ hh => IT.isMove.sound hh (HD.out.below (Below.refl _ _).drew).b.snd); have ho1 := hl1.2 _ _ _ _ HO.out (by decide) (by decide) (by decide))
      | (go_at_call 24; refine (move_any hd1.a.tre oa ob s u).mono ?_; rintro e w3 ⟨p, rfl, hs2⟩; obtain ⟨S1, T1, hd2, hr1, hl2⟩ := hd1.stp hs2 (fun _ hh => IT.isMove.sound hh hd1.a.snd); have ho2 := hl2.2 _ _ _ _ ho1 (by decide) (by decide) (by decide)))
  all_goals
    have hfin : Hid (Did n0 w0 w t r B (fun p T' => IT.isMove okN T oa.toNat (bs s) ob.toNat (bs u) p T') (fun p T' => IT.isMove okN T2 oa.toNat (bs s) ob.toNat (bs u) p T') (.bool (p == q)) w3) := Lib.hid ⟨p, q, S1, T1, G1, T3, by simp, ⟨_, rfl⟩, hd2, hr1, hr2, HL.out.trans ((Lay.below (Below.refl _ _).drew).trans (hl1.trans hl2))⟩
    clear hd1 hd2 hr1 hr2 hl1 hl2 ho1 ho2
    go_wp2
    go_ret
    exact ⟨_, rfl, hfin.out⟩
end Go.Proofs.Ytafonmnfeibaiaa
namespace Go.Proofs.Ytafonmnfeibaiaa
open Go.RowKit

set_option maxRecDepth 100000 in
set_option maxHeartbeats 4000000 in
theorem does_make {n0 : Nat} {w0 w : World} {t : Nat} {S : Tab} {T : IT.Tr} {r B : Nat} {G : RF.Gt} {T2 : IT.Tr} (h : Duo n0 w0 w t S T r B G T2) (oa ob oc od : Int) (s u : ByteArray) (hm : ob < 9223372036854775808) :
    Calls Try.prog 29 #[.pointer (some ⟨t, 0, none⟩), .pointer (some ⟨r, 0, none⟩), .agg #[.int .i64 1, .int .i64 oa, .int .i64 ob, .int .i64 oc, .int .i64 od, .string s, .string u]] w fun e w' => ∃ v, e = .returned v ∧ Did (ρ := Nat × Int) n0 w0 w t r B (fun p T' => IT.isMake rt T oa ob oc oc od p.1 p.2 T') (fun p T' => IT.isMake rt T2 oa ob oc oc od p.1 p.2 T') v w' := by
  have HD0 := Lib.hid (h.below ((Below.refl _ _).alloc (Nat.le_refl _) (.cells (opC 1 oa ob oc od s u) 60)))
  have HO0 := Lib.hid (alloc_heap w (.cells (opC 1 oa ob oc od s u) 60))
  have HL0 := Lib.hid (Lay.below ((Below.refl w.heap.size w).alloc (Nat.le_refl _) (.cells (opC 1 oa ob oc od s u) 60)))
  have hWW : w.alloc (.cells (opC 1 oa ob oc od s u) 60) = w.alloc (.cells #[.int .i64 1, .int .i64 oa, .int .i64 ob, .int .i64 oc, .int .i64 od, .string s, .string u] 60) := rfl
  rw [hWW] at HD0 HO0 HL0
  clear h hWW
  go_enter Try.func29, Try.ntmps29
  go_upto_region 1 with fail
  generalize w.alloc (.cells #[.int .i64 1, .int .i64 oa, .int .i64 ob, .int .i64 oc, .int .i64 od, .string s, .string u] 60) = W at *
  obtain ⟨b5, hb5⟩ : ∃ b5, w.heap.size = b5 := ⟨_, rfl⟩
  rw [hb5] at HO0 ⊢
  clear hb5
  have HD := HD0
  have HO := HO0
  have HL := HL0
  clear HD0 HO0 HL0
  obtain ⟨o0, o1, o2, o3, o4, o5, o6⟩ := op_cells HO.out
  go_wp2_with fail
  refine (make_any HD.out.a.tre oa ob oc oc od).mono ?_
  rintro e w2 ⟨i, p, rfl, hs⟩
  obtain ⟨S1, T1, hd1, hr1, hl1⟩ := HD.out.stp hs (fun _ hh => IT.isMake.sound hh HD.out.a.snd)
  have HO1 := Lib.hid (hl1.2 _ _ _ _ HO.out (by decide) (by decide) (by decide))
  have HD1 := Lib.hid hd1
  have HR1 := Lib.hid hr1
  have HL1 := Lib.hid (HL.out.trans hl1)
  clear hd1 hr1 hl1 o0 o1 o2 o3 o4 o5 o6
  obtain ⟨o0, o1, o2, o3, o4, o5, o6⟩ := op_cells HO1.out
  go_wp2_with fail
  refine (RF.rf_make HD1.out.b oa ob oc oc od hm).mono ?_
  rintro e w3 ⟨j, q, rfl, hs⟩
  obtain ⟨G1, T3, hd2, hr2, hl2⟩ := HD1.out.stf hs (fun _ hh => IT.isMake.sound hh HD1.out.b.snd)
  have hfin : ∀ c : Bool, (c = true ↔ i = j ∧ p = q) → Hid (Did (ρ := Nat × Int) n0 w0 w t r B (fun p T' => IT.isMake rt T oa ob oc oc od p.1 p.2 T') (fun p T' => IT.isMake rt T2 oa ob oc oc od p.1 p.2 T') (.bool c) w3) := fun c hc => Lib.hid ⟨(i, p), (j, q), S1, T1, G1, T3, by simp [hc], ⟨_, rfl⟩, hd2, HR1.out, hr2, HL1.out.trans hl2⟩
  clear hd2 hr2 hl2 o0 o1 o2 o3 o4 o5 o6
  by_cases e1 : i = j
  · have z1 : ((i : Int) == (j : Int)) = true := by simpa using (show (i : Int) = j by omega)
    have HF := hfin (p == q) (by simp [e1])
    clear hfin e1
    go_wp2
    go_ret
    exact ⟨_, rfl, HF.out⟩
  · have z1 : ((i : Int) == (j : Int)) = false := by simpa using (show ¬ (i : Int) = j by omega)
    have HF := hfin false (by simp [e1])
    clear hfin e1
    go_wp2
    go_ret
    exact ⟨_, rfl, HF.out⟩
end Go.Proofs.Ytafonmnfeibaiaa
/- almonerlaw06.does over both trees, all kinds. -/
namespace Go.Proofs.Ytafonmnfeibaiaa
open Go.RowKit

/-- What one op leaves. -/
def Done (n0 : Nat) (w0 w : World) (t : Nat) (r B : Nat) (T T2 : IT.Tr) (n : Nat) (c : Bool) (w' : World) : Prop := ∃ S' T' G' T2', Duo n0 w0 w' t S' T' r B G' T2' ∧ HB T' (n + 1) ∧ HB T2' (n + 1) ∧ Lay w w' ∧ (T = T2 → c = true ∧ T' = T2')
theorem Did.done {ρ : Type} {n0 : Nat} {w0 w w' : World} {t r B n : Nat} {R : IT.Tr → ρ → IT.Tr → Prop} {T T2 : IT.Tr} {v : Value} (h : Did n0 w0 w t r B (R T) (R T2) v w') (hb : ∀ {A : IT.Tr} {p : ρ} {C : IT.Tr}, R A p C → (A = T ∨ A = T2) → HB C (n + 1)) (ho : ∀ {A : IT.Tr} {p q : ρ} {C D : IT.Tr}, R A p C → R A q D → p = q ∧ C = D) : ∃ c, v = .bool c ∧ Done n0 w0 w t r B T T2 n c w' := by
  obtain ⟨p, q, S', T', G', T2', hv, ⟨c, rfl⟩, hd, h1, h2, hl⟩ := h
  refine ⟨c, rfl, S', T', G', T2', hd, hb h1 (.inl rfl), hb h2 (.inr rfl), hl, fun e => ?_⟩
  subst e
  obtain ⟨e1, e2⟩ := ho h1 h2
  refine ⟨?_, e2⟩
  have := hv.2 e1
  simpa using this
theorem does_any {n0 : Nat} {w0 w : World} {t : Nat} {S : Tab} {T : IT.Tr} {r B : Nat} {G : RF.Gt} {T2 : IT.Tr} (h : Duo n0 w0 w t S T r B G T2) {n : Nat} (hn : n ≤ 1000000) (hn1 : 1 ≤ n) (hb : HB T n) (hb2 : HB T2 n) (K oa ob oc od : Int) (s u : ByteArray) (hm1 : -9223372036854775808 ≤ ob) (hm2 : ob < 9223372036854775808) (hz : s.size ≤ maxLen) :
    Calls Try.prog 29 #[.pointer (some ⟨t, 0, none⟩), .pointer (some ⟨r, 0, none⟩), .agg #[.int .i64 K, .int .i64 oa, .int .i64 ob, .int .i64 oc, .int .i64 od, .string s, .string u]] w fun e w' => ∃ c, e = .returned (.bool c) ∧ Done n0 w0 w t r B T T2 n c w' := by
  have hx := hb.mono hn
  have hx2 := hb2.mono hn
  have hA : ∀ {A : IT.Tr}, (A = T ∨ A = T2) → HB A n := fun {A} hh => by rcases hh with rfl | rfl <;> assumption
  by_cases k1 : K = 1
  · subst k1
    refine (does_make h oa ob oc od s u hm2).mono ?_
    rintro e w' ⟨v, rfl, hd⟩
    obtain ⟨c, rfl, hc⟩ := Did.done (n := n) (ρ := Nat × Int) (R := fun T (p : Nat × Int) T' => IT.isMake rt T oa ob oc oc od p.1 p.2 T') hd (fun hr ha => (HB.make (hA ha) hn1 hr).mono (Nat.le_succ _)) (fun {A p q C D} h1 h2 => by
      obtain ⟨a, b, c⟩ := IT.isMake.one h1 h2
      exact ⟨Prod.ext a b, c⟩)
    exact ⟨c, rfl, hc⟩
  by_cases k2 : K = 2
  · subst k2
    refine (does_hold h hx hx2 oa ob oc od s u).mono ?_
    rintro e w' ⟨v, rfl, hd⟩
    obtain ⟨c, rfl, hc⟩ := Did.done (n := n) (R := fun T p T' => IT.isHold T oa.toNat p T') hd (fun hr ha => HB.hold (hA ha) hr) IT.isHold.one
    exact ⟨c, rfl, hc⟩
  by_cases k3 : K = 3
  · subst k3
    refine (does_drop h hx hx2 oa ob oc od s u).mono ?_
    rintro e w' ⟨v, rfl, hd⟩
    obtain ⟨c, rfl, hc⟩ := Did.done (n := n) (R := fun T p T' => IT.isDrop T oa.toNat p T') hd (fun hr ha => (HB.drop (hA ha) hr).mono (Nat.le_succ _)) IT.isDrop.one
    exact ⟨c, rfl, hc⟩
  by_cases k4 : K = 4
  · subst k4
    refine (does_set h oa ob oc od s u hm2).mono ?_
    rintro e w' ⟨v, rfl, hd⟩
    obtain ⟨c, rfl, hc⟩ := Did.done (n := n) (R := fun T p T' => IT.isSet rt T oa.toNat ob oc od p T') hd (fun hr ha => (HB.set (hA ha) hr).mono (Nat.le_succ _)) IT.isSet.one
    exact ⟨c, rfl, hc⟩
  by_cases k5 : K = 5
  · subst k5
    refine (does_put h oa ob oc od s u hz hm1).mono ?_
    rintro e w' ⟨v, rfl, hd⟩
    obtain ⟨c, rfl, hc⟩ := Did.done (n := n) (R := fun T p T' => IT.isPut T oa.toNat ob (bs s) p T') hd (fun hr ha => (HB.put (hA ha) hr).mono (Nat.le_succ _)) IT.isPut.one
    exact ⟨c, rfl, hc⟩
  by_cases k6 : K = 6
  · subst k6
    refine (does_cut h oa ob oc od s u).mono ?_
    rintro e w' ⟨v, rfl, hd⟩
    obtain ⟨c, rfl, hc⟩ := Did.done (n := n) (R := fun T p T' => IT.isCut T oa.toNat p T') hd (fun hr ha => (HB.cut (hA ha) hr).mono (Nat.le_succ _)) IT.isCut.one
    exact ⟨c, rfl, hc⟩
  by_cases k7 : K = 7
  · subst k7
    refine (does_enter h oa ob oc od s u).mono ?_
    rintro e w' ⟨v, rfl, hd⟩
    obtain ⟨c, rfl, hc⟩ := Did.done (n := n) (R := fun T p T' => IT.isEnter okN T oa.toNat (bs s) ob.toNat p T') hd (fun hr ha => (HB.enter (hA ha) hr).mono (Nat.le_succ _)) IT.isEnter.one
    exact ⟨c, rfl, hc⟩
  by_cases k8 : K = 8
  · subst k8
    refine (does_remove h oa ob oc od s u).mono ?_
    rintro e w' ⟨v, rfl, hd⟩
    obtain ⟨c, rfl, hc⟩ := Did.done (n := n) (R := fun T p T' => IT.isRemove T oa.toNat (bs s) p T') hd (fun hr ha => (HB.remove (hA ha) hr).mono (Nat.le_succ _)) IT.isRemove.one
    exact ⟨c, rfl, hc⟩
  · refine (does_move h hx hx2 K oa ob oc od s u k1 k2 k3 k4 k5 k6 k7 k8).mono ?_
    rintro e w' ⟨v, rfl, hd⟩
    obtain ⟨c, rfl, hc⟩ := Did.done (n := n) (R := fun T p T' => IT.isMove okN T oa.toNat (bs s) ob.toNat (bs u) p T') hd (fun hr ha => (HB.move (hA ha) hr).mono (Nat.le_succ _)) IT.isMove.one
    exact ⟨c, rfl, hc⟩
end Go.Proofs.Ytafonmnfeibaiaa
/- Slices of texts, alike: the document's Same. -/
namespace Go.Proofs.Ytafonmnfeibaiaa
open Go.RowKit

/-- A slice of strings, as it reads. -/
def Sl (w : World) (v : Value) (l : List ByteArray) : Prop :=
  ∃ a cap, v = .slice a l.length cap ∧ ∀ j (h : j < l.length), ∃ b off, a = some ⟨b, off, none⟩ ∧ w.cell? ⟨b, off + j, none⟩ = some (.string l[j])
theorem Sl.of_own {w : World} {base : Nat} {v : Value} {l : List ByteArray} (h : w.ownsRow base 9 1 v l.length (l.map .string)) : Sl w v l := by
  obtain ⟨_, ⟨rfl, h0⟩ | ⟨g, cap, cur, rfl, hb, hh, hn, hc, hs, ht⟩⟩ := h
  · exact ⟨none, 0, by rw [h0], fun j hj => by omega⟩
  · refine ⟨_, cap, rfl, fun j hj => ⟨g, 0, rfl, ?_⟩⟩
    have h1 : (l.map Value.string)[j]? = some (.string l[j]) := by simp [hj]
    rw [← ht, List.getElem?_take] at h1
    rw [if_pos (by omega)] at h1
    simpa [World.cell?, hh] using h1

set_option maxHeartbeats 400000 in
theorem same_eq (w : World) (v u : Value) (l : List ByteArray) (h : Sl w v l) (g : Sl w u l) (hl : l.length ≤ 1000000) :
    Calls Try.prog 69 #[v, u] w fun e w' => e = .returned (.bool true) ∧ ∃ k, w' = w.drewN k := by
  obtain ⟨a, ca, rfl, ha⟩ := h
  obtain ⟨b, cb, rfl, hb⟩ := g
  have HA := Lib.hid ha
  have HB := Lib.hid hb
  have hl1 : (l.length : Int) ≤ 1000000 := by omega
  clear ha hb
  go_enter Try.func69, Try.ntmps69
  go_wp2
  go_loopw [5] (fun i wr => ∃ k q : Nat, k ≤ l.length ∧ i = .int .i64 k ∧ wr = w.drewN q) (fun i _ => l.length - (intOf i).toNat)
  case atStart => exact ⟨0, 0, Nat.zero_le _, rfl, rfl⟩
  case round =>
    obtain ⟨k, q, hk, rfl, rfl⟩ := hrel
    by_cases hlt : k < l.length
    · obtain ⟨ba, oa, rfl, hca⟩ := HA.out k hlt
      obtain ⟨bb, ob, rfl, hcb⟩ := HB.out k hlt
      generalize l[k] = x at hca hcb
      have hlt1 : (k : Int) < l.length := by omega
      go_wp2
      go_quiet (fail)
      go_wp2
      go_roundw
      case rel => exact ⟨k + 1, q + nq, by omega, by go_num, rfl⟩
      case measure => simp [intOf]; omega
    · go_wp2
      go_ret
      exact ⟨rfl, _, rfl⟩

theorem Sl.names {w : World} {base : Nat} {T : IT.Tr} {k : Nat} {v : Value} (h : w.ownsRow base 9 1 v (namesT T k).length ((namesT T k).map encStr)) : Sl w v ((namesT T k).map tx) := by
  refine Sl.of_own (base := base) ?_
  rw [List.length_map, List.map_map]
  exact h
theorem Sl.below {w w' : World} {v : Value} {l : List ByteArray} (h : Sl w v l) (hb : Below w.heap.size w w') : Sl w' v l := by
  obtain ⟨a, cap, e, hc⟩ := h
  refine ⟨a, cap, e, fun j hj => ?_⟩
  obtain ⟨b, off, e1, e2⟩ := hc j hj
  exact ⟨b, off, e1, (hb.cell (p := ⟨b, off + j, none⟩) (World.block_lt_of_cell? w ⟨b, off + j, none⟩ e2)).trans e2⟩
end Go.Proofs.Ytafonmnfeibaiaa
/- The law's `as`, over both trees: UNDER WAY. -/
namespace Go.Proofs.Ytafonmnfeibaiaa
open Go.RowKit

theorem eqF_same {P : Program} (ht : P.underlying 3 = some (.int .i64)) (w : World) (d : Nat) (xs : Array Value) : ∀ fs : List Field, (∀ f ∈ fs, f.type = 3 ∧ ∃ i : Int, (part f.type xs f.offset).run P w = .ok (.int .i64 i) w) → (Op.eqFields (d + 1) xs xs fs).run P w = .ok true w
  | [], _ => by rw [Op.eqFields]; rfl
  | f :: fs, h => by
    obtain ⟨h1, i, h2⟩ := h f (List.mem_cons_self ..)
    have ih := eqF_same ht w d xs fs (fun g hg => h g (List.mem_cons_of_mem _ hg))
    have h3 := run_equalIn_int w d f.type .i64 .i64 i i (by rw [h1]; exact ht)
    rw [Op.eqFields]
    by_cases hn : f.name ≠ "_"
    · rw [if_pos hn]
      simp [h2, h3, ih]
    · rw [if_neg hn]; exact ih
theorem info_fields : (Try.prog.fieldsOf 35).toList.all (fun f => decide (f.type = 3 ∧ f.offset < 8)) = true := by kernel_rfl
theorem info_same (w : World) (i0 i1 i2 i3 i4 i5 i6 i7 : Int) : (binOp .eql 35 (.agg #[.int .i64 i0, .int .i64 i1, .int .i64 i2, .int .i64 i3, .int .i64 i4, .int .i64 i5, .int .i64 i6, .int .i64 i7]) (.agg #[.int .i64 i0, .int .i64 i1, .int .i64 i2, .int .i64 i3, .int .i64 i4, .int .i64 i5, .int .i64 i6, .int .i64 i7])).run Try.prog w = .ok (.bool true) w := by
  rw [run_eql_struct, run_equalIn_struct w 9999 35 _ _ (by kernel_rfl) (by kernel_rfl), eqF_same Try.underlying3 w 9998]
  · rfl
  · intro f hf
    have := List.all_eq_true.1 info_fields f hf
    obtain ⟨e1, e2⟩ := of_decide_eq_true this
    refine ⟨e1, ?_⟩
    rw [e1]
    have key : ∀ o, o < 8 → ∃ i : Int, (part 3 #[.int .i64 i0, .int .i64 i1, .int .i64 i2, .int .i64 i3, .int .i64 i4, .int .i64 i5, .int .i64 i6, .int .i64 i7] o).run Try.prog w = .ok (.int .i64 i) w := fun o ho => by
      obtain rfl | rfl | rfl | rfl | rfl | rfl | rfl | rfl : o = 0 ∨ o = 1 ∨ o = 2 ∨ o = 3 ∨ o = 4 ∨ o = 5 ∨ o = 6 ∨ o = 7 := by omega
      · exact ⟨i0, by kernel_rfl⟩
      · exact ⟨i1, by kernel_rfl⟩
      · exact ⟨i2, by kernel_rfl⟩
      · exact ⟨i3, by kernel_rfl⟩
      · exact ⟨i4, by kernel_rfl⟩
      · exact ⟨i5, by kernel_rfl⟩
      · exact ⟨i6, by kernel_rfl⟩
      · exact ⟨i7, by kernel_rfl⟩
    exact key _ e2
theorem statV_ints (T : IT.Tr) (k : Nat) : ∃ i0 i1 i2 i3 i4 i5 i6 i7 : Int, statV T k = .agg #[.int .i64 i0, .int .i64 i1, .int .i64 i2, .int .i64 i3, .int .i64 i4, .int .i64 i5, .int .i64 i6, .int .i64 i7] := by
  unfold statV
  cases T k with
  | none => exact ⟨_, _, _, _, _, _, _, _, rfl⟩
  | some m => exact ⟨_, _, _, _, _, _, _, _, rfl⟩
end Go.Proofs.Ytafonmnfeibaiaa
namespace Go.Proofs.Ytafonmnfeibaiaa
open Go.RowKit

/-! ### What must be in any case: the statements' own small case -/
def sh1 : IT.Tr := IT.upd (IT.rootT 493 0 0) 2 (some ⟨1, 448, 5, 6, 0, 1, [], [], 2⟩)
def sh2 : IT.Tr := IT.entT sh1 1 2 [97] ⟨1, 493, 0, 0, 0, 0, [], [], 1⟩ ⟨1, 448, 5, 6, 0, 1, [], [], 2⟩
def sh3 : IT.Tr := IT.upd sh2 2 (some ⟨1, 448, 5, 6, 0, 0, [], [], 1⟩)
def sh4 : IT.Tr := IT.delT sh3 1 2 [97] ⟨1, 493, 0, 0, 0, 0, [], [([97], 2)], 1⟩ ⟨1, 448, 5, 6, 0, 0, [], [], 1⟩
def sh5 : IT.Tr := IT.rem sh4 2
theorem sh_make {i : Nat} {r : Int} {T' : IT.Tr} (h : IT.isMake rt (IT.rootT 493 0 0) 1 448 5 6 0 i r T') : i = 2 ∧ r = 0 ∧ T' = sh1 := by
  unfold IT.isMake at h
  have hr : rt 448 5 6 := by unfold rt; decide +kernel
  rw [if_neg (by rintro (a | a | a); omega; omega; exact a hr), if_neg (by omega), if_neg (fun hh => hh 2 (by omega) (by omega) rfl)] at h
  obtain ⟨h1, h2, h3, h4, h5, h6⟩ := h
  have hi : i = 2 := by
    by_cases e : i = 1
    · subst e; cases h4
    · by_cases e2 : 2 < i
      · exact absurd rfl (h5 2 (by omega) e2)
      · omega
  subst hi
  exact ⟨rfl, h1, h6⟩
set_option maxRecDepth 100000 in
theorem sh_enter {r : Int} {T' : IT.Tr} (h : IT.isEnter okN sh1 1 [97] 2 r T') : r = 0 ∧ T' = sh2 := by
  unfold IT.isEnter at h
  have e1 : sh1 1 = some ⟨1, 493, 0, 0, 0, 0, [], [], 1⟩ := by decide +kernel
  have e2 : sh1 2 = some ⟨1, 448, 5, 6, 0, 1, [], [], 2⟩ := by decide +kernel
  rw [e1, e2] at h
  dsimp only at h
  have hl : IT.lnk sh1 2 = 0 := by decide +kernel
  have hb : ¬ IT.Bel sh1 2 1 := IT.bel_top e1 (by decide) rfl
  rw [if_neg (by decide), if_neg (by decide +kernel), if_neg (by decide), if_neg (by rw [hl]; decide), if_neg (by decide), if_neg (fun hh => hb hh.2)] at h
  exact h
set_option maxRecDepth 100000 in
theorem sh_enter2 {r : Int} {T' : IT.Tr} (h : IT.isEnter okN sh2 2 [98] 2 r T') : r = 12 ∧ T' = sh2 := by
  unfold IT.isEnter at h
  have e2 : sh2 2 = some ⟨1, 448, 5, 6, 0, 1, [], [], 1⟩ := by decide +kernel
  rw [e2] at h
  dsimp only at h
  have hl : IT.lnk sh2 2 = 1 := by decide +kernel
  rw [if_neg (by decide), if_neg (by decide +kernel), if_neg (by decide), if_pos (by rw [hl]; decide)] at h
  exact h
theorem sh_drop {r : Bool} {T' : IT.Tr} (h : IT.isDrop sh2 2 r T') : T' = sh3 := by
  unfold IT.isDrop at h
  have e2 : sh2 2 = some ⟨1, 448, 5, 6, 0, 1, [], [], 1⟩ := by decide +kernel
  rw [e2] at h
  dsimp only at h
  rw [if_neg (by decide)] at h
  exact IT.nf_stay h.2 (IT.no_can_list (by decide +kernel))
set_option maxRecDepth 100000 in
theorem sh_remove {r : Int} {T' : IT.Tr} (h : IT.isRemove sh3 1 [97] r T') : r = 0 ∧ T' = sh5 := by
  unfold IT.isRemove at h
  have e1 : sh3 1 = some ⟨1, 493, 0, 0, 0, 0, [], [([97], 2)], 1⟩ := by decide +kernel
  have e2 : sh3 2 = some ⟨1, 448, 5, 6, 0, 0, [], [], 1⟩ := by decide +kernel
  rw [e1] at h
  dsimp only at h
  rw [if_neg (by decide), show IT.findN [97] [([97], 2)] = some 2 by decide +kernel] at h
  dsimp only at h
  obtain ⟨m, hm, h⟩ := h
  rw [e2] at hm
  obtain rfl := Option.some.inj hm
  rw [if_neg (by decide)] at h
  exact ⟨h.1, IT.nf_one h.2 (IT.can_iff.2 ⟨by omega, by decide +kernel⟩) (IT.no_can_list (by decide +kernel))⟩
theorem hb_le {T : IT.Tr} (h : (List.range 201).all (fun k => match T k with
    | none => true
    | some m => decide (m.holds ≤ 1000)) = true) (hs : IT.Sound okN T) : HB T 1000000 := fun k m hk => by
  have hr := hs.1.rng k m hk
  have h2 := List.all_eq_true.1 h k (by simp; omega)
  rw [hk] at h2
  have : m.holds ≤ 1000 := of_decide_eq_true h2
  omega

set_option maxRecDepth 100000 in
set_option maxHeartbeats 800000 in
theorem shown_any (w : World) : Calls Try.prog 20 #[] w fun e w' => e = .returned (.bool true) ∧ Below w.heap.size w w' := by
  go_enter Try.func20, Try.ntmps20
  go_wp2_with fail
  refine (new_ok _ _ _ _ (by decide +kernel)).mono ?_
  rintro e w1 ⟨t, S0, rfl, h0⟩
  have H0 := Lib.hid h0
  clear h0
  go_wp2_with fail
  refine (make_any H0.out.tre _ _ _ _ _).mono ?_
  rintro e w2 ⟨i, r, rfl, hst⟩
  obtain ⟨S1, T1, h1, hr, _⟩ := H0.out.stp hst fun T' h => h.sound H0.out.snd
  obtain ⟨rfl, rfl, rfl⟩ := sh_make hr
  have H1 := Lib.hid h1
  clear hst hr h1
  go_wp2_with fail
  refine (enter_any H1.out.tre 1 2 _).mono ?_
  rintro e w3 ⟨r, rfl, hst⟩
  obtain ⟨S2, T2, h2, hr, _⟩ := H1.out.stp hst fun T' h => h.sound H1.out.snd
  obtain ⟨rfl, rfl⟩ := sh_enter hr
  have H2 := Lib.hid h2
  clear hst hr h2
  go_wp2_with fail
  refine (look_any H2.out.tre 2 _).mono ?_
  rintro e w4 ⟨he, rfl⟩
  replace he : e = .returned (.tuple #[.int .i64 1, .bool true]) := he.trans (congrArg _ (by kernel_rfl))
  subst he
  go_wp2_with fail
  refine (enter_any H2.out.tre 2 2 _).mono ?_
  rintro e w5 ⟨r, rfl, hst⟩
  obtain ⟨S3, T3, h3, hr, _⟩ := H2.out.stp hst fun T' h => h.sound H2.out.snd
  obtain ⟨rfl, rfl⟩ := sh_enter2 hr
  have H3 := Lib.hid h3
  clear hst hr h3
  go_wp2_with fail
  refine (drop_any H3.out.tre (hb_le (by decide +kernel) H3.out.snd) 2).mono ?_
  rintro e w6 ⟨r, rfl, hst⟩
  obtain ⟨S4, T4, h4, hr, _⟩ := H3.out.stp hst fun T' h => h.sound H3.out.snd
  obtain rfl := sh_drop hr
  have H4 := Lib.hid h4
  clear hst hr h4
  go_wp2_with fail
  refine (stat_any H4.out.tre 2).mono ?_
  rintro e w7 ⟨he, hb⟩
  replace he : e = .returned (.tuple #[.agg #[.int .i64 2, .int .i64 1, .int .i64 448, .int .i64 5, .int .i64 6, .int .i64 1, .int .i64 0, .int .i64 0], .bool true]) := he.trans (congrArg _ (by kernel_rfl))
  subst he
  have H5 := Lib.hid (H4.out.below hb)
  clear hb
  go_wp2_with fail
  refine (remove_any (H5.out.alloc _).tre 1 _).mono ?_
  rintro e w8 ⟨r, rfl, hst⟩
  obtain ⟨S6, T6, h6, hr, _⟩ := (H5.out.alloc _).stp hst fun T' h => h.sound H5.out.snd
  obtain ⟨rfl, rfl⟩ := sh_remove hr
  have H6 := Lib.hid h6
  clear hst hr h6
  go_wp2_with fail
  refine (stat_any H6.out.tre 2).mono ?_
  rintro e w9 ⟨he, hb⟩
  replace he : e = .returned (.tuple #[.agg #[.int .i64 0, .int .i64 0, .int .i64 0, .int .i64 0, .int .i64 0, .int .i64 0, .int .i64 0, .int .i64 0], .bool false]) := he.trans (congrArg _ (by kernel_rfl))
  subst he
  have H7 := Lib.hid (H6.out.below hb)
  clear hb
  go_wp2
  go_ret
  exact ⟨rfl, (H7.out.alloc _).own.below⟩
end Go.Proofs.Ytafonmnfeibaiaa
/- What the law InodeSound reckons: the links of a tree, counted name by name. No walk in sight. -/
namespace Go.Proofs.Ytafonmnfeibaiaa
open Go.RowKit

/-! ### the row of 201 numbers -/
def lkA (L : Nat → Nat) : Array Value := Array.ofFn (n := 201) fun i => .int .i64 (L i.val : Nat)
theorem lkA_size (L : Nat → Nat) : (lkA L).size = 201 := by simp [lkA]
theorem lkA_get (L : Nat → Nat) {i : Nat} (h : i < 201) : (lkA L)[i]? = some (.int .i64 (L i : Nat)) := by simp [lkA, h]
def bump (L : Nat → Nat) (x : Nat) : Nat → Nat := fun y => L y + if x = y then 1 else 0
theorem lkA_bump (L : Nat → Nat) {x : Nat} (_hx : x < 201) : (lkA L).setIfInBounds x (.int .i64 ((L x : Nat) + 1 : Int)) = lkA (bump L x) := by
  apply Array.ext_getElem?
  intro i
  rw [Array.getElem?_setIfInBounds, lkA_size]
  by_cases hi : i < 201
  · rw [lkA_get _ hi, lkA_get _ hi]
    unfold bump
    by_cases e : x = i
    · subst e; rw [if_pos rfl, if_pos (by omega), if_pos rfl]; rfl
    · rw [if_neg e, if_neg e]; rfl
  · have h1 : (lkA L)[i]? = none := Array.getElem?_eq_none (by rw [lkA_size]; omega)
    have h2 : (lkA (bump L x))[i]? = none := Array.getElem?_eq_none (by rw [lkA_size]; omega)
    rw [h1, h2, if_neg (by omega)]
theorem lkA_zero : lkA (fun _ => 0) = Array.replicate 201 (.int .i64 0) := by
  apply Array.ext_getElem?
  intro i
  by_cases hi : i < 201
  · rw [lkA_get _ hi]; simp [hi]
  · have h1 : (lkA (fun _ => 0))[i]? = none := Array.getElem?_eq_none (by rw [lkA_size]; omega)
    rw [h1]; simp [hi]
/-- The tree as it was left, and the row of numbers. -/
structure SL (n0 : Nat) (w1 wr : World) (t : Nat) (S : Tab) (T : IT.Tr) (b : Nat) (L : Nat → Nat) : Prop where
  tre : Tre wr t S T
  row : wr.heap[b]? = some (.cells (lkA L) 62 (0, 0))
  bel : Below n0 w1 wr
  le : n0 ≤ b
theorem SL.below {n0 : Nat} {w1 wr w' : World} {t : Nat} {S : Tab} {T : IT.Tr} {b : Nat} {L : Nat → Nat} (h : SL n0 w1 wr t S T b L) (hb : Below wr.heap.size wr w') (hn : n0 ≤ wr.heap.size) : SL n0 w1 w' t S T b L :=
  ⟨⟨h.tre.rep.same (fun c hc => hb.block c (h.tre.rep.foot_lt hc)), h.tre.ties, h.tre.snd⟩, (hb.block b (lt_of_heap h.row)).trans h.row, h.bel.trans (hb.mono hn), h.le⟩
theorem SL.cell {n0 : Nat} {w1 wr : World} {t : Nat} {S : Tab} {T : IT.Tr} {b : Nat} {L : Nat → Nat} (h : SL n0 w1 wr t S T b L) {x : Nat} (hx : x < 201) : wr.cell? ⟨b, x, none⟩ = some (.int .i64 (L x : Nat)) := (cell_of h.row x).trans (lkA_get L hx)
theorem SL.size {n0 : Nat} {w1 wr : World} {t : Nat} {S : Tab} {T : IT.Tr} {b : Nat} {L : Nat → Nat} (h : SL n0 w1 wr t S T b L) : n0 ≤ wr.heap.size := by have := lt_of_heap h.row; have := h.le; omega
theorem SL.bump {n0 : Nat} {w1 wr : World} {t : Nat} {S : Tab} {T : IT.Tr} {b : Nat} {L : Nat → Nat} (h : SL n0 w1 wr t S T b L) {x : Nat} (hx : x < 201) : SL n0 w1 (wr.setCell ⟨b, x, none⟩ (.int .i64 ((L x : Nat) + 1 : Int))) t S T b (Go.Proofs.Ytafonmnfeibaiaa.bump L x) :=
  ⟨⟨h.tre.rep.same (fun c hc => Below.heap_setCell _ _ _ _ (fun e => not_foot h.tre.rep h.row (by decide) (by decide) (by have e2 : c = b := e; rw [← e2]; exact hc))), h.tre.ties, h.tre.snd⟩, by rw [heap_setCell_same h.row, lkA_bump L hx], h.bel.trans ⟨rfl, rfl, rfl, by rw [World.size_setCell]; exact Nat.le_refl _, fun c hc => Below.heap_setCell _ _ _ _ (by have := h.le; show c ≠ b; omega)⟩, h.le⟩
/-- What has been counted when the names of all below d have been, and k of d's. -/
def part (T : IT.Tr) (d : Nat) (x : Nat) : Nat := ((List.range d).map fun k => IT.leadO x (T k)).sum
theorem part_succ (T : IT.Tr) (d x : Nat) : part T (d + 1) x = part T d x + IT.leadO x (T d) := by
  unfold part
  rw [List.range_succ, List.map_append, List.sum_append]
  simp
theorem part_one (T : IT.Tr) (h : T 0 = none) : part T 1 = fun _ => 0 := by
  funext x
  show (([0] : List Nat).map fun k => IT.leadO x (T k)).sum = 0
  simp [h, IT.leadO]
theorem part_all (T : IT.Tr) : part T 201 = IT.lnk T := rfl
def cntN (l : List (IT.Bytes × Nat)) (k : Nat) (x : Nat) : Nat := ((l.take k).filter fun p => decide (p.2 = x)).length
theorem cntN_zero (l : List (IT.Bytes × Nat)) : cntN l 0 = fun _ => 0 := by funext x; simp [cntN]
theorem cntN_all (m : IT.Nd) (x : Nat) : cntN m.names m.names.length x = IT.lead x m := by unfold cntN IT.lead; rw [List.take_length]
theorem cntN_succ {l : List (IT.Bytes × Nat)} {k : Nat} {p : IT.Bytes × Nat} (hp : l[k]? = some p) (x : Nat) : cntN l (k + 1) x = cntN l k x + if p.2 = x then 1 else 0 := by
  unfold cntN
  rw [List.take_add_one, hp, List.filter_append]
  simp only [Option.toList_some, List.length_append]
  by_cases e : p.2 = x
  · rw [if_pos e]; simp [e]
  · rw [if_neg e]; simp [e]
theorem bump_cnt {f : Nat → Nat} {l : List (IT.Bytes × Nat)} {k : Nat} {p : IT.Bytes × Nat} (hp : l[k]? = some p) : bump (fun x => f x + cntN l k x) p.2 = fun x => f x + cntN l (k + 1) x := by
  funext x
  show f x + cntN l k x + (if p.2 = x then 1 else 0) = f x + cntN l (k + 1) x
  rw [cntN_succ hp]
  omega
/-- A name of a directory is looked up. -/
theorem look_name {T : IT.Tr} (hs : IT.Sound0 okN T) {d : Nat} {m : IT.Nd} (hd : T d = some m) {p : IT.Bytes × Nat} (hp : p ∈ m.names) : lookT T d p.1 = some p.2 ∧ 1 ≤ p.2 ∧ p.2 ≤ 200 ∧ okN p.1 = true := by
  have hok := hs.okn d m p hd hp
  have h2 := of_decide_eq_true hok
  obtain ⟨q, hq⟩ := hs.lead d m p hd hp
  have hk : m.kind = 1 := by
    by_cases e : m.kind = 1
    · exact e
    · have := hs.leaf d m hd e; rw [this] at hp; cases hp
  refine ⟨?_, (hs.rng _ q hq).1, (hs.rng _ q hq).2, hok⟩
  unfold lookT
  rw [hd]
  dsimp only
  rw [if_neg (fun hh => hh hk), if_neg h2.2.2.1, if_neg h2.2.2.2.1]
  exact IT.find_of (hs.ord d m hd) hp
theorem none_lnk {T : IT.Tr} (hs : IT.Sound0 okN T) {d : Nat} (hd : T d = none) : IT.lnk T d = 0 := by
  cases hz : decide (IT.lnk T d = 0) with
  | true => exact of_decide_eq_true hz
  | false =>
    obtain ⟨k, n, p, h1, h2, h3⟩ := IT.lnk_from (of_decide_eq_false hz)
    obtain ⟨q, hq⟩ := hs.lead k n p h1 h2
    rw [h3, hd] at hq; cases hq
/-! ### the names of an inode, as they come -/
def nmsL (T : IT.Tr) (d : Nat) : List (IT.Bytes × Nat) := match T d with
  | none => []
  | some m => m.names
theorem nmsL_names (T : IT.Tr) (d : Nat) : namesT T d = (nmsL T d).map (·.1) := by
  unfold namesT nmsL
  cases T d <;> rfl
theorem nmsL_cnt (T : IT.Tr) (d x : Nat) : cntN (nmsL T d) (nmsL T d).length x = IT.leadO x (T d) := by
  unfold nmsL
  cases hd : T d with
  | none => rfl
  | some m => exact cntN_all m x
theorem nmsL_look {T : IT.Tr} (hs : IT.Sound0 okN T) {d : Nat} {p : IT.Bytes × Nat} (hp : p ∈ nmsL T d) : lookT T d p.1 = some p.2 ∧ 1 ≤ p.2 ∧ p.2 ≤ 200 ∧ okN p.1 = true := by
  unfold nmsL at hp
  cases hd : T d with
  | none => rw [hd] at hp; cases hp
  | some m => rw [hd] at hp; exact look_name hs hd hp
theorem nmsL_few {T : IT.Tr} (hs : IT.Sound0 okN T) (d : Nat) : (nmsL T d).length ≤ 40 := by
  unfold nmsL
  cases hd : T d with
  | none => exact Nat.zero_le _
  | some m => exact hs.few d m hd
theorem part_next (T : IT.Tr) (d : Nat) : (fun x => part T d x + cntN (nmsL T d) (nmsL T d).length x) = part T (d + 1) := by
  funext x
  show part T d x + cntN (nmsL T d) (nmsL T d).length x = part T (d + 1) x
  rw [part_succ, nmsL_cnt]
theorem part_le (T : IT.Tr) (x : Nat) : ∀ g d : Nat, d + g = 201 → part T d x ≤ IT.lnk T x
  | 0, d, h => by obtain rfl : d = 201 := by omega
                  exact Nat.le_refl _
  | g + 1, d, h => by
    have := part_le T x g (d + 1) (by omega)
    rw [part_succ] at this
    omega
theorem cntN_le (l : List (IT.Bytes × Nat)) (k x : Nat) : cntN l k x ≤ l.length := by
  unfold cntN
  exact Nat.le_trans (List.length_filter_le _ _) (by rw [List.length_take]; omega)
theorem cnt_small {T : IT.Tr} (hs : IT.Sound0 okN T) {d : Nat} (hd : d ≤ 201) (k x : Nat) : part T d x + cntN (nmsL T d) k x ≤ 48 := by
  have h1 := part_le T x (201 - d) d (by omega)
  have h2 := hs.many x
  have h3 := cntN_le (nmsL T d) k x
  have h4 := nmsL_few hs d
  omega
def NmAt (w : World) (b : Nat) (a : Option Addr) (l : List (IT.Bytes × Nat)) : Prop := ∀ (j : Nat) (p : IT.Bytes × Nat), l[j]? = some p → ∃ g : Nat, a = some ⟨g, 0, none⟩ ∧ g ≠ b ∧ w.cell? ⟨g, j, none⟩ = some (.string (tx p.1))
theorem NmAt.set {w : World} {b : Nat} {a : Option Addr} {l : List (IT.Bytes × Nat)} (h : NmAt w b a l) (x : Nat) (v : Value) : NmAt (w.setCell ⟨b, x, none⟩ v) b a l := fun j p hp => by
  obtain ⟨g, h1, h2, h3⟩ := h j p hp
  exact ⟨g, h1, h2, by rw [World.cell?_setCell_far _ _ _ _ (Ne.symm h2)]; exact h3⟩
theorem names_row {w' : World} {base b : Nat} {T : IT.Tr} {d : Nat} {v : Value} (h : w'.ownsRow base 9 1 v (namesT T d).length ((namesT T d).map encStr)) (hb : b < base) : ∃ a cap, v = .slice a (nmsL T d).length cap ∧ (nmsL T d).length ≤ cap ∧ cap ≤ maxLen ∧ NmAt w' b a (nmsL T d) := by
  have hlen : (namesT T d).length = (nmsL T d).length := by rw [nmsL_names, List.length_map]
  obtain ⟨h1, h2⟩ := h
  rcases h2 with ⟨e1, e2⟩ | ⟨g, cap, cur, e1, e2, e3, e4, e5, e6, e7⟩
  · refine ⟨none, 0, by rw [e1, ← hlen, e2], by omega, by decide, fun j p hp => ?_⟩
    have := (List.getElem?_eq_some_iff.1 hp).1
    omega
  · refine ⟨_, cap, by rw [e1, hlen], by omega, e5, fun j p hp => ⟨g, rfl, by omega, ?_⟩⟩
    have hj := (List.getElem?_eq_some_iff.1 hp).1
    have f1 : ((namesT T d).map encStr)[j]? = some (Value.string (tx p.1)) := by
      show _ = some (encStr p.1)
      rw [nmsL_names, List.map_map, List.getElem?_map, hp]; rfl
    rw [cell_of e3]
    rw [← e7] at f1
    rw [List.getElem?_take_of_lt (by omega)] at f1
    simpa using f1
/-- A row of ops that came in. -/
def OpsAt (w : World) (B : Nat) (a : Option Addr) (len : Nat) : Prop := ∀ j, j < len → ∃ b off K oa ob oc od s u, a = some ⟨b, off, none⟩ ∧ b < B ∧ -9223372036854775808 ≤ ob ∧ ob < 9223372036854775808 ∧
  w.cell? ⟨b, off + j * 7, none⟩ = some (.int .i64 K) ∧ w.cell? ⟨b, off + j * 7 + 1, none⟩ = some (.int .i64 oa) ∧ w.cell? ⟨b, off + j * 7 + 2, none⟩ = some (.int .i64 ob) ∧ w.cell? ⟨b, off + j * 7 + 3, none⟩ = some (.int .i64 oc) ∧ w.cell? ⟨b, off + j * 7 + 4, none⟩ = some (.int .i64 od) ∧ w.cell? ⟨b, off + j * 7 + 5, none⟩ = some (.string s) ∧ w.cell? ⟨b, off + j * 7 + 6, none⟩ = some (.string u)
end Go.Proofs.Ytafonmnfeibaiaa
/- The law's `as`, over both trees: the walk (as_any). -/
namespace Go.Proofs.Ytafonmnfeibaiaa
open Go.RowKit

set_option maxRecDepth 100000 in
set_option maxHeartbeats 4000000 in
theorem as_any {n0 : Nat} {w0 w : World} {t : Nat} {S : Tab} {T : IT.Tr} {r B : Nat} {G : RF.Gt} (h : Duo n0 w0 w t S T r B G T) (ki : Int) (s : ByteArray) :
    Calls Try.prog 30 #[.pointer (some ⟨t, 0, none⟩), .pointer (some ⟨r, 0, none⟩), .int .i64 ki, .string s] w fun e w' => e = .returned (.bool true) ∧ Below w.heap.size w w' := by
  have HD : Hid (∀ W, Below w.heap.size w W → Duo n0 w0 W t S T r B G T) := Lib.hid (fun W hb => h.below hb)
  obtain ⟨i0, i1, i2, i3, i4, i5, i6, i7, hst⟩ := statV_ints T ki.toNat
  have HS1 : Hid (∀ W, Below w.heap.size w W → Calls Try.prog 14 #[.pointer (some ⟨t, 0, none⟩), .int .i64 ki] W fun e w' => e = .returned (.tuple #[.agg #[.int .i64 i0, .int .i64 i1, .int .i64 i2, .int .i64 i3, .int .i64 i4, .int .i64 i5, .int .i64 i6, .int .i64 i7], .bool (T ki.toNat).isSome]) ∧ Below W.heap.size W w') := Lib.hid (fun W hb => by rw [← hst]; exact stat_any (HD.out W hb).a.tre ki)
  have HS2 : Hid (∀ W, Below w.heap.size w W → Calls Try.prog 68 #[.pointer (some ⟨r, 0, none⟩), .int .i64 ki] W fun e w' => e = .returned (.tuple #[.agg #[.int .i64 i0, .int .i64 i1, .int .i64 i2, .int .i64 i3, .int .i64 i4, .int .i64 i5, .int .i64 i6, .int .i64 i7], .bool (T ki.toNat).isSome]) ∧ Below W.heap.size W w') := Lib.hid (fun W hb => by rw [← hst]; exact RF.rf_stat (HD.out W hb).b ki)
  clear h hst
  generalize (T ki.toNat).isSome = q0 at *
  go_enter Try.func30, Try.ntmps30
  go_wp2_with fail
  refine (HS1.out w (Below.refl _ _)).mono ?_
  rintro e w1 ⟨rfl, hb1⟩
  go_upto_region 2 with fail
  have hb2 := hb1.alloc hb1.size (.cells #[.int .i64 i0, .int .i64 i1, .int .i64 i2, .int .i64 i3, .int .i64 i4, .int .i64 i5, .int .i64 i6, .int .i64 i7] 35)
  have hx1 := alloc_heap w1 (.cells #[.int .i64 i0, .int .i64 i1, .int .i64 i2, .int .i64 i3, .int .i64 i4, .int .i64 i5, .int .i64 i6, .int .i64 i7] 35)
  clear hb1
  generalize w1.alloc (.cells #[.int .i64 i0, .int .i64 i1, .int .i64 i2, .int .i64 i3, .int .i64 i4, .int .i64 i5, .int .i64 i6, .int .i64 i7] 35) = w2 at *
  generalize w1.heap.size = D1 at *
  have HB2 := Lib.hid hb2
  have HX1 := Lib.hid hx1
  clear hb2 hx1
  go_wp2_with fail
  refine (HS2.out w2 HB2.out).mono ?_
  rintro e w3 ⟨rfl, hb3⟩
  go_upto_region 3 with fail
  have hx1 := (hb3.block D1 (lt_of_heap HX1.out)).trans HX1.out
  have hb0 := HB2.out.trans (hb3.mono HB2.out.size)
  have hb4 := hb0.alloc hb0.size (.cells #[.int .i64 i0, .int .i64 i1, .int .i64 i2, .int .i64 i3, .int .i64 i4, .int .i64 i5, .int .i64 i6, .int .i64 i7] 35)
  have hx2 := alloc_heap w3 (.cells #[.int .i64 i0, .int .i64 i1, .int .i64 i2, .int .i64 i3, .int .i64 i4, .int .i64 i5, .int .i64 i6, .int .i64 i7] 35)
  have hx3 := (alloc_heap_old w3 (.cells #[.int .i64 i0, .int .i64 i1, .int .i64 i2, .int .i64 i3, .int .i64 i4, .int .i64 i5, .int .i64 i6, .int .i64 i7] 35) (lt_of_heap hx1)).trans hx1
  clear hb3 hb0 hx1 HX1 HB2
  generalize w3.alloc (.cells #[.int .i64 i0, .int .i64 i1, .int .i64 i2, .int .i64 i3, .int .i64 i4, .int .i64 i5, .int .i64 i6, .int .i64 i7] 35) = w4 at *
  generalize w3.heap.size = D2 at *
  have HB4 := Lib.hid hb4
  have HX1 := Lib.hid hx3
  have HX2 := Lib.hid hx2
  clear hb4 hx2 hx3
  go_wp2_with fail
  refine (names_any (HD.out w4 HB4.out).a.tre ki).mono ?_
  rintro e w5 ⟨v, rfl, hown, hnil, hb5⟩
  have hl40 : ((namesT T ki.toNat).map tx).length ≤ 1000000 := by
    rw [List.length_map, nmsL_names, List.length_map]
    have := nmsL_few (HD.out w4 HB4.out).a.snd.1 ki.toNat
    omega
  have HB5 := Lib.hid (HB4.out.trans (hb5.mono HB4.out.size))
  have HO5 := Lib.hid hown
  have HX3 := Lib.hid ((hb5.block D1 (lt_of_heap HX1.out)).trans HX1.out)
  have HX4 := Lib.hid ((hb5.block D2 (lt_of_heap HX2.out)).trans HX2.out)
  have HNW := Lib.hid hb5
  have HY1 := Lib.hid HX1.out
  have HY2 := Lib.hid HX2.out
  clear hown hnil hb5 HX1 HX2
  go_wp2_with fail
  refine (RF.rf_names (HD.out w5 HB5.out).b ki).mono ?_
  rintro e w6 ⟨v2, rfl, hown2, _, hb6⟩
  have HS := Lib.hid (same_eq w6 v v2 _ ((Sl.names HO5.out).below hb6) (Sl.names hown2) hl40)
  have HB6 := Lib.hid (HB5.out.trans (hb6.mono HB5.out.size))
  have HO6 := Lib.hid hb6
  have HX1 := Lib.hid ((hb6.block D1 (lt_of_heap HX3.out)).trans HX3.out)
  have HX2 := Lib.hid ((hb6.block D2 (lt_of_heap HX4.out)).trans HX4.out)
  clear hown2 hb6 HX3 HX4
  go_wp2_with fail
  refine HS.out.mono ?_
  rintro e w7 ⟨rfl, nq, rfl⟩
  have hb7 : Below w4.heap.size w4 (w6.drewN nq) := HNW.out.trans ((belowDrewN HO6.out nq).mono HNW.out.size)
  have hn7 : RF.Nr (w6.drewN nq) w4.heap.size v ((namesT T ki.toNat).map tx) := by
    refine RF.Nr.below ?_ (belowDrewN HO6.out nq)
    unfold RF.Nr
    rw [List.length_map, List.map_map]
    exact HO5.out
  generalize w6.drewN nq = w7 at *
  generalize (namesT T ki.toNat).map tx = A0 at *
  obtain ⟨n, hn⟩ : ∃ n, A0.length = n := ⟨_, rfl⟩
  obtain ⟨a5, cap5, rfl, _, _, _⟩ := hn7.lit
  rw [hn] at hn7 hl40
  rw [hn]
  have HI0 := Lib.hid (And.intro hn7 (And.intro hb7 hn))
  clear hb7 hn7 hn
  go_wp2_with fail
  go_loopg [15] n (fun g iv wr => ∃ (i : Nat) (A : List ByteArray), iv = .int .i64 (i : Int) ∧ i + g = n ∧ Hid (RF.Nr wr w4.heap.size (.slice a5 n cap5) A ∧ Below w4.heap.size w4 wr ∧ A.length = n))
  case atStart => exact ⟨0, A0, rfl, by omega, HI0⟩
  case round =>
    clear HI0
    obtain ⟨i, A, rfl, hig, HI⟩ := hrel
    by_cases hin : i < n
    · obtain ⟨og, rfl⟩ : ∃ og, gk = og + 1 := ⟨gk - 1, by omega⟩
      have hin2 : (i : Int) < n := by omega
      obtain ⟨a6, cap6, e6, _, _, hl4⟩ := HI.out.1.lit
      obtain ⟨go, ha6, hgo, hc, hf, hst⟩ := hl4 i (A[i]'(by rw [HI.out.2.2]; exact hin)) (List.getElem?_eq_getElem _)
      have e7 : a5 = a6 := by simp only [Value.slice.injEq] at e6; exact e6.1
      rw [ha6] at e7
      subst e7
      have HN : Hid (RF.Nr (wr.setCell ⟨go, i, none⟩ (.string ⟨#[63]⟩)) w4.heap.size (.slice (some ⟨go, 0, none⟩) n cap5) (A.set i ⟨#[63]⟩) ∧ Below w4.heap.size w4 (wr.setCell ⟨go, i, none⟩ (.string ⟨#[63]⟩)) ∧ (A.set i ⟨#[63]⟩).length = n) := Lib.hid ⟨hst _, HI.out.2.1.setCell hgo _, by rw [List.length_set]; exact HI.out.2.2⟩
      clear hl4 hst e6 ha6
      go_wp2
      go_roundg og
      case measure => omega
      case rel => exact ⟨i + 1, _, by go_num, by omega, HN⟩
    · have hin2 : (n : Int) ≤ i := by omega
      have HB := Lib.hid (HB4.out.trans (HI.out.2.1.mono HB4.out.size))
      have HDW := Lib.hid (HD.out wr HB.out)
      have x1 := (HI.out.2.1.block D1 (lt_of_heap HY1.out)).trans HY1.out
      have x2 := (HI.out.2.1.block D2 (lt_of_heap HY2.out)).trans HY2.out
      have lk : ∀ o : Option Nat, ∃ (c : Int) (b : Bool), lookV o = .tuple #[.int .i64 c, .bool b] := fun o => ⟨_, _, rfl⟩
      obtain ⟨c1, b1, hk1⟩ := lk (lookT T ki.toNat (bs ⟨#[46, 46]⟩))
      obtain ⟨c2, b2, hk2⟩ := lk (lookT T ki.toNat (bs s))
      have HL1 := Lib.hid (look_any HDW.out.a.tre ki ⟨#[46, 46]⟩)
      have HL2 := Lib.hid (RF.rf_look HDW.out.b ki ⟨#[46, 46]⟩)
      have HL3 := Lib.hid (look_any HDW.out.a.tre ki s)
      have HL4 := Lib.hid (RF.rf_look HDW.out.b ki s)
      rw [hk1] at HL1 HL2
      rw [hk2] at HL3 HL4
      clear lk hk1 hk2
      go_wp2_with fail
      refine HL1.out.mono ?_
      rintro e w8 ⟨rfl, rfl⟩
      go_wp2_with fail
      refine HL2.out.mono ?_
      rintro e w8 ⟨rfl, rfl⟩
      go_wp2_with fail
      refine HL3.out.mono ?_
      rintro e w8 ⟨rfl, rfl⟩
      go_wp2_with fail
      refine HL4.out.mono ?_
      rintro e w8 ⟨rfl, rfl⟩
      have d0 : wr.cell? ⟨D1, 0, none⟩ = some (.int .i64 i0) := cell_of x1 0
      have d1 : wr.cell? ⟨D1, 1, none⟩ = some (.int .i64 i1) := cell_of x1 1
      have d2 : wr.cell? ⟨D1, 2, none⟩ = some (.int .i64 i2) := cell_of x1 2
      have d3 : wr.cell? ⟨D1, 3, none⟩ = some (.int .i64 i3) := cell_of x1 3
      have d4 : wr.cell? ⟨D1, 4, none⟩ = some (.int .i64 i4) := cell_of x1 4
      have d5 : wr.cell? ⟨D1, 5, none⟩ = some (.int .i64 i5) := cell_of x1 5
      have d6 : wr.cell? ⟨D1, 6, none⟩ = some (.int .i64 i6) := cell_of x1 6
      have d7 : wr.cell? ⟨D1, 7, none⟩ = some (.int .i64 i7) := cell_of x1 7
      have f0 : wr.cell? ⟨D2, 0, none⟩ = some (.int .i64 i0) := cell_of x2 0
      have f1 : wr.cell? ⟨D2, 1, none⟩ = some (.int .i64 i1) := cell_of x2 1
      have f2 : wr.cell? ⟨D2, 2, none⟩ = some (.int .i64 i2) := cell_of x2 2
      have f3 : wr.cell? ⟨D2, 3, none⟩ = some (.int .i64 i3) := cell_of x2 3
      have f4 : wr.cell? ⟨D2, 4, none⟩ = some (.int .i64 i4) := cell_of x2 4
      have f5 : wr.cell? ⟨D2, 5, none⟩ = some (.int .i64 i5) := cell_of x2 5
      have f6 : wr.cell? ⟨D2, 6, none⟩ = some (.int .i64 i6) := cell_of x2 6
      have f7 : wr.cell? ⟨D2, 7, none⟩ = some (.int .i64 i7) := cell_of x2 7
      have heq := fun W => info_same W i0 i1 i2 i3 i4 i5 i6 i7
      have HDA := Lib.hid (data_any HDW.out.a.tre ki)
      have HDB : Hid (Calls Try.prog 72 #[.pointer (some ⟨r, 0, none⟩), .int .i64 ki] wr fun e w' => e = .returned (.string (tx (dataT T ki.toNat))) ∧ wr = w') := Lib.hid (by
        have := RF.rf_data HDW.out.b ki
        unfold dataT
        cases hT : T ki.toNat <;> rw [hT] at this <;> exact this)
      clear x1 x2
      go_wp2_with fail
      refine HDA.out.mono ?_
      rintro e w8 ⟨rfl, rfl⟩
      go_wp2_with fail
      refine HDB.out.mono ?_
      rintro e w8 ⟨rfl, rfl⟩
      go_wp2
      go_ret
      exact ⟨rfl, HB.out⟩
end Go.Proofs.Ytafonmnfeibaiaa
/- The law InodePlays: the walk. -/
namespace Go.Proofs.Ytafonmnfeibaiaa
open Go.RowKit

theorem root_hb (m o g : Int) : HB (IT.rootT m o g) 1 := fun k n hk => by obtain ⟨_, rfl⟩ := IT.rootT_get hk; exact Nat.zero_le _
set_option maxRecDepth 100000 in
set_option maxHeartbeats 4000000 in
theorem plays_any (mo ow : Int) (hmo : mo < 9223372036854775808) (a : Option Addr) (len cap : Nat) (w : World) (hl : len ≤ maxLen) (h0 : OpsAt w w.heap.size a len) :
    Calls Try.prog 7 #[.int .i64 mo, .int .i64 ow, .slice a len cap] w fun e w' => e = .returned (.bool true) ∧ Below w.heap.size w w' := by
  unfold maxLen at hl
  have HS := Lib.hid h0
  clear h0
  cases hr : rightB mo ow ow with
  | false =>
    go_enter Try.func7, Try.ntmps7
    go_wp2_with fail
    refine (shown_any w).mono ?_
    rintro e w1 ⟨rfl, hb⟩
    have HB1 := Lib.hid hb
    clear hb
    go_wp2_with fail
    refine (new_bad _ _ _ _ hr).mono ?_
    rintro e w2 ⟨rfl, rfl⟩
    go_wp2_with fail
    refine (RF.rf_new_bad _ _ _ hmo _ hr).mono ?_
    rintro e w3 ⟨rfl, rfl⟩
    go_wp2
    go_ret
    exact ⟨rfl, HB1.out⟩
  | true =>
    go_enter Try.func7, Try.ntmps7
    go_wp2_with fail
    refine (shown_any w).mono ?_
    rintro e w1 ⟨rfl, hb⟩
    have HB1 := Lib.hid hb
    clear hb
    go_wp2_with fail
    refine (new_ok _ _ _ _ hr).mono ?_
    rintro e w2 ⟨t, S0, rfl, ho⟩
    have H0 := Lib.hid ho
    clear ho
    go_wp2_with fail
    refine (RF.rf_new _ _ _ hmo _ hr).mono ?_
    rintro e w3 ⟨r, B, G0, rfl, hr1, hr2, hbl, htr⟩
    have HI0 : Hid (Duo w1.heap.size w1 w3 t S0 (IT.rootT mo ow ow) r B G0 (IT.rootT mo ow ow) ∧ HB (IT.rootT mo ow ow) (0 + 1)) := Lib.hid ⟨⟨H0.out.below hbl, htr, by have := H0.out.own.le; omega⟩, root_hb _ _ _⟩
    clear hr1 hr2 hbl htr H0
    go_wp2_with fail
    go_loopg [10] 120 (fun g iv wr => ∃ (k : Nat) (S : Tab) (T : IT.Tr) (G : RF.Gt), iv = .int .i64 (k : Int) ∧ k + g = 120 ∧ Hid (Duo w1.heap.size w1 wr t S T r B G T ∧ HB T (k + 1)))
    case atStart => exact ⟨0, _, _, _, rfl, rfl, HI0⟩
    case round =>
      clear HI0
      obtain ⟨k, S, T, G, rfl, hkg, HI⟩ := hrel
      by_cases hc : k < len ∧ k < 120
      · obtain ⟨hk1, hk2⟩ := hc
        obtain ⟨og, rfl⟩ : ∃ og, gk = og + 1 := ⟨gk - 1, by omega⟩
        obtain ⟨b, off, K, oa, ob, oc, od, s, u, rfl, hbb, hm1, hm2, q0, q1, q2, q3, q4, q5, q6⟩ := HS.out k hk1
        have tr : ∀ (i : Nat) (v : Value), w.cell? ⟨b, i, none⟩ = some v → wr.cell? ⟨b, i, none⟩ = some v := fun i v hv => by
          rw [HI.out.1.a.own.below.cell (p := ⟨b, i, none⟩) (by have := HB1.out.size; simp; omega), HB1.out.cell (p := ⟨b, i, none⟩) hbb]; exact hv
        have p0 := tr _ _ q0
        have p1 := tr _ _ q1
        have p2 := tr _ _ q2
        have p3 := tr _ _ q3
        have p4 := tr _ _ q4
        have p5 := tr _ _ q5
        have p6 := tr _ _ q6
        clear tr q0 q1 q2 q3 q4 q5 q6
        have hk3 : (k : Int) < len := by omega
        have hk4 : (k : Int) < 120 := by omega
        by_cases h5 : s.size ≤ 5000
        case' pos =>
          have h6 : (s.size : Int) ≤ 5000 := by omega
          go_wp2_with fail
          clear p0 p1 p2 p3 p4 p5 p6
        case' neg =>
          have h6 : (5000 : Int) < s.size := by omega
          go_wp2_with fail
          have h5' : (s.extract 0 5000).size ≤ 5000 := by rw [ByteArray.size_extract]; omega
          clear p0 p1 p2 p3 p4 p5 p6 h5 h6
          generalize s.extract 0 5000 = s at *
          have h5 := h5'
          clear h5'
        all_goals
          have hd := HI.out.1.below ((Below.refl _ _).alloc (Nat.le_refl _) (.cells #[.int .i64 K, .int .i64 oa, .int .i64 ob, .int .i64 oc, .int .i64 od, .string s, .string u] 60))
          have hx := alloc_heap wr (.cells #[.int .i64 K, .int .i64 oa, .int .i64 ob, .int .i64 oc, .int .i64 od, .string s, .string u] 60)
          have HHB := Lib.hid HI.out.2
          clear HI
          generalize wr.alloc (.cells #[.int .i64 K, .int .i64 oa, .int .i64 ob, .int .i64 oc, .int .i64 od, .string s, .string u] 60) = W at *
          generalize wr.heap.size = D at *
          refine (does_any hd (n := k + 1) (by omega) (by omega) HHB.out HHB.out K oa ob oc od s u hm1 hm2 (by unfold maxLen; omega)).mono ?_
          rintro e w5 ⟨c, rfl, S', T', G', T2', hd2, hx1, hx2, hlay, heq⟩
          obtain ⟨rfl, rfl⟩ := heq rfl
          have HJ0 := Lib.hid (And.intro hd2 (hlay.2 D _ _ _ hx (by decide) (by decide) (by decide)))
          have HX1 := Lib.hid hx1
          clear hd hx hd2 hx1 hx2 hlay heq HHB
          go_wp2_with fail
          go_loopg [13] 15 (fun g jv wr => ∃ j : Nat, jv = .int .i64 (j : Int) ∧ j + g = 15 ∧ Hid (Duo w1.heap.size w1 wr t S' T' r B G' T' ∧ wr.heap[D]? = some (.cells #[.int .i64 K, .int .i64 oa, .int .i64 ob, .int .i64 oc, .int .i64 od, .string s, .string u] 60 (0, 0))))
          case atStart => exact ⟨0, rfl, rfl, HJ0⟩
          case round =>
            clear HJ0
            obtain ⟨j, rfl, hjg, HJ⟩ := hrel
            by_cases hj : j ≤ 14
            · obtain ⟨jg, rfl⟩ : ∃ jg, gk = jg + 1 := ⟨gk - 1, by omega⟩
              have hj2 : (j : Int) ≤ 14 := by omega
              have d5 : wr.cell? ⟨D, 5, none⟩ = some (.string s) := cell_of HJ.out.2 5
              go_wp2_with fail
              refine (as_any HJ.out.1 (j : Int) s).mono ?_
              rintro e w6 ⟨rfl, hb6⟩
              have HN := Lib.hid (And.intro (HJ.out.1.below hb6) ((hb6.block D (lt_of_heap HJ.out.2)).trans HJ.out.2))
              clear hb6 d5
              go_wp2
              go_roundg jg
              case measure => omega
              case rel => exact ⟨j + 1, by go_num, by omega, HN⟩
            · have hj2 : ¬ (j : Int) ≤ 14 := by omega
              have d1 : wr.cell? ⟨D, 1, none⟩ = some (.int .i64 oa) := cell_of HJ.out.2 1
              have d6 : wr.cell? ⟨D, 6, none⟩ = some (.string u) := cell_of HJ.out.2 6
              clear hj
              go_wp2_with fail
              refine (as_any HJ.out.1 oa u).mono ?_
              rintro e w6 ⟨rfl, hb6⟩
              have HN := Lib.hid (And.intro (HJ.out.1.below hb6) HX1.out)
              clear hb6 d1 d6
              go_wp2
              go_roundg og
              case measure => omega
              case rel => exact ⟨k + 1, S', T', G', by go_num, by omega, HN⟩
      · have HEND := Lib.hid (HB1.out.trans (HI.out.1.a.own.below.mono HB1.out.size))
        clear HI HS
        by_cases hkl : k < len
        · have hk3 : (k : Int) < len := by omega
          have hk4 : (120 : Int) ≤ k := by omega
          clear hc
          go_wp2
          go_ret
          exact ⟨rfl, HEND.out⟩
        · have hk3 : (len : Int) ≤ k := by omega
          clear hc
          go_wp2
          go_ret
          exact ⟨rfl, HEND.out⟩
end Go.Proofs.Ytafonmnfeibaiaa
/- Ops that came in, opened. -/
namespace Go.Proofs.Ytafonmnfeibaiaa
open Go.ChangeShapes Go.WideShapes Go.ChangeAt Go.RowKit
open Go.Deep (open_slice)

theorem opCells9 : Try.prog.cellsOf 9 = 1 := by kernel_rfl
theorem opCells3 : Try.prog.cellsOf 3 = 1 := by kernel_rfl
theorem opCells : Try.prog.cellsOf 60 = 7 := by kernel_rfl
theorem op_drop {cs : List Value} {k : Nat} {v : Value} (h : (cs.drop k).take 1 = [v]) : cs[k]? = some v := by
  have := congrArg (fun l : List Value => l[0]?) h
  simpa using this
theorem op_wf {a : Int} (h : (Lit.int .i64 a).wf = true) : -9223372036854775808 ≤ a ∧ a < 9223372036854775808 := by
  simp only [Lit.wf, Bool.and_eq_true, decide_eq_true_eq] at h
  exact ⟨h.1, by have := h.2; change a ≤ 9223372036854775807 at this; omega⟩
set_option maxHeartbeats 1000000 in
theorem op_int {H : Type} {enc : TypeId × Value → H} {W : World} {sp : Nat → Bool} {n : Nat} {cs : List Value} {xs : List (DataW H × List MemPlace)} {k : Nat} {y : DataW H × List MemPlace} (h : DataW.trod enc Try.prog W 0 sp true n 3 ((cs.drop k).take (Try.prog.cellsOf 3)) = some y) (_hx : xs[k]? = some y) : ∃ v : Int, cs[k]? = some (.int .i64 v) ∧ -9223372036854775808 ≤ v ∧ v < 9223372036854775808 := by
  rw [opCells3] at h
  obtain ⟨v, e, _, hw⟩ := DataW.trod_int Try.underlying3 h
  exact ⟨v, op_drop e, op_wf hw⟩
theorem op_str {H : Type} {enc : TypeId × Value → H} {W : World} {sp : Nat → Bool} {n : Nat} {cs : List Value} {xs : List (DataW H × List MemPlace)} {k : Nat} {y : DataW H × List MemPlace} (h : DataW.trod enc Try.prog W 0 sp true n 9 ((cs.drop k).take (Try.prog.cellsOf 9)) = some y) (_hx : xs[k]? = some y) : ∃ s : ByteArray, cs[k]? = some (.string s) := by
  rw [opCells9] at h
  obtain ⟨s, e, _, _⟩ := DataW.trod_string Try.underlying9 h
  exact ⟨s, op_drop e⟩
set_option maxHeartbeats 1000000 in
theorem op_opened {H : Type} {enc : TypeId × Value → H} {W : World} {sp : Nat → Bool} {fuel : Nat} {cs : List Value} {x : DataW H × List MemPlace} (h : DataW.trod enc Try.prog W 0 sp true fuel 60 cs = some x) :
    ∃ (K oa ob oc od : Int) (s u : ByteArray), -9223372036854775808 ≤ ob ∧ ob < 9223372036854775808 ∧ ∀ i, i < 7 → cs[i]? = (opC K oa ob oc od s u)[i]? := by
  obtain ⟨xs, n, _, rfl, hl, hlen, hf⟩ := DataW.trod_struct Try.underlying60 h
  have hx : ∀ i, i < 7 → ∃ y, xs[i]? = some y := fun i hi => ⟨_, List.getElem?_eq_getElem (by rw [hlen]; exact hi)⟩
  obtain ⟨y0, e0⟩ := hx 0 (by decide)
  obtain ⟨y1, e1⟩ := hx 1 (by decide)
  obtain ⟨y2, e2⟩ := hx 2 (by decide)
  obtain ⟨y3, e3⟩ := hx 3 (by decide)
  obtain ⟨y4, e4⟩ := hx 4 (by decide)
  obtain ⟨y5, e5⟩ := hx 5 (by decide)
  obtain ⟨y6, e6⟩ := hx 6 (by decide)
  obtain ⟨K, c0, _⟩ := op_int ((hf 0 _ rfl).trans e0) e0
  obtain ⟨oa, c1, _⟩ := op_int ((hf 1 _ rfl).trans e1) e1
  obtain ⟨ob, c2, h1, h2⟩ := op_int ((hf 2 _ rfl).trans e2) e2
  obtain ⟨oc, c3, _⟩ := op_int ((hf 3 _ rfl).trans e3) e3
  obtain ⟨od, c4, _⟩ := op_int ((hf 4 _ rfl).trans e4) e4
  obtain ⟨s, c5⟩ := op_str ((hf 5 _ rfl).trans e5) e5
  obtain ⟨u, c6⟩ := op_str ((hf 6 _ rfl).trans e6) e6
  refine ⟨K, oa, ob, oc, od, s, u, h1, h2, fun i hi => ?_⟩
  obtain rfl | rfl | rfl | rfl | rfl | rfl | rfl : i = 0 ∨ i = 1 ∨ i = 2 ∨ i = 3 ∨ i = 4 ∨ i = 5 ∨ i = 6 := by omega
  · exact c0
  · exact c1
  · exact c2
  · exact c3
  · exact c4
  · exact c5
  · exact c6
theorem op_add (b o j : Nat) : (⟨b, o, none⟩ : Addr).add j = ⟨b, o + j, none⟩ := by
  cases j <;> rfl
theorem op_cells_get {W : World} {a : Addr} {n : Nat} {cs : List Value} (h : W.cells? 0 a n = some cs) (i : Nat) (hi : i < n) : W.cell? (a.add i) = cs[i]? := by
  unfold World.cells? at h
  rw [if_pos (Nat.zero_le _)] at h
  exact mapM_some_get h i i (by simp [hi])
theorem ops_of {H : Type} {enc : TypeId × Value → H} {W : World} {a : Option Addr} {len cap : Nat} {d : DataW H} {p : List MemPlace} (h : ∃ n, DataW.trod enc Try.prog W 0 (fun _ => true) true n 56 (Value.cells (.slice a len cap)).toList = some (d, p)) :
    len ≤ maxLen ∧ OpsAt W W.heap.size a len := by
  obtain ⟨fuel, hf⟩ := h
  rcases open_slice Try.underlying56 hf with ⟨hcs, _⟩ | ⟨x, l, c, m, nn, D, Pl, hcs, _, hl, hm, hz, _, hel⟩
  · simp [Value.cells] at hcs
    obtain ⟨rfl, rfl, rfl⟩ := hcs
    exact ⟨Nat.zero_le _, fun j hj => absurd hj (Nat.not_lt_zero j)⟩
  · simp [Value.cells] at hcs
    obtain ⟨rfl, rfl, rfl⟩ := hcs
    simp only [if_true] at hz
    have each : ∀ j, j < len → ∃ (K oa ob oc od : Int) (s u : ByteArray), -9223372036854775808 ≤ ob ∧ ob < 9223372036854775808 ∧ ∀ i, i < 7 → W.cell? ((x.add (j * 7)).add i) = (opC K oa ob oc od s u)[i]? := fun j hj => by
      obtain ⟨cs', h1, h2⟩ := hel j (by omega)
      rw [opCells] at h1
      obtain ⟨K, oa, ob, oc, od, s, u, e1, e2, e3⟩ := op_opened h2
      exact ⟨K, oa, ob, oc, od, s, u, e1, e2, fun i hi => (op_cells_get h1 i hi).trans (e3 i hi)⟩
    refine ⟨by omega, fun j hj => ?_⟩
    obtain ⟨b, off, spot⟩ := x
    obtain ⟨K0, _, _, _, _, _, _, _, _, g0⟩ := each 0 (by omega)
    have h00 : W.cell? (((⟨b, off, spot⟩ : Addr).add (0 * 7)).add 0) = some (.int .i64 K0) := g0 0 (by decide)
    have hspot : spot = none := by simpa [Addr.add] using World.cell?_spot h00
    subst hspot
    obtain ⟨K, oa, ob, oc, od, s, u, e1, e2, e3⟩ := each j hj
    have q : ∀ i, i < 7 → W.cell? ⟨b, off + j * 7 + i, none⟩ = (opC K oa ob oc od s u)[i]? := fun i hi => by
      have := e3 i hi
      rw [op_add, op_add] at this
      exact this
    have q0 : W.cell? ⟨b, off + j * 7, none⟩ = some (.int .i64 K) := q 0 (by decide)
    exact ⟨b, off, K, oa, ob, oc, od, s, u, rfl, World.block_lt_of_cell? W ⟨b, off + j * 7, none⟩ q0, e1, e2, q0, q 1 (by decide), q 2 (by decide), q 3 (by decide), q 4 (by decide), q 5 (by decide), q 6 (by decide)⟩
end Go.Proofs.Ytafonmnfeibaiaa
namespace Go.Proofs.Ytafonmnfeibaiaa.inodePlays
open Go.ChangeShapes Go.WideShapes Go.ChangeAt Go.RowKit
open Go.ChangeMaps (open_string shut_string)
set_option linter.unusedVariables false

theorem own : ownKnob Try.prog.godebug = none := by kernel_rfl
theorem laidOut : laidOutB Try.prog = true := by kernel_rfl

set_option maxRecDepth 100000 in
theorem lifted (os : Os) (started : os.Started) (H : Type) (enc : TypeId × Value → H) :
    ReturnsInHanded {} Try.checked os 7 .any (Rows.inodePlaysSpec.pre6 enc Try.prog Try.f7 Rows.inodePlaysRow.domain false) (Rows.inodePlaysSpec.post enc Try.prog Try.f7 false true false false) := by
  refine returnsInHanded_of_change (C := Try.checked) own started (by kernel_rfl) Try.func7
    (ChangeSpec.witness6 (enc := enc) (C := Try.checked) false ⟨#[], #[.int .i64 0, .int .i64 0, .slice none 0 0], []⟩ 8 (by kernel_rfl) (by kernel_rfl) (by kernel_rfl) (by kernel_rfl)) ?_
  intro W base args ds gs before hval0 hW hcnd _
  have hval : ∀ (j : Nat) t v, Try.f7.params[j]? = some t → args[j]? = some v → Value.okWide Try.prog W .any base t v := hval0
  have hW' := hW
  obtain ⟨p, q, hA0, hV, rfl, hfz, hnd⟩ := hW
  have hA : DataW.TrodAll enc Try.prog W 0 (fun _ => true) true Try.f7.params.toList args.toList ds p := hA0
  rw [Try.params7] at hA hval
  obtain ⟨v0, vs0, d0, ds0, p0, q0, hargs, rfl, rfl, h0, r0⟩ := trodAll_cons hA
  obtain ⟨v1, vs1, d1, ds1, p1, q1, rfl, rfl, rfl, h1, r1⟩ := trodAll_cons r0
  obtain ⟨v2, vs2, d2, ds2, p2, q2, rfl, rfl, rfl, h2, r2⟩ := trodAll_cons r1
  obtain ⟨rfl, rfl, rfl⟩ := trodAll_nil r2
  obtain rfl : args = #[v0, v1, v2] := by cases args; simp_all
  obtain ⟨rfl, rfl⟩ := trodVars_none hV
  obtain ⟨a0, rfl, rfl, rfl, w0⟩ := open_int Try.underlying3 (hval 0 3 v0 rfl rfl) h0
  obtain ⟨a1, rfl, rfl, rfl, w1⟩ := open_int Try.underlying3 (hval 1 3 v1 rfl rfl) h1
  obtain ⟨a2, len2, cap2, rfl⟩ := okWide_slice Try.underlying56 (hval 2 56 v2 rfl rfl)
  have lt2 : ∀ x ∈ p2, x.block < W.heap.size := by obtain ⟨m, hm⟩ := h2; exact DataW.trod_lt m _ _ _ hm
  obtain ⟨m2, w2⟩ := ops_of h2
  clear hA0 hval0
  refine (plays_any a0 a1 (op_wf w0).2 a2 len2 cap2 W m2 w2).mono fun e W' ⟨he, bel⟩ => ?_
  subst he
  exact ⟨_, rfl, _, _, _, [], _, [], hW', trodAll_mk1 (shut_bool Try.underlying4 _), (trodAll_cons_mk (shut_int Try.underlying3 w0) (trodAll_cons_mk (shut_int Try.underlying3 w1) (trodAll_cons_mk (Below.trod laidOut (by kernel_rfl) (of_decide_eq_true (by kernel_rfl)) h2 bel lt2) trodAll_mk0))), rfl, bel.frame _, fun h => by cases h⟩

theorem over : Rows.inodePlaysRow.holds Try.pinned (OpenSpec.ofChange Rows.inodePlaysSpec) :=
  OpenClaim.holds_of_wide 7 Try.f7 rfl rfl rfl rfl rfl rfl rfl ⟨rfl, rfl, rfl, rfl, rfl⟩ rfl rfl rfl rfl rfl (by kernel_rfl) Try.func7 (by kernel_rfl)
    (of_decide_eq_true (by kernel_rfl)) (by unfold Func.isWrapper; first | (rw [if_pos (by decide +kernel)]; kernel_rfl) | (rw [if_neg (by decide +kernel)]; exact ⟨rfl, rfl⟩))
    (fun os started H enc _ => lifted os started H enc)

/-- The statement. -/
theorem proved : Rows.InodePlaysSaid :=
  over
#print axioms proved
end Go.Proofs.Ytafonmnfeibaiaa.inodePlays
