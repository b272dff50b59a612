/- Part 5 of the proof: contracts of functions that the statement reaches, and plain lemmas. -/
import Derived.Test.YtafonmnfeibaiaaGreatAll3
import Derived.Test.YtafonmnfeibaiaaGreatAll0
import Derived.Test.YtafonmnfeibaiaaGreatAll1
import Derived.Deep.MidRow
import Derived.Deep.QuietTactic
import Derived.BigQuiet
import Derived.Deep.Cut
import Derived.Deep.RegionHeld3
import Derived.Deep.CutRange
import Derived.Test.YtafonmnfeibaiaaGreatAll2
import Derived.Deep.AppendLies
import Derived.Laws.OwnMore
set_option linter.all false
set_option maxRecDepth 100000
set_option maxHeartbeats 100000000
namespace Go.Proofs.YtafonmnfeibaiaaGreat
open Go.RowKit
theorem RF.Rf.mv {w w' : World} {t r B : Nat} {S S' : Tab} {G : RF.Gt} (h : RF.Rf w r B G) (hr : Rep w t S) (g : Mv w t S w' S') : RF.Rf w' r B G :=
 ⟨(g.block r h.ltT (not_foot hr h.tree (by decide) (by decide))).trans h.tree, (g.block B h.ltB (not_foot hr h.row (by decide) (by decide))).trans h.row,
   fun k hk => (h.ents k hk).same fun g0 _ _ hg => g.block g0 (lH hg) (not_foot hr hg (by decide) (by decide))⟩
theorem Rep.mo {w w' : World} {t r B : Nat} {S : Tab} {G : RF.Gt} (h : Rep w t S) (hr : RF.Rf w r B G) (g : RF.Mo B w w') : Rep w' t S :=
 h.same fun b hb => g.block b (h.foot_lt hb) (fun e => not_foot h hr.row (by decide) (by decide) (e ▸ hb))
structure Duo (n0 : Nat) (w0 w : World) (t : Nat) (S : Tab) (T : IT.Tr) (r B : Nat) (G : RF.Gt) (T2 : IT.Tr) : Prop where
 a : Tro n0 w0 w t S T
 b : RF.Trf w r B G T2
 le : n0 ≤ B
theorem Duo.below {n0 : Nat} {w0 w w' : World} {t : Nat} {S : Tab} {T : IT.Tr} {r B : Nat} {G : RF.Gt} {T2 : IT.Tr} (h : Duo n0 w0 w t S T r B G T2) (hb : Below w.heap.size w w') : Duo n0 w0 w' t S T r B G T2 :=
 ⟨h.a.below hb, ⟨h.b.rep.below hb, h.b.ties, h.b.snd⟩, h.le⟩
theorem Duo.stp {n0 : Nat} {w0 w w' : World} {t : Nat} {S : Tab} {T : IT.Tr} {r B : Nat} {G : RF.Gt} {T2 : IT.Tr} (h : Duo n0 w0 w t S T r B G T2) {R : IT.Tr → Prop} (g : Stp w t S R w') (hR : ∀ T', R T' → IT.Sound okN T') : ∃ S' T', Duo n0 w0 w' t S' T' r B G T2 ∧ R T' ∧ Lay w w' := by
 obtain ⟨S', T', g1, g2, g3⟩ := h.a.stp g hR
 exact ⟨S', T', ⟨g1, ⟨h.b.rep.mv h.a.own.rep g3, h.b.ties, h.b.snd⟩, h.le⟩, g2, g3.size, fun b C T f e h1 h2 _ => (g3.block b (lH e) (not_foot h.a.own.rep e h1 h2)).trans e⟩
theorem Duo.stf {n0 : Nat} {w0 w w' : World} {t : Nat} {S : Tab} {T : IT.Tr} {r B : Nat} {G : RF.Gt} {T2 : IT.Tr} (h : Duo n0 w0 w t S T r B G T2) {R : IT.Tr → Prop} (g : RF.Stf w r B R w') (hR : ∀ T', R T' → IT.Sound okN T') : ∃ G' T', Duo n0 w0 w' t S T r B G' T' ∧ R T' ∧ Lay w w' := by
 obtain ⟨G', T', g1, g2, g3, g4⟩ := g
 refine ⟨G', T', ⟨⟨⟨h.a.own.rep.mo h.b.rep g1, h.a.own.below.trans ⟨g1.os, g1.tape, g1.output, g1.size, fun b hb => g1.block b (Nat.lt_of_lt_of_le hb h.a.own.le) (by have := h.le; omega)⟩, Nat.le_trans h.a.own.le g1.size, h.a.own.own⟩, h.a.ties, h.a.snd⟩, ⟨g2, g3, hR T' g4⟩, h.le⟩, g4, g1.size, fun b C T f e _ _ h3 => (g1.block b (lH e) (fun e2 => ?_)).trans e⟩
 subst e2
 have e3 := e.symm.trans h.b.rep.row
 simp only [Option.some.injEq, Obj.cells.injEq] at e3
 exact h3 e3.2.1
def rtN (m : IT.Nd) : Prop := rt m.mode m.owner m.group
def MR (T : IT.Tr) : Prop := ∀ k m, T k = some m → rtN m
theorem rt_right {m o g : Int} (h : rt m o g) : Md.rightB m = true := by
 unfold rt at h
 rw [RF.right_ids] at h
 simp only [Bool.and_eq_true] at h
 exact h.1
theorem MR.lt {T : IT.Tr} (h : MR T) {k : Nat} {m : IT.Nd} (hk : T k = some m) : m.mode < 9223372036854775808 := by
 obtain ⟨n, e, hn⟩ := Md.right_nat (rt_right (h k m hk))
 omega
theorem under_mode (d : Nat) (m : IT.Nd) : rtN (IT.under d m) = rtN m := by unfold IT.under; split <;> rfl
theorem MR.root {m o g : Int} (h : rt m o g) : MR (IT.rootT m o g) := fun k n hk => by obtain ⟨_, rfl⟩ := IT.rootT_get hk; exact h
theorem MR.upd {T : IT.Tr} (h : MR T) (k : Nat) {o : Option IT.Nd} (ho : ∀ m, o = some m → rtN m) : MR (IT.upd T k o) := fun j m hj => by
 by_cases e : j = k
 · subst e; rw [IT.uY] at hj; exact ho m hj
 · rw [IT.uX T o e] at hj; exact h j m hj
theorem alone_mode (j : Nat) (m : IT.Nd) : rtN (IT.alone j m) = rtN m := by unfold IT.alone; split <;> rfl
theorem MR.rem {T : IT.Tr} (h : MR T) (i : Nat) : MR (IT.rem T i) := fun j m hj => by
 unfold IT.rem at hj
 split at hj
 · cases hj
 · split at hj
   · exact h j m hj
   · obtain ⟨m0, h0, rfl⟩ := Option.map_eq_some_iff.1 hj
     rw [alone_mode]
     exact h j m0 h0
theorem MR.nf {T A : IT.Tr} (h : IT.NF T A) : MR T → MR A := by
 induction h with
 | done _ => exact fun hb => hb
 | step _ _ ih => exact fun hb => ih (hb.rem _)
theorem MR.make {T T' : IT.Tr} {i : Nat} {kind m o g tty e : Int} (h : MR T) (hm : IT.isMake rt T kind m o g tty i e T') : MR T' := by
 unfold IT.isMake at hm
 split at hm
 · exact hm.2.2 ▸ h
 · rename_i h1
   split at hm
   · exact hm.2.2 ▸ h
   · split at hm
     · exact hm.2.2 ▸ h
     · obtain ⟨_, _, _, _, _, rfl⟩ := hm
       exact h.upd _ (fun m hm => by cases hm; exact Classical.not_not.1 (fun hh => h1 (.inr (.inr hh))))
theorem MR.ent {T : IT.Tr} {d x : Nat} {nm : IT.Bytes} {n m : IT.Nd} (h : MR T) (hd : T d = some n) (hx : T x = some m) : MR (IT.entT T d x nm n m) := by
 unfold IT.entT
 refine (h.upd _ (fun q hq => ?_)).upd _ (fun q hq => ?_)
 · cases hq; rw [under_mode]; exact h x m hx
 · cases hq; exact h d n hd
theorem MR.enter {T T' : IT.Tr} {d x : Nat} {nm : IT.Bytes} {e : Int} (h : MR T) (hm : IT.isEnter okN T d nm x e T') : MR T' := by
 unfold IT.isEnter at hm
 cases hd : T d with
 | none => rw [hd] at hm; exact hm.2 ▸ h
 | some n =>
   cases hx : T x with
   | none => rw [hd, hx] at hm; exact hm.2 ▸ h
   | some m =>
     rw [hd, hx] at hm
     dsimp only at hm
     repeat' split at hm
     all_goals first | exact hm.2 ▸ h | (rw [hm.2]; exact h.ent hd hx)
theorem MR.hold {T T' : IT.Tr} {k : Nat} {r : Bool} (h : MR T) (hm : IT.isHold T k r T') : MR T'  := by
 unfold IT.isHold at hm
 cases hk : T k with
 | none => rw [hk] at hm; exact hm.2 ▸ h
 | some n =>
   rw [hk] at hm
   dsimp only at hm
   rw [hm.2]
   exact h.upd _ (fun q hq => by cases hq; exact h k n hk)
theorem MR.drop {T T' : IT.Tr} {k : Nat} {r : Bool} (h : MR T) (hm : IT.isDrop T k r T') : MR T' := by
 unfold IT.isDrop at hm
 cases hk : T k with
 | none => rw [hk] at hm; exact hm.2 ▸ h
 | some n =>
   rw [hk] at hm
   dsimp only at hm
   split at hm
   · exact hm.2 ▸ h
   · exact MR.nf hm.2 (h.upd _ (fun q hq => by cases hq; exact h k n hk))
theorem MR.set {T T' : IT.Tr} {k : Nat} {m o g e : Int} (h : MR T) (hm : IT.isSet rt T k m o g e T') : MR T' := by
 unfold IT.isSet at hm
 cases hk : T k with
 | none => rw [hk] at hm; exact hm.2 ▸ h
 | some n =>
   rw [hk] at hm
   dsimp only at hm
   split at hm
   · exact hm.2 ▸ h
   · rename_i hr
     rw [hm.2]; exact h.upd _ (fun q hq => by cases hq; exact Classical.not_not.1 hr)
theorem MR.put {T T' : IT.Tr} {k : Nat} {a e : Int} {s : IT.Bytes} (h : MR T) (hm : IT.isPut T k a s e T') : MR T' := by
 unfold IT.isPut at hm
 cases hk : T k with
 | none => rw [hk] at hm; exact hm.2 ▸ h
 | some n =>
   rw [hk] at hm
   dsimp only at hm
   repeat' split at hm
   all_goals first | exact hm.2 ▸ h | (rw [hm.2]; exact h.upd _ (fun q hq => by cases hq; exact h k n hk))
theorem MR.cut {T T' : IT.Tr} {k : Nat} {e : Int} (h : MR T) (hm : IT.isCut T k e T') : MR T' := by
 unfold IT.isCut at hm
 cases hk : T k with
 | none => rw [hk] at hm; exact hm.2 ▸ h
 | some n =>
   rw [hk] at hm
   dsimp only at hm
   repeat' split at hm
   all_goals first | exact hm.2 ▸ h | (rw [hm.2]; exact h.upd _ (fun q hq => by cases hq; exact h k n hk))
theorem MR.del' {T : IT.Tr} {d x : Nat} {nm : IT.Bytes} {n m : IT.Nd} (h : MR T) (hd : T d = some n) (hm : rtN m) : MR (IT.delT T d x nm n m) := by
 unfold IT.delT
 refine (h.upd _ (fun q hq => ?_)).upd _ (fun q hq => ?_)
 · cases hq; rw [alone_mode]; exact hm
 · cases hq; exact h d n hd
theorem MR.del {T : IT.Tr} {d x : Nat} {nm : IT.Bytes} {n m : IT.Nd} (h : MR T) (hd : T d = some n) (hx : T x = some m) : MR (IT.delT T d x nm n m) := by
 unfold IT.delT
 refine (h.upd _ (fun q hq => ?_)).upd _ (fun q hq => ?_)
 · cases hq; rw [alone_mode]; exact h x m hx
 · cases hq; exact h d n hd
theorem MR.remove {T T' : IT.Tr} {d : Nat} {nm : IT.Bytes} {e : Int} (h : MR T) (hm : IT.isRemove T d nm e T') : MR T' := by
 unfold IT.isRemove at hm
 cases hd : T d with
 | none => rw [hd] at hm; exact hm.2 ▸ h
 | some n =>
   rw [hd] at hm
   dsimp only at hm
   split at hm
   · exact hm.2 ▸ h
   · split at hm
     · exact hm.2 ▸ h
     · obtain ⟨m, hx, hm⟩ := hm
       split at hm
       · exact hm.2 ▸ h
       · exact MR.nf hm.2 (h.del hd hx)
theorem MR.move {T T' : IT.Tr} {d b : Nat} {nm ar : IT.Bytes} {e : Int} (h : MR T) (hm : IT.isMove okN T d nm b ar e T') : MR T' := by
 unfold IT.isMove at hm
 cases hd : T d with
 | none => rw [hd] at hm; exact hm.2 ▸ h
 | some n =>
   cases hb : T b with
   | none => rw [hd, hb] at hm; exact hm.2 ▸ h
   | some q =>
     rw [hd, hb] at hm
     dsimp only at hm
     split at hm
     · exact hm.2 ▸ h
     · split at hm
       · exact hm.2 ▸ h
       · obtain ⟨m, hx, hm⟩ := hm
         split at hm
         · exact hm.2 ▸ h
         · split at hm
           · exact hm.2 ▸ h
           · split at hm
             · split at hm
               · exact hm.2 ▸ h
               · obtain ⟨_, q1, m1, h1, h2, rfl⟩ := hm
                 exact (h.del hd hx).ent h1 h2
             · split at hm
               · exact hm.2 ▸ h
               · obtain ⟨mw, hw, hm⟩ := hm
                 split at hm
                 · exact hm.2 ▸ h
                 · split at hm
                   · exact hm.2 ▸ h
                   · obtain ⟨_, q1, q2, m2, h1, h2, h3, hnf⟩ := hm
                     refine MR.nf hnf (MR.ent ?_ h2 h3)
                     exact MR.del' (h.del hd hx) h1 (h _ mw hw)
theorem MR.plainer {T T' : IT.Tr} {k : Nat} (h : MR T) (hm : isPlainer T k T') : MR T' := by
 unfold isPlainer at hm
 split at hm
 · exact hm ▸ h
 · obtain ⟨r, hm⟩ := hm
   exact h.set hm
theorem clr_right {m : Int} (h : Md.rightB m = true) : Md.rightB (clr m) = true := by
 obtain ⟨n, rfl, hn⟩ := Md.right_nat h
 unfold clr
 rw [show bits .andNot .i64 (n : Int) 2048 = ((n &&& (18446744073709551615 - 2048) : Nat) : Int) from Md.andNot_nat (b := 2048) (by unfold Md.big; omega) (by decide)]
 have hlt : n &&& (18446744073709551615 - 2048) < Md.big := Nat.lt_of_le_of_lt Nat.and_le_left (by unfold Md.big; omega)
 rw [Md.right_iff hlt]
 have h2 := (Md.right_iff (n := n) (by unfold Md.big; omega)).1 h
 rw [Nat.and_assoc, Nat.and_comm (18446744073709551615 - 2048) 3071, ← Nat.and_assoc, h2]
theorem rtN.clr {m : IT.Nd} (h : rtN m) : rt (clr m.mode) m.owner m.group := by
 unfold rtN rt at *
 rw [RF.right_ids] at h ⊢
 simp only [Bool.and_eq_true] at h ⊢
 exact ⟨clr_right h.1, h.2⟩
def entG (d0 d1 d2 d3 d4 d5 d6 d7 : Int) (name : ByteArray) (must : Bool) (g0 g1 g2 g3 g4 g5 g6 g7 : Int) (is : Bool) : Array Value := #[.int .i64 d0, .int .i64 d1, .int .i64 d2, .int .i64 d3, .int .i64 d4, .int .i64 d5, .int .i64 d6, .int .i64 d7, .string name, .bool must, .int .i64 g0, .int .i64 g1, .int .i64 g2, .int .i64 g3, .int .i64 g4, .int .i64 g5, .int .i64 g6, .int .i64 g7, .bool is]
def takesB (eff mode owner tg : Int) : Bool := bits .and .i64 mode 512 == 0 || (eff == 0 || (eff == owner || eff == tg))
theorem takes_any (t : Nat) (cwd : Int) (c : Cr) (d0 d1 d2 d3 d4 d5 d6 d7 : Int) (name : ByteArray) (must : Bool) (g0 g1 g2 g3 g4 g5 g6 g7 : Int) (is : Bool) (w : World) :
  Calls Tryz.prog 44 #[ask t cwd c, .agg (entG d0 d1 d2 d3 d4 d5 d6 d7 name must g0 g1 g2 g3 g4 g5 g6 g7 is)] w fun e w' => e = .returned (.bool (takesB c.eff d2 d3 g3)) ∧ Below w.heap.size w w' := by
 obtain ⟨real, eff, saved, group, eg⟩ := c
 unfold ask entG takesB
 dsimp only
 generalize hq : (bits BinOp.and .i64 d2 512 == 0) = q
 cases q <;> cases h1 : (eff == 0) <;> cases h2 : (eff == d3) <;> cases h3 : (eff == g3) <;>
 · go_enter Tryz.func44, Tryz.ntmps44
   go_wp2
   go_ret
   exact ⟨rfl, bZ (bZ (Below.refl _ _) _) _⟩
def Fr (w : World) (t : Nat) (S : Tab) (b : Nat) : Prop := b < w.heap.size ∧ ¬ foot S t b
theorem Fr.new {w w' : World} {t b : Nat} {S : Tab} (h : Rep w t S) (hb : w.heap.size ≤ b) (hlt : b < w'.heap.size) : Fr w' t S b := ⟨hlt, fun hf => by have := h.foot_lt hf; omega⟩
theorem Fr.mv {w w' : World} {t b : Nat} {S S' : Tab} (h : Fr w t S b) (g : Mv w t S w' S') : Fr w' t S' b := ⟨Nat.lt_of_lt_of_le h.1 g.size, fun hf => by
 rcases g.grow b hf with h1 | h1
 · exact h.2 h1
 · have := h.1; omega⟩
theorem Fr.heap {w w' : World} {t b : Nat} {S S' : Tab} (h : Fr w t S b) (g : Mv w t S w' S') : w'.heap[b]? = w.heap[b]? := g.block b h.1 h.2
theorem Fr.below {w w' : World} {t b : Nat} {S : Tab} (h : Fr w t S b) (g : Below w.heap.size w w') : Fr w' t S b := ⟨Nat.lt_of_lt_of_le h.1 g.size, h.2⟩
def isMakes (may : Bool) (T : IT.Tr) (c : Cr) (k : Nat) (nm : IT.Bytes) (kind mode : Int) (i : Nat) (r : Int) (T' : IT.Tr) : Prop :=
 if may = false then i = 0 ∧ r = 4 ∧ T' = T
 else ∃ i1 r1 T1, IT.isMake rt T kind mode c.eff c.eg 0 i1 r1 T1 ∧
  if r1 ≠ 0 then i = 0 ∧ r = r1 ∧ T' = T1
  else ∃ r2 T2, IT.isEnter okN T1 k nm i1 r2 T2 ∧ if r2 ≠ 0 then i = 0 ∧ r = r2 ∧ ∃ b, IT.isDrop T2 i1 b T' else i = i1 ∧ r = 0 ∧ T' = T2
theorem makes_any {w : World} {t : Nat} {S : Tab} {T : IT.Tr} (h : Tre w t S T) (hb : HB T 1000000) (cwd : Int) (c : Cr) (d0 d1 d2 d3 d4 d5 d6 d7 : Int) (name : ByteArray) (must : Bool) (g0 g1 g2 g3 g4 g5 g6 g7 : Int) (is : Bool) (kind mode : Int) :
  Calls Tryz.prog 37 #[ask t cwd c, .agg (entG d0 d1 d2 d3 d4 d5 d6 d7 name must g0 g1 g2 g3 g4 g5 g6 g7 is), .int .i64 kind, .int .i64 mode] w fun e w' => ∃ (i : Nat) (r : Int), e = .returned (.tuple #[.int .i64 i, .int .i64 r]) ∧ Stp w t S (fun T' => isMakes (Md.mayS d2 d3 d4 (decide (d1 = 1)) c.eff c.eg 2) T c d0.toNat (bs name) kind mode i r T') w' := by
 have H := Hd h
 have HH := Hd hb
 clear h hb
 have HM := Hd (fun W' => wmay_any t cwd c d0 d1 d2 d3 d4 d5 d6 d7 2 W')
 generalize hq : Md.mayS d2 d3 d4 (decide (d1 = 1)) c.eff c.eg 2 = q at *
 clear hq
 unfold ask infoV at HM
 unfold ask entG
 go_enter Tryz.func37, Tryz.ntmps37
 go_wp2_with fail
 refine (HM.out _).mono ?_
 rintro e w2 ⟨rfl, hb⟩
 rw [aZ, aZ] at hb
 obtain ⟨b0, b1, hlt, hbb⟩ := two_blocks hb
 have HS2 := Hd hbb
 cases q with
 | false =>
   clear b0 b1 hlt hbb hb HM
   go_wp2
   go_ret2
   refine ⟨0, 4, rfl, Stp.keepB H.out HS2.out ?_⟩
   unfold isMakes
   rw [if_pos rfl]
   exact ⟨rfl, rfl, rfl⟩
 | true =>
   have HT2 := Hd (H.out.mv ((Mv.refl H.out.rep).below hbb))
   have HF0 := Hd (Fr.new (w' := w2) H.out.rep (Nat.le_refl w.heap.size) (by omega))
   have HF1 := Hd (Fr.new (w' := w2) H.out.rep (Nat.le_succ w.heap.size) hlt)
   have HB0 := Hd b0
   have HB1 := Hd b1
   have a0 : w2.cell? ⟨w.heap.size, 0, none⟩ = some (.pointer (some ⟨t, 0, none⟩)) := cO b0 0
   have a3 : w2.cell? ⟨w.heap.size, 3, none⟩ = some (.int .i64 c.eff) := cO b0 3
   have a6 : w2.cell? ⟨w.heap.size, 6, none⟩ = some (.int .i64 c.eg) := cO b0 6
   have hl0 : w.heap.size < w2.heap.size := by omega
   clear b0 b1 hbb hb HM
   go_wp2_with fail
   refine (make_any HT2.out kind mode c.eff c.eg 0).mono ?_
   rintro e w3 ⟨i1, r1, rfl, hs⟩
   obtain ⟨S1, T1, g1, ht1, hr1⟩ := hs.tre fun T' hT' => hT'.sound H.out.snd
   have HT3 := Hd ht1
   have HM1 := Hd g1
   have HR1 := Hd hr1
   have c0 := (HF0.out.heap g1).trans HB0.out
   have c1 := (HF1.out.heap g1).trans HB1.out
   have HF2 := Hd (HF0.out.mv g1)
   have HF3 := Hd (HF1.out.mv g1)
   have HC0 := Hd c0
   have hl3 : w.heap.size < w3.heap.size := HF2.out.1
   have hl4 : w.heap.size + 1 < w3.heap.size := HF3.out.1
   clear hs g1 ht1 hr1 a0 a3 a6 hlt hl0
   by_cases hz : r1 = 0
   · subst hz
     have a0 : w3.cell? ⟨w.heap.size, 0, none⟩ = some (.pointer (some ⟨t, 0, none⟩)) := cO c0 0
     have x0 : w3.cell? ⟨w.heap.size + 1, 0, none⟩ = some (.int .i64 d0) := cO c1 0
     have x8 : w3.cell? ⟨w.heap.size + 1, 8, none⟩ = some (.string name) := cO c1 8
     clear c0 c1
     go_wp2_with fail
     refine (enter_any HT3.out d0 i1 name).mono ?_
     rintro e w4 ⟨r2, rfl, hs⟩
     obtain ⟨S2, T2, g2, ht2, hr2⟩ := hs.tre fun T' hT' => hT'.sound HT3.out.snd
     have HT4 := Hd ht2
     have HM2 := Hd g2
     have HR2 := Hd hr2
     have c0 := (HF2.out.heap g2).trans HC0.out
     have hl5 : w.heap.size < w4.heap.size := (HF2.out.mv g2).1
     clear hs g2 ht2 hr2 a0 x0 x8 hl3 hl4
     by_cases hz : r2 = 0
     · subst hz
       clear c0
       go_wp2
       go_ret2
       refine ⟨i1, 0, rfl, S2, T2, (((Mv.refl H.out.rep).below HS2.out).trans HM1.out).trans HM2.out, HT4.out.ties, ?_⟩
       show isMakes _ _ _ _ _ _ _ _ _ _
       unfold isMakes
       rw [if_neg (by simp)]
       refine ⟨i1, 0, T1, HR1.out, ?_⟩
       rw [if_neg (fun hh => hh rfl)]
       refine ⟨0, T2, HR2.out, ?_⟩
       rw [if_neg (fun hh => hh rfl)]
       exact ⟨rfl, rfl, rfl⟩
     · have a0 : w4.cell? ⟨w.heap.size, 0, none⟩ = some (.pointer (some ⟨t, 0, none⟩)) := cO c0 0
       have hz1 : (r2 != 0) = true := by simpa using hz
       have HNZ := Hd hz
       clear c0 hz
       go_wp2_with fail
       refine (drop_any HT4.out ((HH.out.make (by decide) HR1.out).enter HR2.out) i1).mono ?_
       rintro e w5 ⟨b, rfl, hs⟩
       have HS5 := Hd (Stp.pre ((((Mv.refl H.out.rep).below HS2.out).trans HM1.out).trans HM2.out) hs)
       clear hs a0
       go_wp2
       go_ret2
       refine ⟨0, r2, rfl, HS5.out.imp fun T' hT' => ?_⟩
       unfold isMakes
       rw [if_neg (by simp)]
       refine ⟨i1, 0, T1, HR1.out, ?_⟩
       rw [if_neg (fun hh => hh rfl)]
       refine ⟨r2, T2, HR2.out, ?_⟩
       rw [if_pos HNZ.out]
       exact ⟨rfl, rfl, b, hT'⟩
   · have hz1 : (r1 != 0) = true := by simpa using hz
     have HNZ := Hd hz
     clear c0 c1 hz
     go_wp2
     go_ret2
     refine ⟨0, r1, rfl, S1, T1, ((Mv.refl H.out.rep).below HS2.out).trans HM1.out, HT3.out.ties, ?_⟩
     show isMakes _ _ _ _ _ _ _ _ _ _
     unfold isMakes
     rw [if_neg (by simp)]
     refine ⟨i1, r1, T1, HR1.out, ?_⟩
     rw [if_pos HNZ.out]
     exact ⟨rfl, rfl, rfl⟩
theorem putA_list : ∀ (vs : List Value) (o : Nat) (C : Array Value), o + vs.length ≤ C.size → (putA C o vs).toList = C.toList.take o ++ (vs ++ C.toList.drop (o + vs.length))
 | [], o, C, _ => by simp [putA]
 | v :: r, o, C, h => by
   have h1 : o < C.toList.length := by simp at h ⊢; omega
   rw [putA, putA_list r (o + 1) _ (by simp at h ⊢; omega)]
   rw [Array.toList_setIfInBounds, List.take_set, List.drop_set, if_pos (by omega)]
   have e1 : (C.toList.take (o + 1)).set o v = C.toList.take o ++ [v] := by
    rw [List.take_succ_eq_append_getElem h1, List.set_append_right _ _ (by simp; omega)]
    have e2 : o - min o C.size = 0 := by simp at h1; omega
    simp [e2]
   rw [e1]
   simp [Nat.add_assoc, Nat.add_comm 1]
theorem putA_whole {C D : Array Value} (h : D.size = C.size) : putA C 0 D.toList = D := by
 apply Array.ext'
 rw [putA_list _ _ _ (by simp [h])]
 simp [h]
theorem stored_whole {w3 : World} {Z C : Array Value} {TY : TypeId} (h : C.size = Z.size) : (World.setCells (w3.alloc (.cells Z TY)) w3.heap.size 0 C.toList).heap[w3.heap.size]? = some (.cells C TY (0, 0)) ∧ Below w3.heap.size w3 (World.setCells (w3.alloc (.cells Z TY)) w3.heap.size 0 C.toList) ∧ (World.setCells (w3.alloc (.cells Z TY)) w3.heap.size 0 C.toList).heap.size = w3.heap.size + 1 :=
 ⟨(heap_setCells _ 0 _ _ (aQ w3 _)).trans (by rw [putA_whole h]), below_setCells (Nat.le_refl _) _ _ _ ((Below.refl _ _).alloc (Nat.le_refl _) _), by rw [setCells_size, aZ]⟩
theorem stored_ex {w3 : World} {C : Array Value} (h : C.size = 19) : ∃ W5, World.setCells (w3.alloc (.cells #[.int .i64 0, .int .i64 0, .int .i64 0, .int .i64 0, .int .i64 0, .int .i64 0, .int .i64 0, .int .i64 0, .string ⟨#[]⟩, .bool false, .int .i64 0, .int .i64 0, .int .i64 0, .int .i64 0, .int .i64 0, .int .i64 0, .int .i64 0, .int .i64 0, .bool false] 74)) w3.heap.size 0 C.toList = W5 ∧ W5.heap[w3.heap.size]? = some (.cells C 74 (0, 0)) ∧ Below w3.heap.size w3 W5 ∧ W5.heap.size = w3.heap.size + 1 ∧ (w3.alloc (.cells #[.int .i64 0, .int .i64 0, .int .i64 0, .int .i64 0, .int .i64 0, .int .i64 0, .int .i64 0, .int .i64 0, .string ⟨#[]⟩, .bool false, .int .i64 0, .int .i64 0, .int .i64 0, .int .i64 0, .int .i64 0, .int .i64 0, .int .i64 0, .int .i64 0, .bool false] 74)).there w3.heap.size 0 C.size := by
 obtain ⟨s1, s2, s3⟩ := stored_whole (w3 := w3) (Z := zeroE) (C := C) (TY := 74) h
 exact ⟨_, rfl, s1, s2, s3, by rw [h]; exact there_of (aQ w3 _)⟩
theorem entry_ok {T : IT.Tr} {c : Cr} {cwd : Int} {s : IT.Bytes} {x : Ent} (h : entryT T c cwd s = .ok x) : ∃ m, T x.dir = some m ∧ x.tg = lookT T x.dir x.name ∧ entersE m c = 0 := by
 unfold entryT at h
 split at h
 · cases h
 · split at h
   · cases h
   · split at h
     · cases h
     · split at h
       · cases h
       · rename_i m hm
         split at h
         · cases h
         · rename_i he
           cases h
           exact ⟨m, hm, rfl, Decidable.not_not.1 he⟩
theorem entry_ne {T : IT.Tr} {c : Cr} {cwd : Int} {s : IT.Bytes} {r : Int} (h : entryT T c cwd s = .error r) : r ≠ 0 := by
 unfold entryT at h
 split at h
 · rename_i h1; cases h; exact h1
 · split at h
   · cases h; decide
   · split at h
     · rename_i h1; cases h; exact h1
     · split at h
       · cases h; decide
       · split at h
         · rename_i h1; cases h; exact h1
         · cases h
theorem wentry_none {w : World} {t : Nat} {S : Tab} {T : IT.Tr} (h : Tre w t S T) (cwd : Int) (c : Cr) (s : ByteArray) {k : Nat} {nm : IT.Bytes} {must : Bool} {m : IT.Nd} (hg : entryT T c cwd (bs s) = .ok ⟨k, nm, must, none⟩) (hm : T k = some m) :
  ∃ d0 d1 d2 d3 d4 d5 d6 d7 : Int, infC T k m = #[.int .i64 d0, .int .i64 d1, .int .i64 d2, .int .i64 d3, .int .i64 d4, .int .i64 d5, .int .i64 d6, .int .i64 d7] ∧ ∀ W', Below w.heap.size w W' → Calls Tryz.prog 33 #[ask t cwd c, .string s] W' fun e w' => e = .returned (.tuple #[.agg (entG d0 d1 d2 d3 d4 d5 d6 d7 (tx nm) must 0 0 0 0 0 0 0 0 false), .int .i64 0]) ∧ Below W'.heap.size W' w' := by
 refine ⟨_, _, _, _, _, _, _, _, rfl, fun W' hb => (wentry_good h cwd c s hg W' hb).mono ?_⟩
 rintro e w' ⟨⟨m2, tg, h1, h2, rfl⟩, hb2⟩
 dsimp only at h1 h2
 subst h2
 obtain rfl : m = m2 := oI (hm.symm.trans h1)
 exact ⟨rfl, hb2⟩
theorem wentry_some {w : World} {t : Nat} {S : Tab} {T : IT.Tr} (h : Tre w t S T) (cwd : Int) (c : Cr) (s : ByteArray) {k j : Nat} {nm : IT.Bytes} {must : Bool} {m q : IT.Nd} (hg : entryT T c cwd (bs s) = .ok ⟨k, nm, must, some j⟩) (hm : T k = some m) (hq : T j = some q) :
  ∃ d0 d1 d2 d3 d4 d5 d6 d7 g0 g1 g2 g3 g4 g5 g6 g7 : Int, infC T k m = #[.int .i64 d0, .int .i64 d1, .int .i64 d2, .int .i64 d3, .int .i64 d4, .int .i64 d5, .int .i64 d6, .int .i64 d7] ∧ infC T j q = #[.int .i64 g0, .int .i64 g1, .int .i64 g2, .int .i64 g3, .int .i64 g4, .int .i64 g5, .int .i64 g6, .int .i64 g7] ∧ ∀ W', Below w.heap.size w W' → Calls Tryz.prog 33 #[ask t cwd c, .string s] W' fun e w' => e = .returned (.tuple #[.agg (entG d0 d1 d2 d3 d4 d5 d6 d7 (tx nm) must g0 g1 g2 g3 g4 g5 g6 g7 true), .int .i64 0]) ∧ Below W'.heap.size W' w' := by
 refine ⟨_, _, _, _, _, _, _, _, _, _, _, _, _, _, _, _, rfl, rfl, fun W' hb => (wentry_good h cwd c s hg W' hb).mono ?_⟩
 rintro e w' ⟨⟨m2, tg, h1, ⟨q2, h2, h3⟩, rfl⟩, hb2⟩
 subst h3
 obtain rfl : m = m2 := oI (hm.symm.trans h1)
 obtain rfl : q = q2 := oI (hq.symm.trans h2)
 exact ⟨rfl, hb2⟩
theorem two_below {w w3 : World} {A B : Array Value} {TA TB : TypeId} (hb : Below ((w.alloc (.cells A TA)).alloc (.cells B TB)).heap.size ((w.alloc (.cells A TA)).alloc (.cells B TB)) w3) : Below w.heap.size w w3 :=
 (bZ (bZ (Below.refl _ _) _) _).trans (hb.mono (by rw [aZ, aZ]; omega))
theorem zeroE_one : zeroE.all (·.oneCell') = true := by simp [zeroE, Value.oneCell']
theorem entG_one {d0 d1 d2 d3 d4 d5 d6 d7 g0 g1 g2 g3 g4 g5 g6 g7 : Int} {name : ByteArray} {must is : Bool} : (entG d0 d1 d2 d3 d4 d5 d6 d7 name must g0 g1 g2 g3 g4 g5 g6 g7 is).all (·.oneCell') = true := by
 simp [entG, Value.oneCell']
theorem ask_cells {W : World} {b t : Nat} {cwd : Int} {c : Cr} (h : W.heap[b]? = some (.cells (askC t cwd c) 77 (0, 0))) : b < W.heap.size ∧ W.cell? ⟨b, 0, none⟩ = some (.pointer (some ⟨t, 0, none⟩)) ∧ W.cell? ⟨b, 1, none⟩ = some (.int .i64 cwd) ∧ W.cell? ⟨b, 2, none⟩ = some (.int .i64 c.real) ∧ W.cell? ⟨b, 3, none⟩ = some (.int .i64 c.eff) ∧ W.cell? ⟨b, 4, none⟩ = some (.int .i64 c.saved) ∧ W.cell? ⟨b, 5, none⟩ = some (.int .i64 c.group) ∧ W.cell? ⟨b, 6, none⟩ = some (.int .i64 c.eg) :=
 ⟨lH h, cO h 0, cO h 1, cO h 2, cO h 3, cO h 4, cO h 5, cO h 6⟩
theorem ent_cells {W : World} {b : Nat} {C : Array Value} (h : W.heap[b]? = some (.cells C 74 (0, 0))) {d0 d1 d2 d3 d4 d5 d6 d7 g0 g1 g2 g3 g4 g5 g6 g7 : Int} {nm : ByteArray} {must is : Bool} (hC : C = entG d0 d1 d2 d3 d4 d5 d6 d7 nm must g0 g1 g2 g3 g4 g5 g6 g7 is) :
  b < W.heap.size ∧ W.cell? ⟨b, 0, none⟩ = some (.int .i64 d0) ∧ W.cell? ⟨b, 1, none⟩ = some (.int .i64 d1) ∧ W.cell? ⟨b, 2, none⟩ = some (.int .i64 d2) ∧ W.cell? ⟨b, 3, none⟩ = some (.int .i64 d3) ∧ W.cell? ⟨b, 4, none⟩ = some (.int .i64 d4) ∧ W.cell? ⟨b, 5, none⟩ = some (.int .i64 d5) ∧ W.cell? ⟨b, 6, none⟩ = some (.int .i64 d6) ∧ W.cell? ⟨b, 7, none⟩ = some (.int .i64 d7) ∧ W.cell? ⟨b, 8, none⟩ = some (.string nm) ∧ W.cell? ⟨b, 9, none⟩ = some (.bool must) ∧ W.cell? ⟨b, 11, none⟩ = some (.int .i64 g1) ∧ W.cell? ⟨b, 18, none⟩ = some (.bool is) := by
 subst hC
 exact ⟨lH h, cO h 0, cO h 1, cO h 2, cO h 3, cO h 4, cO h 5, cO h 6, cO h 7, cO h 8, cO h 9, cO h 11, cO h 18⟩
structure RS (w wr : World) (t : Nat) (cwd : Int) (c : Cr) (bx : Nat) (C : Array Value) : Prop where
 bel : Below w.heap.size w wr
 ask : wr.heap[w.heap.size + 1]? = some (.cells (askC t cwd c) 77 (0, 0))
 ent : wr.heap[bx]? = some (.cells C 74 (0, 0))
theorem RS.below {w wr w' : World} {t : Nat} {cwd : Int} {c : Cr} {bx : Nat} {C : Array Value} (h : RS w wr t cwd c bx C) (hb : Below wr.heap.size wr w') : RS w w' t cwd c bx C :=
 ⟨h.bel.trans (hb.mono h.bel.size), (hb.block _ (lH h.ask)).trans h.ask, (hb.block _ (lH h.ent)).trans h.ent⟩
theorem wentry_all {w : World} {t : Nat} {S : Tab} {T : IT.Tr} (h : Tre w t S T) (cwd : Int) (c : Cr) (s : ByteArray) :
  ∃ (C : Array Value) (r d0 d1 d2 d3 d4 d5 d6 d7 g0 g1 g2 g3 g4 g5 g6 g7 : Int) (nm : ByteArray) (must is : Bool), C = entG d0 d1 d2 d3 d4 d5 d6 d7 nm must g0 g1 g2 g3 g4 g5 g6 g7 is ∧ (∀ W', Below w.heap.size w W' → Calls Tryz.prog 33 #[ask t cwd c, .string s] W' fun e w' => e = .returned (.tuple #[.agg C, .int .i64 r]) ∧ Below W'.heap.size W' w') ∧
   match entryT T c cwd (bs s) with
   | .error e => r = e ∧ r ≠ 0
   | .ok x => r = 0 ∧ nm = tx x.name ∧ must = x.must ∧ is = x.tg.isSome ∧ ∃ m, T x.dir = some m ∧ d0 = (x.dir : Int) ∧ (∀ W', Calls Tryz.prog 39 #[ask t cwd c, infoV d0 d1 d2 d3 d4 d5 d6 d7, .int .i64 2] W' fun e w' => e = .returned (.bool (mayN m c 2)) ∧ Below W'.heap.size W' w') ∧
     ∀ j, x.tg = some j → ∃ q, T j = some q ∧ g1 = q.kind ∧ ∀ W', Calls Tryz.prog 44 #[ask t cwd c, .agg C] W' fun e w' => e = .returned (.bool (takesB c.eff m.mode m.owner q.owner)) ∧ Below W'.heap.size W' w' := by
 cases hg : entryT T c cwd (bs s) with
 | error r => exact ⟨zeroE, r, 0, 0, 0, 0, 0, 0, 0, 0, 0, 0, 0, 0, 0, 0, 0, 0, ⟨#[]⟩, false, false, rfl, fun W' hb => wentry_bad h cwd c s hg W' hb, rfl, entry_ne hg⟩
 | ok x =>
   obtain ⟨k, nm, must, tg⟩ := x
   obtain ⟨m, hm, ht, _⟩ := entry_ok hg
   dsimp only at hm ht
   have hmay : ∀ d0 d1 d2 d3 d4 d5 d6 d7, infC T k m = #[.int .i64 d0, .int .i64 d1, .int .i64 d2, .int .i64 d3, .int .i64 d4, .int .i64 d5, .int .i64 d6, .int .i64 d7] → ∀ W', Calls Tryz.prog 39 #[ask t cwd c, infoV d0 d1 d2 d3 d4 d5 d6 d7, .int .i64 2] W' fun e w' => e = .returned (.bool (mayN m c 2)) ∧ Below W'.heap.size W' w' := fun d0 d1 d2 d3 d4 d5 d6 d7 hd W' => by
    have hh := wmay_any t cwd c d0 d1 d2 d3 d4 d5 d6 d7 2 W'
    obtain ⟨e0, e1, e2, e3, e4, _, _, _⟩ := infC_inj hd
    rw [← e1, ← e2, ← e3, ← e4] at hh ⊢
    exact hh
   cases tg with
   | none =>
     obtain ⟨d0, d1, d2, d3, d4, d5, d6, d7, hd, hc⟩ := wentry_none h cwd c s hg hm
     exact ⟨_, 0, d0, d1, d2, d3, d4, d5, d6, d7, 0, 0, 0, 0, 0, 0, 0, 0, tx nm, must, false, rfl, hc, rfl, rfl, rfl, rfl, m, hm, (infC_inj hd).1.symm, hmay _ _ _ _ _ _ _ _ hd, fun j hj => by cases hj⟩
   | some j =>
     obtain ⟨q, hq⟩ := look_there h.snd ht.symm
     obtain ⟨d0, d1, d2, d3, d4, d5, d6, d7, g0, g1, g2, g3, g4, g5, g6, g7, hd, hgq, hc⟩ := wentry_some h cwd c s hg hm hq
     refine ⟨_, 0, d0, d1, d2, d3, d4, d5, d6, d7, g0, g1, g2, g3, g4, g5, g6, g7, tx nm, must, true, rfl, hc, rfl, rfl, rfl, rfl, m, hm, (infC_inj hd).1.symm, hmay _ _ _ _ _ _ _ _ hd, fun j2 hj => ?_⟩
     obtain rfl := oI hj
     refine ⟨q, hq, (infC_inj hgq).2.1.symm, fun W' => ?_⟩
     have hh := takes_any t cwd c d0 d1 d2 d3 d4 d5 d6 d7 (tx nm) must g0 g1 g2 g3 g4 g5 g6 g7 true W'
     obtain ⟨e0, e1, e2, e3, e4, _, _, _⟩ := infC_inj hd
     obtain ⟨_, _, _, i3, _, _, _, _⟩ := infC_inj hgq
     rw [e2, e3, i3]
     exact hh
theorem isMakes.sound {may : Bool} {T T' : IT.Tr} {c : Cr} {k i : Nat} {nm : IT.Bytes} {kind mode r : Int} (h : isMakes may T c k nm kind mode i r T') (hs : IT.Sound okN T) : IT.Sound okN T' := by
 unfold isMakes at h
 split at h
 · exact h.2.2 ▸ hs
 · obtain ⟨i1, r1, T1, h1, h⟩ := h
   split at h
   · exact h.2.2 ▸ h1.sound hs
   · obtain ⟨r2, T2, h2, h⟩ := h
     split at h
     · obtain ⟨_, _, b, h⟩ := h
       exact h.sound (h2.sound (h1.sound hs))
     · exact h.2.2 ▸ h2.sound (h1.sound hs)
theorem HB.makes {may : Bool} {T T' : IT.Tr} {c : Cr} {k i B : Nat} {nm : IT.Bytes} {kind mode r : Int} (hb : HB T B) (hB : 1 ≤ B) (h : isMakes may T c k nm kind mode i r T') : HB T' B := by
 unfold isMakes at h
 split at h
 · exact h.2.2 ▸ hb
 · obtain ⟨i1, r1, T1, h1, h⟩ := h
   have b1 := hb.make hB h1
   split at h
   · exact h.2.2 ▸ b1
   · obtain ⟨r2, T2, h2, h⟩ := h
     split at h
     · obtain ⟨_, _, b, h⟩ := h
       exact (b1.enter h2).drop h
     · exact h.2.2 ▸ b1.enter h2
theorem HBmakes {may : Bool} {T T' : IT.Tr} {c : Cr} {k i B : Nat} {nm : IT.Bytes} {kind mode r : Int} (hb : HB T B) (hB : 1 ≤ B) (h : isMakes may T c k nm kind mode i r T') : HB T' B := hb.makes hB h
def isMkdir (T : IT.Tr) (c : Cr) (cwd : Int) (s : IT.Bytes) (mode r : Int) (T' : IT.Tr) : Prop :=
 if Md.rightB mode = false then r = 1 ∧ T' = T
 else match entryT T c cwd s with
  | .error e => r = e ∧ T' = T
  | .ok x => if x.tg.isSome then r = 5 ∧ T' = T
    else ∃ m i1 r1 T1, T x.dir = some m ∧ isMakes (mayN m c 2) T c x.dir x.name 1 mode i1 r1 T1 ∧ if r1 = 0 then r = 0 ∧ ∃ b, IT.isDrop T1 i1 b T' else r = r1 ∧ T' = T1
theorem walkMkdir_any {w : World} {t : Nat} {S : Tab} {T : IT.Tr} (h : Tre w t S T) (hb : HB T 999999) (cwd : Int) (c : Cr) (s : ByteArray) (mode : Int) :
  Calls Tryz.prog 22 #[.pointer (some ⟨t, 0, none⟩), .int .i64 cwd, cred c, .string s, .int .i64 mode] w fun e w' => ∃ r, e = .returned (.int .i64 r) ∧ Stp w t S (fun T' => isMkdir T c cwd (bs s) mode r T') w' := by
 have H := Hd h
 have HH := Hd hb
 clear h hb
 have HR : Hid (∀ W', Calls Tryz.prog 36 #[.int .i64 mode] W' fun e w' => e = .returned (.bool (Md.rightB mode)) ∧ w' = W') := Hd (fun W' => Md.right_any mode W')
 cases hq : Md.rightB mode with
 | false =>
   rw [hq] at HR
   have HQ := Hd hq
   clear hq
   unfold cred
   go_enter Tryz.func22, Tryz.ntmps22
   go_wp2_with fail
   refine (HR.out _).mono ?_
   rintro e w2 ⟨rfl, rfl⟩
   go_wp2
   go_ret
   refine ⟨1, rfl, Stp.keepB H.out (bZ (bZ (Below.refl _ _) _) _) ?_⟩
   unfold isMkdir
   rw [if_pos HQ.out]
   exact ⟨rfl, rfl⟩
 | true =>
   rw [hq] at HR
   have HQ : Hid (¬ Md.rightB mode = false) := Hd (by rw [hq]; decide)
   clear hq
   cases he : entryT T c cwd (bs s) with
   | error r0 =>
     have HE := Hd he
     have hz1 : (r0 != 0) = true := by simpa using entry_ne he
     obtain ⟨C, hC⟩ : ∃ C, C = zeroE := ⟨_, rfl⟩
     have HC := Hd (wentry_bad H.out cwd c s he)
     rw [← hC] at HC
     have HCS : Hid (C.size = 19) := Hd (by rw [hC]; rfl)
     have HC1 : Hid (C.all (·.oneCell') = true) := Hd (by rw [hC]; exact zeroE_one)
     have HCX18 : Hid (C[18]? = some (.bool false)) := Hd (by rw [hC]; rfl)
     clear he hC
     unfold cred
     unfold ask at HC
     go_enter Tryz.func22, Tryz.ntmps22
     go_wp2_with fail
     refine (HR.out _).mono ?_
     rintro e w2 ⟨rfl, rfl⟩
     go_wp2_with fail
     refine (HC.out _ (bZ (bZ (Below.refl _ _) _) _)).mono ?_
     rintro e w3 ⟨rfl, hb⟩
     have HB := Hd (two_below hb)
     obtain ⟨W5, hW5, s1, s2, s3, hT⟩ := stored_ex (w3 := w3) HCS.out
     have hI : (Tryz.prog.info? 74).map (·.size) = some C.size := by rw [HCS.out]; rfl
     have h1C := HC1.out
     have x18 : W5.cell? ⟨w3.heap.size, 18, none⟩ = some (.bool false) := (cO s1 18).trans HCX18.out
     clear hb HC HR
     go_wp2_with (refine wpList_store_mid rfl 74 _ _ rfl w3.heap.size 0 C rfl rfl hT hI h1C ?_; rw [hW5]; clear hW5)
     go_ret
     refine ⟨r0, rfl, Stp.keepB H.out (HB.out.trans (s2.mono HB.out.size)) ?_⟩
     unfold isMkdir
     rw [if_neg HQ.out, HE.out]
     exact ⟨rfl, rfl⟩
   | ok x =>
     obtain ⟨m, hm, hto, _⟩ := entry_ok he
     obtain ⟨k, nm, must, tg⟩ := x
     dsimp only at hm hto
     cases tg with
     | some j =>
       obtain ⟨q, hq⟩ := look_there H.out.snd hto.symm
       obtain ⟨d0, d1, d2, d3, d4, d5, d6, d7, g0, g1, g2, g3, g4, g5, g6, g7, hd, hg, hc⟩ := wentry_some H.out cwd c s he hm hq
       have HE := Hd he
       obtain ⟨C, hC⟩ : ∃ C, C = entG d0 d1 d2 d3 d4 d5 d6 d7 (tx nm) must g0 g1 g2 g3 g4 g5 g6 g7 true := ⟨_, rfl⟩
       rw [← hC] at hc
       have HC := Hd hc
       have HCS : Hid (C.size = 19) := Hd (by rw [hC]; rfl)
       have HC1 : Hid (C.all (·.oneCell') = true) := Hd (by rw [hC]; exact entG_one)
       have HCX18 : Hid (C[18]? = some (.bool true)) := Hd (by rw [hC]; rfl)
       clear he hm hto hq hd hg hc hC
       unfold cred
       unfold ask at HC
       go_enter Tryz.func22, Tryz.ntmps22
       go_wp2_with fail
       refine (HR.out _).mono ?_
       rintro e w2 ⟨rfl, rfl⟩
       go_wp2_with fail
       refine (HC.out _ (bZ (bZ (Below.refl _ _) _) _)).mono ?_
       rintro e w3 ⟨rfl, hb⟩
       have HB := Hd (two_below hb)
       obtain ⟨W5, hW5, s1, s2, s3, hT⟩ := stored_ex (w3 := w3) HCS.out
       have hI : (Tryz.prog.info? 74).map (·.size) = some C.size := by rw [HCS.out]; rfl
       have h1C := HC1.out
       have x18 : W5.cell? ⟨w3.heap.size, 18, none⟩ = some (.bool true) := (cO s1 18).trans HCX18.out
       clear hb HC HR
       go_wp2_with (refine wpList_store_mid rfl 74 _ _ rfl w3.heap.size 0 C rfl rfl hT hI h1C ?_; rw [hW5]; clear hW5)
       go_ret
       refine ⟨5, rfl, Stp.keepB H.out (HB.out.trans (s2.mono HB.out.size)) ?_⟩
       unfold isMkdir
       rw [if_neg HQ.out, HE.out]
       exact ⟨rfl, rfl⟩
     | none =>
       obtain ⟨d0, d1, d2, d3, d4, d5, d6, d7, hd, hc⟩ := wentry_none H.out cwd c s he hm
       have HE := Hd he
       obtain ⟨C, hC⟩ : ∃ C, C = entG d0 d1 d2 d3 d4 d5 d6 d7 (tx nm) must 0 0 0 0 0 0 0 0 false := ⟨_, rfl⟩
       rw [← hC] at hc
       have HC := Hd hc
       have HD := Hd (infC_inj hd)
       have HM := Hd hm
       have HCE := Hd hC
       have HCS : Hid (C.size = 19) := Hd (by rw [hC]; rfl)
       have HC1 : Hid (C.all (·.oneCell') = true) := Hd (by rw [hC]; exact entG_one)
       have HCX18 : Hid (C[18]? = some (.bool false)) := Hd (by rw [hC]; rfl)
       clear he hm hto hd hc hC
       unfold cred
       unfold ask at HC
       go_enter Tryz.func22, Tryz.ntmps22
       go_wp2_with fail
       refine (HR.out _).mono ?_
       rintro e w2 ⟨rfl, rfl⟩
       go_wp2_with fail
       refine (HC.out _ (bZ (bZ (Below.refl _ _) _) _)).mono ?_
       rintro e w3 ⟨rfl, hb⟩
       have HB := Hd (two_below hb)
       rw [aZ, aZ] at hb
       obtain ⟨_, b1, hlt, _⟩ := two_blocks hb
       have hlt2 : w.heap.size + 1 < w3.heap.size := hlt
       obtain ⟨W5, hW5, s1, s2, s3, hT⟩ := stored_ex (w3 := w3) HCS.out
       have hI : (Tryz.prog.info? 74).map (·.size) = some C.size := by rw [HCS.out]; rfl
       have h1C := HC1.out
       have x18 : W5.cell? ⟨w3.heap.size, 18, none⟩ = some (.bool false) := (cO s1 18).trans HCX18.out
       have hB1 := (s2.block _ hlt2).trans b1
       have hl5 : w.heap.size + 1 < W5.heap.size := by omega
       have a0 : W5.cell? ⟨w.heap.size + 1, 0, none⟩ = some (.pointer (some ⟨t, 0, none⟩)) := cO hB1 0
       have a1 : W5.cell? ⟨w.heap.size + 1, 1, none⟩ = some (.int .i64 cwd) := cO hB1 1
       have a2 : W5.cell? ⟨w.heap.size + 1, 2, none⟩ = some (.int .i64 c.real) := cO hB1 2
       have a3 : W5.cell? ⟨w.heap.size + 1, 3, none⟩ = some (.int .i64 c.eff) := cO hB1 3
       have a4 : W5.cell? ⟨w.heap.size + 1, 4, none⟩ = some (.int .i64 c.saved) := cO hB1 4
       have a5 : W5.cell? ⟨w.heap.size + 1, 5, none⟩ = some (.int .i64 c.group) := cO hB1 5
       have a6 : W5.cell? ⟨w.heap.size + 1, 6, none⟩ = some (.int .i64 c.eg) := cO hB1 6
       clear b1
       clear hb HC HR
       go_wp2_with (first | (refine wpList_store_mid rfl 74 _ _ rfl w3.heap.size 0 C rfl rfl hT hI h1C ?_; rw [hW5]; clear hW5) | (refine wpList_load_mid rfl 74 _ rfl w3.heap.size 0 rfl C.toList _ (range_of s1) rfl rfl hI ?_))
       have HB5 : Hid (Below w.heap.size w W5) := Hd (HB.out.trans (s2.mono HB.out.size))
       have hmk := makes_any (H.out.mv ((Mv.refl H.out.rep).below HB5.out)) (HH.out.mono (by decide)) cwd c d0 d1 d2 d3 d4 d5 d6 d7 (tx nm) must 0 0 0 0 0 0 0 0 false 1 mode
       rw [← HCE.out] at hmk
       unfold ask at hmk
       clear a0 a1 a2 a3 a4 a5 a6 x18 hT hI h1C s1 s2 s3 hl5 hB1 hlt2
       refine hmk.mono ?_
       rintro e w6 ⟨i1, r1, rfl, hs⟩
       clear hmk
       obtain ⟨S1, T1, g1, ht1, hr1⟩ := hs.tre fun T' hT' => isMakes.sound hT' H.out.snd
       have HMV := Hd (((Mv.refl H.out.rep).below HB5.out).trans g1)
       have HT1 := Hd ht1
       have HR1 : Hid (isMakes (mayN m c 2) T c k nm 1 mode i1 r1 T1) := Hd (by
        obtain ⟨e0, e1, e2, e3, e4, _, _, _⟩ := HD.out
        rw [← e0, ← e1, ← e2, ← e3, ← e4, bs_tx] at hr1
        exact hr1)
       clear hs g1 ht1 hr1
       by_cases hz : r1 = 0
       · subst hz
         go_wp2_with fail
         refine (drop_any HT1.out (HBmakes (HH.out.mono (by decide)) (by decide) HR1.out) i1).mono ?_
         rintro e w7 ⟨b, rfl, hs⟩
         have HS := Hd (Stp.pre HMV.out hs)
         clear hs
         go_wp2
         go_ret
         refine ⟨0, rfl, HS.out.imp fun T' hT' => ?_⟩
         unfold isMkdir
         rw [if_neg HQ.out, HE.out]
         refine ⟨m, i1, 0, T1, HM.out, HR1.out, ?_⟩
         rw [if_pos rfl]
         exact ⟨rfl, b, hT'⟩
       · have hz1 : (r1 == 0) = false := by simpa using hz
         have HNZ := Hd hz
         clear hz
         go_wp2
         go_ret
         refine ⟨r1, rfl, S1, T1, HMV.out, HT1.out.ties, ?_⟩
         show isMkdir _ _ _ _ _ _ _
         unfold isMkdir
         rw [if_neg HQ.out, HE.out]
         refine ⟨m, i1, r1, T1, HM.out, HR1.out, ?_⟩
         rw [if_neg HNZ.out]
         exact ⟨rfl, rfl⟩
theorem one_below {w w3 : World} {A : Array Value} {TA : TypeId} (hb : Below (w.alloc (.cells A TA)).heap.size (w.alloc (.cells A TA)) w3) : Below w.heap.size w w3 :=
 (bZ (Below.refl _ _) _).trans (hb.mono (by rw [aZ]; omega))
def isChown (T : IT.Tr) (c : Cr) (cwd : Int) (s : IT.Bytes) (owner group r : Int) (T' : IT.Tr) : Prop :=
 if (findT T c cwd s).2 ≠ 0 then r = (findT T c cwd s).2 ∧ T' = T
 else ∃ m, T (findT T c cwd s).1 = some m ∧ if c.eff ≠ 0 ∧ ¬ (c.eff = m.owner ∧ owner = m.owner ∧ (group = c.eg ∨ group = m.group)) then r = 2 ∧ T' = T
  else IT.isSet rt T (findT T c cwd s).1 (clr m.mode) owner group r T'
theorem walkChown_any {w : World} {t : Nat} {S : Tab} {T : IT.Tr} (h : Tre w t S T) (cwd : Int) (c : Cr) (s : ByteArray) (owner group : Int) :
  Calls Tryz.prog 19 #[.pointer (some ⟨t, 0, none⟩), .int .i64 cwd, cred c, .string s, .int .i64 owner, .int .i64 group] w fun e w' => ∃ r, e = .returned (.int .i64 r) ∧ Stp w t S (fun T' => isChown T c cwd (bs s) owner group r T') w' := by
 have H := Hd h
 clear h
 obtain ⟨⟨k, r0⟩, hg⟩ : ∃ g, findT T c cwd (bs s) = g := ⟨_, rfl⟩
 obtain ⟨d0, d1, d2, d3, d4, d5, d6, d7, h0, _, hF⟩ := wfind_ints H.out cwd c s hg
 have HG := Hd hg
 have HC := Hd hF
 have HD := Hd h0
 clear hg hF h0
 unfold cred
 unfold ask at HC
 by_cases hz : r0 = 0
 · subst hz
   obtain ⟨m, hm, hd⟩ := HD.out rfl
   have HM := Hd hm
   have HI := Hd (infC_inj hd)
   clear HD hm hd
   by_cases q1 : c.eff = d3
   · by_cases q2 : owner = d3
     · by_cases q3 : group = c.eg
       · by_cases q0 : c.eff = 0
         · have HPERM : Hid (¬ (c.eff ≠ 0 ∧ ¬ (c.eff = m.owner ∧ owner = m.owner ∧ (group = c.eg ∨ group = m.group)))) := Hd (by
            obtain ⟨_, _, _, e3, e4, _, _, _⟩ := HI.out
            rw [e3, e4]
            omega)
           have q0b : (c.eff != 0) = false := by simpa using q0
           have q1b : (c.eff == d3) = true := by simpa using q1
           have q2b : (owner == d3) = true := by simpa using q2
           have q3b : (group == c.eg) = true := by simpa using q3
           clear q0 q1 q2 q3
           go_enter Tryz.func19, Tryz.ntmps19
           go_wp2_with fail
           refine (HC.out _ (bZ (Below.refl _ _) _)).mono ?_
           rintro e w3 ⟨rfl, hb⟩
           have HB := Hd (one_below hb)
           have hlt : w.heap.size < w3.heap.size := by have := hb.size; rw [aZ] at this; omega
           have hb0 := (hb.block w.heap.size (by rw [aZ]; omega)).trans (aQ w _)
           have b1 : w3.cell? ⟨w.heap.size, 1, none⟩ = some (.int .i64 c.eff) := cO hb0 1
           have b4 : w3.cell? ⟨w.heap.size, 4, none⟩ = some (.int .i64 c.eg) := cO hb0 4
           clear hb HC hb0
           go_wp2_with fail
           refine (set_any (H.out.mv ((Mv.refl H.out.rep).below (bZ HB.out _))) _ _ _ _).mono ?_
           rintro e w4 ⟨r, rfl, hs⟩
           have HS := Hd (Stp.pre ((Mv.refl H.out.rep).below (bZ HB.out _)) hs)
           clear hs
           go_wp2
           go_ret
           refine ⟨r, rfl, HS.out.imp fun T' hT' => ?_⟩
           unfold isChown
           rw [HG.out, if_neg (fun hh => hh rfl)]
           refine ⟨m, HM.out, ?_⟩
           rw [if_neg (HPERM.out)]
           obtain ⟨e0, _, e2, _, _, _, _, _⟩ := HI.out
           rw [e2]
           rw [← e0] at hT'
           exact hT'
         · have HPERM : Hid (¬ (c.eff ≠ 0 ∧ ¬ (c.eff = m.owner ∧ owner = m.owner ∧ (group = c.eg ∨ group = m.group)))) := Hd (by
            obtain ⟨_, _, _, e3, e4, _, _, _⟩ := HI.out
            rw [e3, e4]
            omega)
           have q0b : (c.eff != 0) = true := by simpa using q0
           have q1b : (c.eff == d3) = true := by simpa using q1
           have q2b : (owner == d3) = true := by simpa using q2
           have q3b : (group == c.eg) = true := by simpa using q3
           clear q0 q1 q2 q3
           go_enter Tryz.func19, Tryz.ntmps19
           go_wp2_with fail
           refine (HC.out _ (bZ (Below.refl _ _) _)).mono ?_
           rintro e w3 ⟨rfl, hb⟩
           have HB := Hd (one_below hb)
           have hlt : w.heap.size < w3.heap.size := by have := hb.size; rw [aZ] at this; omega
           have hb0 := (hb.block w.heap.size (by rw [aZ]; omega)).trans (aQ w _)
           have b1 : w3.cell? ⟨w.heap.size, 1, none⟩ = some (.int .i64 c.eff) := cO hb0 1
           have b4 : w3.cell? ⟨w.heap.size, 4, none⟩ = some (.int .i64 c.eg) := cO hb0 4
           clear hb HC hb0
           go_wp2_with fail
           refine (set_any (H.out.mv ((Mv.refl H.out.rep).below (bZ HB.out _))) _ _ _ _).mono ?_
           rintro e w4 ⟨r, rfl, hs⟩
           have HS := Hd (Stp.pre ((Mv.refl H.out.rep).below (bZ HB.out _)) hs)
           clear hs
           go_wp2
           go_ret
           refine ⟨r, rfl, HS.out.imp fun T' hT' => ?_⟩
           unfold isChown
           rw [HG.out, if_neg (fun hh => hh rfl)]
           refine ⟨m, HM.out, ?_⟩
           rw [if_neg (HPERM.out)]
           obtain ⟨e0, _, e2, _, _, _, _, _⟩ := HI.out
           rw [e2]
           rw [← e0] at hT'
           exact hT'
       · by_cases q4 : group = d4
         · by_cases q0 : c.eff = 0
           · have HPERM : Hid (¬ (c.eff ≠ 0 ∧ ¬ (c.eff = m.owner ∧ owner = m.owner ∧ (group = c.eg ∨ group = m.group)))) := Hd (by
              obtain ⟨_, _, _, e3, e4, _, _, _⟩ := HI.out
              rw [e3, e4]
              omega)
             have q0b : (c.eff != 0) = false := by simpa using q0
             have q1b : (c.eff == d3) = true := by simpa using q1
             have q2b : (owner == d3) = true := by simpa using q2
             have q3b : (group == c.eg) = false := by simpa using q3
             have q4b : (group == d4) = true := by simpa using q4
             clear q0 q1 q2 q3 q4
             go_enter Tryz.func19, Tryz.ntmps19
             go_wp2_with fail
             refine (HC.out _ (bZ (Below.refl _ _) _)).mono ?_
             rintro e w3 ⟨rfl, hb⟩
             have HB := Hd (one_below hb)
             have hlt : w.heap.size < w3.heap.size := by have := hb.size; rw [aZ] at this; omega
             have hb0 := (hb.block w.heap.size (by rw [aZ]; omega)).trans (aQ w _)
             have b1 : w3.cell? ⟨w.heap.size, 1, none⟩ = some (.int .i64 c.eff) := cO hb0 1
             have b4 : w3.cell? ⟨w.heap.size, 4, none⟩ = some (.int .i64 c.eg) := cO hb0 4
             clear hb HC hb0
             go_wp2_with fail
             refine (set_any (H.out.mv ((Mv.refl H.out.rep).below (bZ HB.out _))) _ _ _ _).mono ?_
             rintro e w4 ⟨r, rfl, hs⟩
             have HS := Hd (Stp.pre ((Mv.refl H.out.rep).below (bZ HB.out _)) hs)
             clear hs
             go_wp2
             go_ret
             refine ⟨r, rfl, HS.out.imp fun T' hT' => ?_⟩
             unfold isChown
             rw [HG.out, if_neg (fun hh => hh rfl)]
             refine ⟨m, HM.out, ?_⟩
             rw [if_neg (HPERM.out)]
             obtain ⟨e0, _, e2, _, _, _, _, _⟩ := HI.out
             rw [e2]
             rw [← e0] at hT'
             exact hT'
           · have HPERM : Hid (¬ (c.eff ≠ 0 ∧ ¬ (c.eff = m.owner ∧ owner = m.owner ∧ (group = c.eg ∨ group = m.group)))) := Hd (by
              obtain ⟨_, _, _, e3, e4, _, _, _⟩ := HI.out
              rw [e3, e4]
              omega)
             have q0b : (c.eff != 0) = true := by simpa using q0
             have q1b : (c.eff == d3) = true := by simpa using q1
             have q2b : (owner == d3) = true := by simpa using q2
             have q3b : (group == c.eg) = false := by simpa using q3
             have q4b : (group == d4) = true := by simpa using q4
             clear q0 q1 q2 q3 q4
             go_enter Tryz.func19, Tryz.ntmps19
             go_wp2_with fail
             refine (HC.out _ (bZ (Below.refl _ _) _)).mono ?_
             rintro e w3 ⟨rfl, hb⟩
             have HB := Hd (one_below hb)
             have hlt : w.heap.size < w3.heap.size := by have := hb.size; rw [aZ] at this; omega
             have hb0 := (hb.block w.heap.size (by rw [aZ]; omega)).trans (aQ w _)
             have b1 : w3.cell? ⟨w.heap.size, 1, none⟩ = some (.int .i64 c.eff) := cO hb0 1
             have b4 : w3.cell? ⟨w.heap.size, 4, none⟩ = some (.int .i64 c.eg) := cO hb0 4
             clear hb HC hb0
             go_wp2_with fail
             refine (set_any (H.out.mv ((Mv.refl H.out.rep).below (bZ HB.out _))) _ _ _ _).mono ?_
             rintro e w4 ⟨r, rfl, hs⟩
             have HS := Hd (Stp.pre ((Mv.refl H.out.rep).below (bZ HB.out _)) hs)
             clear hs
             go_wp2
             go_ret
             refine ⟨r, rfl, HS.out.imp fun T' hT' => ?_⟩
             unfold isChown
             rw [HG.out, if_neg (fun hh => hh rfl)]
             refine ⟨m, HM.out, ?_⟩
             rw [if_neg (HPERM.out)]
             obtain ⟨e0, _, e2, _, _, _, _, _⟩ := HI.out
             rw [e2]
             rw [← e0] at hT'
             exact hT'
         · by_cases q0 : c.eff = 0
           · have HPERM : Hid (¬ (c.eff ≠ 0 ∧ ¬ (c.eff = m.owner ∧ owner = m.owner ∧ (group = c.eg ∨ group = m.group)))) := Hd (by
              obtain ⟨_, _, _, e3, e4, _, _, _⟩ := HI.out
              rw [e3, e4]
              omega)
             have q0b : (c.eff != 0) = false := by simpa using q0
             have q1b : (c.eff == d3) = true := by simpa using q1
             have q2b : (owner == d3) = true := by simpa using q2
             have q3b : (group == c.eg) = false := by simpa using q3
             have q4b : (group == d4) = false := by simpa using q4
             clear q0 q1 q2 q3 q4
             go_enter Tryz.func19, Tryz.ntmps19
             go_wp2_with fail
             refine (HC.out _ (bZ (Below.refl _ _) _)).mono ?_
             rintro e w3 ⟨rfl, hb⟩
             have HB := Hd (one_below hb)
             have hlt : w.heap.size < w3.heap.size := by have := hb.size; rw [aZ] at this; omega
             have hb0 := (hb.block w.heap.size (by rw [aZ]; omega)).trans (aQ w _)
             have b1 : w3.cell? ⟨w.heap.size, 1, none⟩ = some (.int .i64 c.eff) := cO hb0 1
             have b4 : w3.cell? ⟨w.heap.size, 4, none⟩ = some (.int .i64 c.eg) := cO hb0 4
             clear hb HC hb0
             go_wp2_with fail
             refine (set_any (H.out.mv ((Mv.refl H.out.rep).below (bZ HB.out _))) _ _ _ _).mono ?_
             rintro e w4 ⟨r, rfl, hs⟩
             have HS := Hd (Stp.pre ((Mv.refl H.out.rep).below (bZ HB.out _)) hs)
             clear hs
             go_wp2
             go_ret
             refine ⟨r, rfl, HS.out.imp fun T' hT' => ?_⟩
             unfold isChown
             rw [HG.out, if_neg (fun hh => hh rfl)]
             refine ⟨m, HM.out, ?_⟩
             rw [if_neg (HPERM.out)]
             obtain ⟨e0, _, e2, _, _, _, _, _⟩ := HI.out
             rw [e2]
             rw [← e0] at hT'
             exact hT'
           · have HPERM : Hid ((c.eff ≠ 0 ∧ ¬ (c.eff = m.owner ∧ owner = m.owner ∧ (group = c.eg ∨ group = m.group)))) := Hd (by
              obtain ⟨_, _, _, e3, e4, _, _, _⟩ := HI.out
              rw [e3, e4]
              omega)
             have q0b : (c.eff != 0) = true := by simpa using q0
             have q1b : (c.eff == d3) = true := by simpa using q1
             have q2b : (owner == d3) = true := by simpa using q2
             have q3b : (group == c.eg) = false := by simpa using q3
             have q4b : (group == d4) = false := by simpa using q4
             clear q0 q1 q2 q3 q4
             go_enter Tryz.func19, Tryz.ntmps19
             go_wp2_with fail
             refine (HC.out _ (bZ (Below.refl _ _) _)).mono ?_
             rintro e w3 ⟨rfl, hb⟩
             have HB := Hd (one_below hb)
             have hlt : w.heap.size < w3.heap.size := by have := hb.size; rw [aZ] at this; omega
             have hb0 := (hb.block w.heap.size (by rw [aZ]; omega)).trans (aQ w _)
             have b1 : w3.cell? ⟨w.heap.size, 1, none⟩ = some (.int .i64 c.eff) := cO hb0 1
             have b4 : w3.cell? ⟨w.heap.size, 4, none⟩ = some (.int .i64 c.eg) := cO hb0 4
             clear hb HC hb0
             go_wp2
             go_ret
             refine ⟨2, rfl, Stp.keepB H.out (bZ HB.out _) ?_⟩
             unfold isChown
             rw [HG.out, if_neg (fun hh => hh rfl)]
             refine ⟨m, HM.out, ?_⟩
             rw [if_pos (HPERM.out)]
             exact ⟨rfl, rfl⟩
     · by_cases q0 : c.eff = 0
       · have HPERM : Hid (¬ (c.eff ≠ 0 ∧ ¬ (c.eff = m.owner ∧ owner = m.owner ∧ (group = c.eg ∨ group = m.group)))) := Hd (by
          obtain ⟨_, _, _, e3, e4, _, _, _⟩ := HI.out
          rw [e3, e4]
          omega)
         have q0b : (c.eff != 0) = false := by simpa using q0
         have q1b : (c.eff == d3) = true := by simpa using q1
         have q2b : (owner == d3) = false := by simpa using q2
         clear q0 q1 q2
         go_enter Tryz.func19, Tryz.ntmps19
         go_wp2_with fail
         refine (HC.out _ (bZ (Below.refl _ _) _)).mono ?_
         rintro e w3 ⟨rfl, hb⟩
         have HB := Hd (one_below hb)
         have hlt : w.heap.size < w3.heap.size := by have := hb.size; rw [aZ] at this; omega
         have hb0 := (hb.block w.heap.size (by rw [aZ]; omega)).trans (aQ w _)
         have b1 : w3.cell? ⟨w.heap.size, 1, none⟩ = some (.int .i64 c.eff) := cO hb0 1
         have b4 : w3.cell? ⟨w.heap.size, 4, none⟩ = some (.int .i64 c.eg) := cO hb0 4
         clear hb HC hb0
         go_wp2_with fail
         refine (set_any (H.out.mv ((Mv.refl H.out.rep).below (bZ HB.out _))) _ _ _ _).mono ?_
         rintro e w4 ⟨r, rfl, hs⟩
         have HS := Hd (Stp.pre ((Mv.refl H.out.rep).below (bZ HB.out _)) hs)
         clear hs
         go_wp2
         go_ret
         refine ⟨r, rfl, HS.out.imp fun T' hT' => ?_⟩
         unfold isChown
         rw [HG.out, if_neg (fun hh => hh rfl)]
         refine ⟨m, HM.out, ?_⟩
         rw [if_neg (HPERM.out)]
         obtain ⟨e0, _, e2, _, _, _, _, _⟩ := HI.out
         rw [e2]
         rw [← e0] at hT'
         exact hT'
       · have HPERM : Hid ((c.eff ≠ 0 ∧ ¬ (c.eff = m.owner ∧ owner = m.owner ∧ (group = c.eg ∨ group = m.group)))) := Hd (by
          obtain ⟨_, _, _, e3, e4, _, _, _⟩ := HI.out
          rw [e3, e4]
          omega)
         have q0b : (c.eff != 0) = true := by simpa using q0
         have q1b : (c.eff == d3) = true := by simpa using q1
         have q2b : (owner == d3) = false := by simpa using q2
         clear q0 q1 q2
         go_enter Tryz.func19, Tryz.ntmps19
         go_wp2_with fail
         refine (HC.out _ (bZ (Below.refl _ _) _)).mono ?_
         rintro e w3 ⟨rfl, hb⟩
         have HB := Hd (one_below hb)
         have hlt : w.heap.size < w3.heap.size := by have := hb.size; rw [aZ] at this; omega
         have hb0 := (hb.block w.heap.size (by rw [aZ]; omega)).trans (aQ w _)
         have b1 : w3.cell? ⟨w.heap.size, 1, none⟩ = some (.int .i64 c.eff) := cO hb0 1
         have b4 : w3.cell? ⟨w.heap.size, 4, none⟩ = some (.int .i64 c.eg) := cO hb0 4
         clear hb HC hb0
         go_wp2
         go_ret
         refine ⟨2, rfl, Stp.keepB H.out (bZ HB.out _) ?_⟩
         unfold isChown
         rw [HG.out, if_neg (fun hh => hh rfl)]
         refine ⟨m, HM.out, ?_⟩
         rw [if_pos (HPERM.out)]
         exact ⟨rfl, rfl⟩
   · by_cases q0 : c.eff = 0
     · have HPERM : Hid (¬ (c.eff ≠ 0 ∧ ¬ (c.eff = m.owner ∧ owner = m.owner ∧ (group = c.eg ∨ group = m.group)))) := Hd (by
        obtain ⟨_, _, _, e3, e4, _, _, _⟩ := HI.out
        rw [e3, e4]
        omega)
       have q0b : (c.eff != 0) = false := by simpa using q0
       have q1b : (c.eff == d3) = false := by simpa using q1
       clear q0 q1
       go_enter Tryz.func19, Tryz.ntmps19
       go_wp2_with fail
       refine (HC.out _ (bZ (Below.refl _ _) _)).mono ?_
       rintro e w3 ⟨rfl, hb⟩
       have HB := Hd (one_below hb)
       have hlt : w.heap.size < w3.heap.size := by have := hb.size; rw [aZ] at this; omega
       have hb0 := (hb.block w.heap.size (by rw [aZ]; omega)).trans (aQ w _)
       have b1 : w3.cell? ⟨w.heap.size, 1, none⟩ = some (.int .i64 c.eff) := cO hb0 1
       have b4 : w3.cell? ⟨w.heap.size, 4, none⟩ = some (.int .i64 c.eg) := cO hb0 4
       clear hb HC hb0
       go_wp2_with fail
       refine (set_any (H.out.mv ((Mv.refl H.out.rep).below (bZ HB.out _))) _ _ _ _).mono ?_
       rintro e w4 ⟨r, rfl, hs⟩
       have HS := Hd (Stp.pre ((Mv.refl H.out.rep).below (bZ HB.out _)) hs)
       clear hs
       go_wp2
       go_ret
       refine ⟨r, rfl, HS.out.imp fun T' hT' => ?_⟩
       unfold isChown
       rw [HG.out, if_neg (fun hh => hh rfl)]
       refine ⟨m, HM.out, ?_⟩
       rw [if_neg (HPERM.out)]
       obtain ⟨e0, _, e2, _, _, _, _, _⟩ := HI.out
       rw [e2]
       rw [← e0] at hT'
       exact hT'
     · have HPERM : Hid ((c.eff ≠ 0 ∧ ¬ (c.eff = m.owner ∧ owner = m.owner ∧ (group = c.eg ∨ group = m.group)))) := Hd (by
        obtain ⟨_, _, _, e3, e4, _, _, _⟩ := HI.out
        rw [e3, e4]
        omega)
       have q0b : (c.eff != 0) = true := by simpa using q0
       have q1b : (c.eff == d3) = false := by simpa using q1
       clear q0 q1
       go_enter Tryz.func19, Tryz.ntmps19
       go_wp2_with fail
       refine (HC.out _ (bZ (Below.refl _ _) _)).mono ?_
       rintro e w3 ⟨rfl, hb⟩
       have HB := Hd (one_below hb)
       have hlt : w.heap.size < w3.heap.size := by have := hb.size; rw [aZ] at this; omega
       have hb0 := (hb.block w.heap.size (by rw [aZ]; omega)).trans (aQ w _)
       have b1 : w3.cell? ⟨w.heap.size, 1, none⟩ = some (.int .i64 c.eff) := cO hb0 1
       have b4 : w3.cell? ⟨w.heap.size, 4, none⟩ = some (.int .i64 c.eg) := cO hb0 4
       clear hb HC hb0
       go_wp2
       go_ret
       refine ⟨2, rfl, Stp.keepB H.out (bZ HB.out _) ?_⟩
       unfold isChown
       rw [HG.out, if_neg (fun hh => hh rfl)]
       refine ⟨m, HM.out, ?_⟩
       rw [if_pos (HPERM.out)]
       exact ⟨rfl, rfl⟩
 · have hz1 : (r0 != 0) = true := by simpa using hz
   have HNZ := Hd hz
   clear hz HD
   go_enter Tryz.func19, Tryz.ntmps19
   go_wp2_with fail
   refine (HC.out _ (bZ (Below.refl _ _) _)).mono ?_
   rintro e w3 ⟨rfl, hb⟩
   have HB := Hd (one_below hb)
   clear hb HC
   go_wp2
   go_ret
   refine ⟨r0, rfl, Stp.keepB H.out (bZ HB.out _) ?_⟩
   unfold isChown
   rw [HG.out, if_pos HNZ.out]
   exact ⟨rfl, rfl⟩
def isChmod (T : IT.Tr) (c : Cr) (cwd : Int) (s : IT.Bytes) (mode r : Int) (T' : IT.Tr) : Prop :=
 if (findT T c cwd s).2 ≠ 0 then r = (findT T c cwd s).2 ∧ T' = T
 else ∃ m, T (findT T c cwd s).1 = some m ∧ if c.eff ≠ 0 ∧ c.eff ≠ m.owner then r = 2 ∧ T' = T
  else IT.isSet rt T (findT T c cwd s).1 mode m.owner m.group r T'
def parW (o : Except Int Ent) : Value := match o with
 | .error e => .tuple #[.int .i64 0, .string ⟨#[]⟩, .int .i64 e]
 | .ok x => .tuple #[.int .i64 (x.dir : Nat), .string (tx x.name), .int .i64 0]
theorem wentry_C {w : World} {t : Nat} {S : Tab} {T : IT.Tr} (h : Tre w t S T) (cwd : Int) (c : Cr) (s : ByteArray) :
  ∃ (C : Array Value) (r d : Int) (nm : ByteArray), C.size = 19 ∧ C.all (·.oneCell') = true ∧ C[0]? = some (.int .i64 d) ∧ C[8]? = some (.string nm) ∧ parW (entryT T c cwd (bs s)) = .tuple #[.int .i64 d, .string nm, .int .i64 r] ∧ ∀ W', Below w.heap.size w W' → Calls Tryz.prog 33 #[ask t cwd c, .string s] W' fun e w' => e = .returned (.tuple #[.agg C, .int .i64 r]) ∧ Below W'.heap.size W' w' := by
 cases hg : entryT T c cwd (bs s) with
 | error r => exact ⟨zeroE, r, 0, ⟨#[]⟩, rfl, zeroE_one, rfl, rfl, rfl, fun W' hb => wentry_bad h cwd c s hg W' hb⟩
 | ok x =>
   obtain ⟨k, nm, must, tg⟩ := x
   obtain ⟨m, hm, ht, _⟩ := entry_ok hg
   dsimp only at hm ht
   cases tg with
   | none =>
     obtain ⟨d0, d1, d2, d3, d4, d5, d6, d7, hd, hc⟩ := wentry_none h cwd c s hg hm
     refine ⟨_, 0, d0, tx nm, rfl, entG_one, rfl, rfl, ?_, hc⟩
     rw [← (infC_inj hd).1]; rfl
   | some j =>
     obtain ⟨q, hq⟩ := look_there h.snd ht.symm
     obtain ⟨d0, d1, d2, d3, d4, d5, d6, d7, g0, g1, g2, g3, g4, g5, g6, g7, hd, _, hc⟩ := wentry_some h cwd c s hg hm hq
     refine ⟨_, 0, d0, tx nm, rfl, entG_one, rfl, rfl, ?_, hc⟩
     rw [← (infC_inj hd).1]; rfl
theorem walkParent_any {w : World} {t : Nat} {S : Tab} {T : IT.Tr} (h : Tre w t S T) (cwd : Int) (c : Cr) (s : ByteArray) :
  Calls Tryz.prog 12 #[.pointer (some ⟨t, 0, none⟩), .int .i64 cwd, cred c, .string s] w fun e w' => e = .returned (parW (entryT T c cwd (bs s))) ∧ Below w.heap.size w w' := by
 obtain ⟨C, r, d, nm, hC, h1, h0, h8, hp, hc⟩ := wentry_C h cwd c s
 rw [hp]
 have HC := Hd hc
 have HCS := Hd hC
 have HC1 := Hd h1
 have HCX0 := Hd h0
 have HCX8 := Hd h8
 clear h hC h1 h0 h8 hp hc
 unfold cred
 unfold ask at HC
 go_enter Tryz.func12, Tryz.ntmps12
 go_wp2_with fail
 refine (HC.out _ ((Below.refl _ _).alloc (Nat.le_refl _) _)).mono ?_
 rintro e w3 ⟨rfl, hb⟩
 have HB3 := Hd (one_below hb)
 clear hb HC
 obtain ⟨W5, hW5, s1, s2, s3, hT⟩ := stored_ex (w3 := w3) HCS.out
 have hI : (Tryz.prog.info? 74).map (·.size) = some C.size := by rw [HCS.out]; rfl
 have h1C := HC1.out
 have x0 : W5.cell? ⟨w3.heap.size, 0, none⟩ = some (.int .i64 d) := (cO s1 0).trans HCX0.out
 have x8 : W5.cell? ⟨w3.heap.size, 8, none⟩ = some (.string nm) := (cO s1 8).trans HCX8.out
 go_wp2_with (refine wpList_store_mid rfl 74 _ _ rfl w3.heap.size 0 C rfl rfl hT hI h1C ?_; rw [hW5]; clear hW5)
 go_quiet (fail)
 rename_i nq
 go_wp2
 exact bodyPost_ret (v := .tuple #[.int .i64 d, .string nm, .int .i64 r]) (by simp [results, Tryz.results12, go_sem]) rfl ⟨rfl, belowDrewN (HB3.out.trans (s2.mono HB3.out.size)) nq⟩
theorem walkChmod_any {w : World} {t : Nat} {S : Tab} {T : IT.Tr} (h : Tre w t S T) (cwd : Int) (c : Cr) (s : ByteArray) (mode : Int) :
  Calls Tryz.prog 18 #[.pointer (some ⟨t, 0, none⟩), .int .i64 cwd, cred c, .string s, .int .i64 mode] w fun e w' => ∃ r, e = .returned (.int .i64 r) ∧ Stp w t S (fun T' => isChmod T c cwd (bs s) mode r T') w' := by
 have H := Hd h
 clear h
 obtain ⟨⟨k, r0⟩, hg⟩ : ∃ g, findT T c cwd (bs s) = g := ⟨_, rfl⟩
 obtain ⟨d0, d1, d2, d3, d4, d5, d6, d7, h0, _, hF⟩ := wfind_ints H.out cwd c s hg
 have HG := Hd hg
 have HC := Hd hF
 have HD := Hd h0
 clear hg hF h0
 unfold cred
 unfold ask at HC
 by_cases hz : r0 = 0
 · subst hz
   obtain ⟨m, hm, hd⟩ := HD.out rfl
   have HM := Hd hm
   have HI := Hd (infC_inj hd)
   clear HD hm hd
   have HPM : Hid ((c.eff ≠ 0 ∧ c.eff ≠ m.owner) ↔ ((c.eff != 0) = true ∧ (c.eff != d3) = true)) := Hd (by
    obtain ⟨_, _, _, e3, _, _, _, _⟩ := HI.out
    rw [e3]; simp)
   cases q0b : (c.eff != 0) <;> cases q1b : (c.eff != d3) <;> rw [q0b, q1b] at HPM
   case true.true =>
    go_enter Tryz.func18, Tryz.ntmps18
    go_wp2_with fail
    refine (HC.out _ (bZ (Below.refl _ _) _)).mono ?_
    rintro e w3 ⟨rfl, hb⟩
    have HB := Hd (one_below hb)
    have hlt : w.heap.size < w3.heap.size := by have := hb.size; rw [aZ] at this; omega
    have hb0 := (hb.block w.heap.size (by rw [aZ]; omega)).trans (aQ w _)
    have b1 : w3.cell? ⟨w.heap.size, 1, none⟩ = some (.int .i64 c.eff) := cO hb0 1
    clear hb HC hb0
    go_wp2
    go_ret
    refine ⟨2, rfl, Stp.keepB H.out (bZ HB.out _) ?_⟩
    unfold isChmod
    rw [HG.out, if_neg (fun hh => hh rfl)]
    refine ⟨m, HM.out, ?_⟩
    rw [if_pos (HPM.out.2 (by simp))]
    exact ⟨rfl, rfl⟩
   all_goals
    go_enter Tryz.func18, Tryz.ntmps18
    go_wp2_with fail
    refine (HC.out _ (bZ (Below.refl _ _) _)).mono ?_
    rintro e w3 ⟨rfl, hb⟩
    have HB := Hd (one_below hb)
    have hlt : w.heap.size < w3.heap.size := by have := hb.size; rw [aZ] at this; omega
    have hb0 := (hb.block w.heap.size (by rw [aZ]; omega)).trans (aQ w _)
    have b1 : w3.cell? ⟨w.heap.size, 1, none⟩ = some (.int .i64 c.eff) := cO hb0 1
    clear hb HC hb0
    go_wp2_with fail
    refine (set_any (H.out.mv ((Mv.refl H.out.rep).below (bZ HB.out _))) _ _ _ _).mono ?_
    rintro e w4 ⟨r, rfl, hs⟩
    have HS := Hd (Stp.pre ((Mv.refl H.out.rep).below (bZ HB.out _)) hs)
    clear hs
    go_wp2
    go_ret
    refine ⟨r, rfl, HS.out.imp fun T' hT' => ?_⟩
    unfold isChmod
    rw [HG.out, if_neg (fun hh => hh rfl)]
    refine ⟨m, HM.out, ?_⟩
    rw [if_neg (fun hh => by have := HPM.out.1 hh; simp at this)]
    obtain ⟨e0, _, _, e3, e4, _, _, _⟩ := HI.out
    rw [e3, e4]
    rw [← e0] at hT'
    exact hT'
 · have hz1 : (r0 != 0) = true := by simpa using hz
   have HNZ := Hd hz
   clear hz
   go_enter Tryz.func18, Tryz.ntmps18
   go_wp2_with fail
   refine (HC.out _ (bZ (Below.refl _ _) _)).mono ?_
   rintro e w3 ⟨rfl, hb⟩
   have HB := Hd (one_below hb)
   clear hb HC
   go_wp2
   go_ret
   refine ⟨r0, rfl, Stp.keepB H.out (bZ HB.out _) ?_⟩
   unfold isChmod
   rw [HG.out, if_pos HNZ.out]
   exact ⟨rfl, rfl⟩
def takesO (T : IT.Tr) (c : Cr) (n : IT.Nd) (o : Option Nat) : Bool := match o with
 | none => true
 | some k => match T k with
   | none => true
   | some p => takesB c.eff n.mode n.owner p.owner
def isRename (T : IT.Tr) (c : Cr) (cwd : Int) (s ar : IT.Bytes) (r : Int) (T' : IT.Tr) : Prop :=
 match entryT T c cwd s with
 | .error e => r = e ∧ T' = T
 | .ok x => match x.tg with
   | none => r = 3 ∧ T' = T
   | some j => match entryT T c cwd ar with
     | .error e => r = e ∧ T' = T
     | .ok y => ∃ m q n, T x.dir = some m ∧ T j = some q ∧ T y.dir = some n ∧
       if (x.must = true ∨ y.must = true) ∧ q.kind ≠ 1 then r = 6 ∧ T' = T
       else if mayN m c 2 = false ∨ mayN n c 2 = false then r = 4 ∧ T' = T
       else if takesB c.eff m.mode m.owner q.owner = false ∨ takesO T c n y.tg = false then r = 2 ∧ T' = T
       else IT.isMove okN T x.dir x.name y.dir y.name r T'
def isWRemove (T : IT.Tr) (c : Cr) (cwd : Int) (s : IT.Bytes) (dir : Bool) (r : Int) (T' : IT.Tr) : Prop :=
 match entryT T c cwd s with
 | .error e => r = e ∧ T' = T
 | .ok x => match x.tg with
   | none => r = 3 ∧ T' = T
   | some j => ∃ m q, T x.dir = some m ∧ T j = some q ∧
     if (dir = true ∨ x.must = true) ∧ q.kind ≠ 1 then r = 6 ∧ T' = T
     else if dir = false ∧ q.kind = 1 then r = 7 ∧ T' = T
     else if mayN m c 2 = false then r = 4 ∧ T' = T
     else if takesB c.eff m.mode m.owner q.owner = false then r = 2 ∧ T' = T
     else IT.isRemove T x.dir x.name r T'
theorem walkRemove_any {w : World} {t : Nat} {S : Tab} {T : IT.Tr} (h : Tre w t S T) (cwd : Int) (c : Cr) (s : ByteArray) (dir : Bool) :
  Calls Tryz.prog 21 #[.pointer (some ⟨t, 0, none⟩), .int .i64 cwd, cred c, .string s, .bool dir] w fun e w' => ∃ r, e = .returned (.int .i64 r) ∧ Stp w t S (fun T' => isWRemove T c cwd (bs s) dir r T') w' := by
 have H := Hd h
 obtain ⟨C, r0, d0, d1, d2, d3, d4, d5, d6, d7, g0, g1, g2, g3, g4, g5, g6, g7, nm, must, is, hC, hc, hE⟩ := wentry_all h cwd c s
 have HCE := Hd hC
 have HC := Hd hc
 have HCS : Hid (C.size = 19) := Hd (by rw [hC]; rfl)
 have HC1 : Hid (C.all (·.oneCell') = true) := Hd (by rw [hC]; exact entG_one)
 obtain ⟨E1, hE1⟩ : ∃ E1, entryT T c cwd (bs s) = E1 := ⟨_, rfl⟩
 rw [hE1] at hE
 have HE1 := Hd hE1
 clear h hC hc hE1
 unfold cred
 unfold ask at HC
 cases E1 with
 | error e0 =>
   obtain ⟨rfl, hz⟩ := hE
   have hz1 : (r0 != 0) = true := by simpa using hz
   clear hz
   cases is <;> cases must
   all_goals
    go_enter Tryz.func21, Tryz.ntmps21
    go_wp2_with fail
    refine (HC.out _ (bZ (bZ (Below.refl _ _) _) _)).mono ?_
    rintro e w3 ⟨rfl, hb⟩
    have HB := Hd (two_below hb)
    rw [aZ, aZ] at hb
    obtain ⟨_, ba1, hlt, _⟩ := two_blocks hb
    obtain ⟨W5, hW5, s1, s2, s3, hT⟩ := stored_ex (w3 := w3) HCS.out
    have hI : (Tryz.prog.info? 74).map (·.size) = some C.size := by rw [HCS.out]; rfl
    have h1C := HC1.out
    have HS5 : Hid (RS w W5 t cwd c w3.heap.size C) := Hd ⟨HB.out.trans (s2.mono HB.out.size), (s2.block _ hlt).trans ba1, s1⟩
    obtain ⟨al, y0, y1, y2, y3, y4, y5, y6⟩ := ask_cells HS5.out.ask
    obtain ⟨xl, x0, x1, x2, x3, x4, x5, x6, x7, x8, x9, x11, x18⟩ := ent_cells HS5.out.ent HCE.out
    clear hb ba1 hlt HC s1 s2 s3
    go_wp2_with (refine wpList_store_mid rfl 74 _ _ rfl w3.heap.size 0 C rfl rfl hT hI h1C ?_; rw [hW5]; clear hW5 hT)
    all_goals
     go_ret
     refine ⟨r0, rfl, Stp.keepB H.out HS5.out.bel ?_⟩
     unfold isWRemove
     rw [HE1.out]
     exact ⟨rfl, rfl⟩
 | ok x =>
   obtain ⟨k, nmx, mustx, tg⟩ := x
   obtain ⟨rfl, rfl, rfl, his, m, hm, hd0, hmay, htk⟩ := hE
   dsimp only at his hm hd0 hmay htk
   have HM := Hd hm
   have HD0 := Hd hd0
   have HMY := Hd hmay
   cases tg with
   | none =>
     obtain rfl : is = false := his
     clear hm hd0 hmay htk HMY
     cases must
     all_goals
      go_enter Tryz.func21, Tryz.ntmps21
      go_wp2_with fail
      refine (HC.out _ (bZ (bZ (Below.refl _ _) _) _)).mono ?_
      rintro e w3 ⟨rfl, hb⟩
      have HB := Hd (two_below hb)
      rw [aZ, aZ] at hb
      obtain ⟨_, ba1, hlt, _⟩ := two_blocks hb
      obtain ⟨W5, hW5, s1, s2, s3, hT⟩ := stored_ex (w3 := w3) HCS.out
      have hI : (Tryz.prog.info? 74).map (·.size) = some C.size := by rw [HCS.out]; rfl
      have h1C := HC1.out
      have HS5 : Hid (RS w W5 t cwd c w3.heap.size C) := Hd ⟨HB.out.trans (s2.mono HB.out.size), (s2.block _ hlt).trans ba1, s1⟩
      obtain ⟨al, y0, y1, y2, y3, y4, y5, y6⟩ := ask_cells HS5.out.ask
      obtain ⟨xl, x0, x1, x2, x3, x4, x5, x6, x7, x8, x9, x11, x18⟩ := ent_cells HS5.out.ent HCE.out
      clear hb ba1 hlt HC s1 s2 s3
      go_wp2_with (refine wpList_store_mid rfl 74 _ _ rfl w3.heap.size 0 C rfl rfl hT hI h1C ?_; rw [hW5]; clear hW5 hT)
      all_goals
       go_ret
       refine ⟨3, rfl, Stp.keepB H.out HS5.out.bel ?_⟩
       unfold isWRemove
       rw [HE1.out]
       exact ⟨rfl, rfl⟩
   | some j =>
     obtain rfl : is = true := his
     obtain ⟨q, hq, rfl, htkq⟩ := htk j rfl
     have HREL : Hid (∀ r T', (if (dir = true ∨ must = true) ∧ q.kind ≠ 1 then r = 6 ∧ T' = T
      else if dir = false ∧ q.kind = 1 then r = 7 ∧ T' = T
      else if mayN m c 2 = false then r = 4 ∧ T' = T
      else if takesB c.eff m.mode m.owner q.owner = false then r = 2 ∧ T' = T
      else IT.isRemove T k nmx r T') → isWRemove T c cwd (bs s) dir r T') := Hd (fun r T' hh => by
       unfold isWRemove
       rw [HE1.out]
       exact ⟨m, q, hm, hq, hh⟩)
     have HTK := Hd htkq
     clear hm hd0 hmay htk htkq hq
     unfold ask infoV at HMY
     unfold ask at HTK
     generalize mayN m c 2 = q1 at *
     generalize takesB c.eff m.mode m.owner q.owner = q2 at *
     cases kd : (q.kind == 1) <;> cases dir <;> cases must
     all_goals
      have HKD := Hd kd
      simp only [beq_iff_eq, beq_eq_false_iff_ne] at HKD
      go_enter Tryz.func21, Tryz.ntmps21
      go_wp2_with fail
      refine (HC.out _ (bZ (bZ (Below.refl _ _) _) _)).mono ?_
      rintro e w3 ⟨rfl, hb⟩
      have HB := Hd (two_below hb)
      rw [aZ, aZ] at hb
      obtain ⟨_, ba1, hlt, _⟩ := two_blocks hb
      obtain ⟨W5, hW5, s1, s2, s3, hT⟩ := stored_ex (w3 := w3) HCS.out
      have hI : (Tryz.prog.info? 74).map (·.size) = some C.size := by rw [HCS.out]; rfl
      have h1C := HC1.out
      have HS5 : Hid (RS w W5 t cwd c w3.heap.size C) := Hd ⟨HB.out.trans (s2.mono HB.out.size), (s2.block _ hlt).trans ba1, s1⟩
      obtain ⟨al, y0, y1, y2, y3, y4, y5, y6⟩ := ask_cells HS5.out.ask
      obtain ⟨xl, x0, x1, x2, x3, x4, x5, x6, x7, x8, x9, x11, x18⟩ := ent_cells HS5.out.ent HCE.out
      clear hb ba1 hlt HC s1 s2 s3
      go_wp2_with (refine wpList_store_mid rfl 74 _ _ rfl w3.heap.size 0 C rfl rfl hT hI h1C ?_; rw [hW5]; clear hW5 hT)
      first
       | (go_ret
          exact ⟨_, rfl, Stp.keepB H.out HS5.out.bel (HREL.out _ T (by simp [HKD.out]))⟩)
       | skip
     all_goals
      clear al y0 y1 y2 y3 y4 y5 y6 xl x0 x1 x2 x3 x4 x5 x6 x7 x8 x9 x11 x18
      refine (HMY.out _).mono ?_
      rintro e w8 ⟨rfl, hb⟩
      have HS8 := Hd (HS5.out.below hb)
      clear hb HS5
      cases q1 with
      | false =>
        go_wp2
        go_ret
        exact ⟨4, rfl, Stp.keepB H.out HS8.out.bel (HREL.out 4 T (by simp [HKD.out]))⟩
      | true =>
        obtain ⟨al, y0, y1, y2, y3, y4, y5, y6⟩ := ask_cells HS8.out.ask
        have l8 := range_of HS8.out.ent
        have xl := lH HS8.out.ent
        go_wp2_with (refine wpList_load_mid rfl 74 _ rfl w3.heap.size 0 rfl C.toList _ l8 rfl rfl hI ?_)
        refine (HTK.out _).mono ?_
        rintro e w9 ⟨rfl, hb⟩
        have HS9 := Hd (HS8.out.below hb)
        clear hb HS8 al y0 y1 y2 y3 y4 y5 y6 l8 xl
        cases q2 with
        | false =>
          go_wp2
          go_ret
          exact ⟨2, rfl, Stp.keepB H.out HS9.out.bel (HREL.out 2 T (by simp [HKD.out]))⟩
        | true =>
          obtain ⟨xl, x0, x1, x2, x3, x4, x5, x6, x7, x8, x9, x11, x18⟩ := ent_cells HS9.out.ent HCE.out
          go_wp2_with fail
          refine (remove_any (H.out.mv ((Mv.refl H.out.rep).below HS9.out.bel)) d0 (tx nmx)).mono ?_
          rintro e wz ⟨r, rfl, hs⟩
          have HS := Hd (Stp.pre ((Mv.refl H.out.rep).below HS9.out.bel) hs)
          clear hs
          go_wp2
          go_ret
          refine ⟨r, rfl, HS.out.imp fun T' hT' => HREL.out r T' ?_⟩
          rw [HD0.out, bs_tx, Int.toNat_natCast] at hT'
          simp only [HKD.out, ne_eq, not_true_eq_false, not_false_eq_true, and_false, false_and, and_true, true_and, or_self, or_false, false_or, if_false, Bool.true_eq_false, Bool.false_eq_true]
          exact hT'
def isWPut (T : IT.Tr) (k : Nat) (a : Int) (s : IT.Bytes) (r : Int) (T' : IT.Tr) : Prop :=
 ∃ T1, IT.isPut T k a s r T1 ∧ if r = 0 then isPlainer T1 k T' else T' = T1
theorem isWPut.sound {T T' : IT.Tr} {k : Nat} {a r : Int} {s : IT.Bytes} (h : isWPut T k a s r T') (hs : IT.Sound okN T) : IT.Sound okN T' := by
 obtain ⟨T1, h1, h2⟩ := h
 split at h2
 · exact isPlainer.sound h2 (h1.sound hs)
 · exact h2 ▸ h1.sound hs
theorem HB.wput {T T' : IT.Tr} {k B : Nat} {a r : Int} {s : IT.Bytes} (hb : HB T B) (h : isWPut T k a s r T') : HB T' B := by
 obtain ⟨T1, h1, h2⟩ := h
 split at h2
 · exact (hb.put h1).plainer h2
 · exact h2 ▸ hb.put h1
theorem walkPut_any {w : World} {t : Nat} {S : Tab} {T : IT.Tr} (h : Tre w t S T) (ki a : Int) (s : ByteArray) :
  Calls Tryz.prog 66 #[.pointer (some ⟨t, 0, none⟩), .int .i64 ki, .int .i64 a, .string s] w fun e w' => ∃ r, e = .returned (.int .i64 r) ∧ Stp w t S (fun T' => isWPut T ki.toNat a (bs s) r T') w' := by
 have H := Hd h
 clear h
 go_enter Tryz.func66, Tryz.ntmps66
 go_wp2_with fail
 refine (put_any H.out ki a s).mono ?_
 rintro e w2 ⟨r, rfl, hs⟩
 obtain ⟨S1, T1, g1, ht1, hr1⟩ := hs.tre fun T' hT' => hT'.sound H.out.snd
 have HT1 := Hd ht1
 have HM1 := Hd g1
 have HR1 := Hd hr1
 clear hs g1 ht1 hr1
 by_cases hz : r = 0
 · subst hz
   go_wp2_with fail
   refine (plainer_any HT1.out ki).mono ?_
   rintro e w3 ⟨rfl, hs⟩
   have HS := Hd (Stp.pre HM1.out hs)
   clear hs
   go_wp2
   go_ret
   exact ⟨0, rfl, HS.out.imp fun T' hT' => ⟨T1, HR1.out, by rw [if_pos rfl]; exact hT'⟩⟩
 · have hz1 : (r == 0) = false := by simpa using hz
   have HNZ := Hd hz
   clear hz
   go_wp2
   go_ret
   exact ⟨r, rfl, S1, T1, HM1.out, HT1.out.ties, ⟨T1, HR1.out, by rw [if_neg HNZ.out]⟩⟩
def isLink (T : IT.Tr) (c : Cr) (cwd : Int) (s ar : IT.Bytes) (r : Int) (T' : IT.Tr) : Prop :=
 if (findT T c cwd s).2 ≠ 0 then r = (findT T c cwd s).2 ∧ T' = T
 else ∃ q, T (findT T c cwd s).1 = some q ∧ if q.kind = 1 then r = 7 ∧ T' = T
  else match entryT T c cwd ar with
   | .error e => r = e ∧ T' = T
   | .ok x => if x.tg.isSome then r = 5 ∧ T' = T
     else if x.must = true then r = 6 ∧ T' = T
     else ∃ m, T x.dir = some m ∧ if mayN m c 2 = false then r = 4 ∧ T' = T
      else IT.isEnter okN T x.dir x.name (findT T c cwd s).1 r T'
theorem wlink_find {w : World} {t : Nat} {S : Tab} {T : IT.Tr} (h : Tre w t S T) (cwd : Int) (c : Cr) (s ar : ByteArray) {k0 : Nat} {r0 : Int} (hg : findT T c cwd (bs s) = (k0, r0)) (hz : r0 ≠ 0) :
  Calls Tryz.prog 25 #[.pointer (some ⟨t, 0, none⟩), .int .i64 cwd, cred c, .string s, .string ar] w fun e w' => ∃ r, e = .returned (.int .i64 r) ∧ Stp w t S (fun T' => isLink T c cwd (bs s) (bs ar) r T') w' := by
 obtain ⟨f0, f1, f2, f3, f4, f5, f6, f7, _, _, hF⟩ := wfind_ints h cwd c s hg
 have H := Hd h
 have HG := Hd hg
 have HF := Hd hF
 have hz1 : (r0 != 0) = true := by simpa using hz
 have HNZ := Hd hz
 clear h hg hF hz
 unfold cred
 unfold ask at HF
 go_enter Tryz.func25, Tryz.ntmps25
 go_wp2_with fail
 refine (HF.out _ (bZ (bZ (Below.refl _ _) _) _)).mono ?_
 rintro e w2 ⟨rfl, hb⟩
 have HB := Hd (two_below hb)
 clear hb HF
 go_wp2
 go_ret
 refine ⟨r0, rfl, Stp.keepB H.out (bZ HB.out _) ?_⟩
 unfold isLink
 rw [HG.out, if_pos HNZ.out]
 exact ⟨rfl, rfl⟩
theorem wlink_dir {w : World} {t : Nat} {S : Tab} {T : IT.Tr} (h : Tre w t S T) (cwd : Int) (c : Cr) (s ar : ByteArray) {k0 : Nat} {q : IT.Nd} (hg : findT T c cwd (bs s) = (k0, 0)) (hq : T k0 = some q) (hk : q.kind = 1) :
  Calls Tryz.prog 25 #[.pointer (some ⟨t, 0, none⟩), .int .i64 cwd, cred c, .string s, .string ar] w fun e w' => ∃ r, e = .returned (.int .i64 r) ∧ Stp w t S (fun T' => isLink T c cwd (bs s) (bs ar) r T') w' := by
 obtain ⟨f0, f1, f2, f3, f4, f5, f6, f7, h0, _, hF⟩ := wfind_ints h cwd c s hg
 obtain ⟨q2, hq2, hd⟩ := h0 rfl
 obtain rfl : q = q2 := oI (hq.symm.trans hq2)
 have H := Hd h
 have HG := Hd hg
 have HF := Hd hF
 have HQ := Hd hq
 have HK := Hd hk
 obtain rfl : f1 = 1 := (infC_inj hd).2.1.symm.trans hk
 clear h hg hF hq hq2 hk h0 hd
 unfold cred
 unfold ask at HF
 go_enter Tryz.func25, Tryz.ntmps25
 go_wp2_with fail
 refine (HF.out _ (bZ (bZ (Below.refl _ _) _) _)).mono ?_
 rintro e w2 ⟨rfl, hb⟩
 have HB := Hd (two_below hb)
 clear hb HF
 go_wp2
 go_ret
 refine ⟨7, rfl, Stp.keepB H.out (bZ HB.out _) ?_⟩
 unfold isLink
 rw [HG.out, if_neg (fun hh => hh rfl)]
 refine ⟨q, HQ.out, ?_⟩
 rw [if_pos HK.out]
 exact ⟨rfl, rfl⟩
theorem wlink_err {w : World} {t : Nat} {S : Tab} {T : IT.Tr} (h : Tre w t S T) (cwd : Int) (c : Cr) (s ar : ByteArray) {k0 : Nat} {q : IT.Nd} (hg : findT T c cwd (bs s) = (k0, 0)) (hq : T k0 = some q) (hk : q.kind ≠ 1) {r0 : Int} (he : entryT T c cwd (bs ar) = .error r0) :
  Calls Tryz.prog 25 #[.pointer (some ⟨t, 0, none⟩), .int .i64 cwd, cred c, .string s, .string ar] w fun e w' => ∃ r, e = .returned (.int .i64 r) ∧ Stp w t S (fun T' => isLink T c cwd (bs s) (bs ar) r T') w' := by
 obtain ⟨f0, f1, f2, f3, f4, f5, f6, f7, h0, _, hF⟩ := wfind_ints h cwd c s hg
 obtain ⟨q2, hq2, hfd⟩ := h0 rfl
 obtain rfl : q = q2 := oI (hq.symm.trans hq2)
 have H := Hd h
 have HG := Hd hg
 have HF := Hd hF
 have HQ := Hd hq
 have HK := Hd hk
 have HFI := Hd (infC_inj hfd)
 have hf1 : (f1 == 1) = false := by have := HFI.out.2.1; rw [this] at hk; simpa using hk
 have HE := Hd he
 have hz1 : (r0 != 0) = true := by simpa using entry_ne he
 obtain ⟨C, hC⟩ : ∃ C, C = zeroE := ⟨_, rfl⟩
 have HC := Hd (wentry_bad h cwd c ar he)
 rw [← hC] at HC
 have HCS : Hid (C.size = 19) := Hd (by rw [hC]; rfl)
 have HC1 : Hid (C.all (·.oneCell') = true) := Hd (by rw [hC]; exact zeroE_one)
 have HCX9 : Hid (C[9]? = some (.bool false)) := Hd (by rw [hC]; rfl)
 have HCX18 : Hid (C[18]? = some (.bool false)) := Hd (by rw [hC]; rfl)
 clear h hg hF hq hq2 hk h0 hfd he hC
 unfold cred
 unfold ask at HF HC
 go_enter Tryz.func25, Tryz.ntmps25
 go_wp2_with fail
 refine (HF.out _ (bZ (bZ (Below.refl _ _) _) _)).mono ?_
 rintro e w2 ⟨rfl, hb⟩
 have HB := Hd (two_below hb)
 rw [aZ, aZ] at hb
 obtain ⟨_, b1, hlt, _⟩ := two_blocks hb
 have hlt2 : w.heap.size + 1 < w2.heap.size := hlt
 have a0 : w2.cell? ⟨w.heap.size + 1, 0, none⟩ = some (.pointer (some ⟨t, 0, none⟩)) := cO b1 0
 have a1 : w2.cell? ⟨w.heap.size + 1, 1, none⟩ = some (.int .i64 cwd) := cO b1 1
 have a2 : w2.cell? ⟨w.heap.size + 1, 2, none⟩ = some (.int .i64 c.real) := cO b1 2
 have a3 : w2.cell? ⟨w.heap.size + 1, 3, none⟩ = some (.int .i64 c.eff) := cO b1 3
 have a4 : w2.cell? ⟨w.heap.size + 1, 4, none⟩ = some (.int .i64 c.saved) := cO b1 4
 have a5 : w2.cell? ⟨w.heap.size + 1, 5, none⟩ = some (.int .i64 c.group) := cO b1 5
 have a6 : w2.cell? ⟨w.heap.size + 1, 6, none⟩ = some (.int .i64 c.eg) := cO b1 6
 have HB1 := Hd b1
 clear hb hlt b1 HF
 go_wp2_with fail
 refine (HC.out _ (bZ HB.out _)).mono ?_
 rintro e w3 ⟨rfl, hb3⟩
 have HB3 : Hid (Below w.heap.size w w3) := Hd ((bZ HB.out _).trans (hb3.mono (bZ HB.out _).size))
 have hBb := (hb3.block (w.heap.size + 1) (by rw [aZ]; omega)).trans ((aP _ _ hlt2).trans HB1.out)
 have hFb := (hb3.block w2.heap.size (by rw [aZ]; omega)).trans (aQ w2 _)
 have hl3 : w2.heap.size < w3.heap.size := by have := hb3.size; rw [aZ] at this; omega
 have hl4 : w.heap.size + 1 < w3.heap.size := by omega
 clear hb3 HC a0 a1 a2 a3 a4 a5 a6
 obtain ⟨W5, hW5, s1, s2, s3, hT⟩ := stored_ex (w3 := w3) HCS.out
 have hI : (Tryz.prog.info? 74).map (·.size) = some C.size := by rw [HCS.out]; rfl
 have h1C := HC1.out
 have x9 : W5.cell? ⟨w3.heap.size, 9, none⟩ = some (.bool false) := (cO s1 9).trans HCX9.out
 have x18 : W5.cell? ⟨w3.heap.size, 18, none⟩ = some (.bool false) := (cO s1 18).trans HCX18.out
 clear hBb hFb
 go_wp2_with (refine wpList_store_mid rfl 74 _ _ rfl w3.heap.size 0 C rfl rfl hT hI h1C ?_; rw [hW5]; clear hW5)
 go_ret
 refine ⟨r0, rfl, Stp.keepB H.out (HB3.out.trans (s2.mono HB3.out.size)) ?_⟩
 unfold isLink
 rw [HG.out, if_neg (fun hh => hh rfl)]
 refine ⟨q, HQ.out, ?_⟩
 rw [if_neg HK.out, HE.out]
 exact ⟨rfl, rfl⟩
theorem wlink_is {w : World} {t : Nat} {S : Tab} {T : IT.Tr} (h : Tre w t S T) (cwd : Int) (c : Cr) (s ar : ByteArray) {k0 : Nat} {q : IT.Nd} (hg : findT T c cwd (bs s) = (k0, 0)) (hq : T k0 = some q) (hk : q.kind ≠ 1) {k j : Nat} {nm : IT.Bytes} {must : Bool} {m q3 : IT.Nd} (he : entryT T c cwd (bs ar) = .ok ⟨k, nm, must, some j⟩) (hm : T k = some m) (hq3 : T j = some q3) :
  Calls Tryz.prog 25 #[.pointer (some ⟨t, 0, none⟩), .int .i64 cwd, cred c, .string s, .string ar] w fun e w' => ∃ r, e = .returned (.int .i64 r) ∧ Stp w t S (fun T' => isLink T c cwd (bs s) (bs ar) r T') w' := by
 obtain ⟨f0, f1, f2, f3, f4, f5, f6, f7, h0, _, hF⟩ := wfind_ints h cwd c s hg
 obtain ⟨q2, hq2, hfd⟩ := h0 rfl
 obtain rfl : q = q2 := oI (hq.symm.trans hq2)
 have H := Hd h
 have HG := Hd hg
 have HF := Hd hF
 have HQ := Hd hq
 have HK := Hd hk
 have HFI := Hd (infC_inj hfd)
 have hf1 : (f1 == 1) = false := by have := HFI.out.2.1; rw [this] at hk; simpa using hk
 have HE := Hd he
 obtain ⟨d0, d1, d2, d3, d4, d5, d6, d7, g0, g1, g2, g3, g4, g5, g6, g7, _, _, hc⟩ := wentry_some h cwd c ar he hm hq3
 obtain ⟨C, hC⟩ : ∃ C, C = entG d0 d1 d2 d3 d4 d5 d6 d7 (tx nm) must g0 g1 g2 g3 g4 g5 g6 g7 true := ⟨_, rfl⟩
 rw [← hC] at hc
 have HC := Hd hc
 clear hm hq3 hc
 have HCS : Hid (C.size = 19) := Hd (by rw [hC]; rfl)
 have HC1 : Hid (C.all (·.oneCell') = true) := Hd (by rw [hC]; exact entG_one)
 have HCX9 : Hid (C[9]? = some (.bool must)) := Hd (by rw [hC]; rfl)
 have HCX18 : Hid (C[18]? = some (.bool true)) := Hd (by rw [hC]; rfl)
 clear h hg hF hq hq2 hk h0 hfd he hC
 unfold cred
 unfold ask at HF HC
 go_enter Tryz.func25, Tryz.ntmps25
 go_wp2_with fail
 refine (HF.out _ (bZ (bZ (Below.refl _ _) _) _)).mono ?_
 rintro e w2 ⟨rfl, hb⟩
 have HB := Hd (two_below hb)
 rw [aZ, aZ] at hb
 obtain ⟨_, b1, hlt, _⟩ := two_blocks hb
 have hlt2 : w.heap.size + 1 < w2.heap.size := hlt
 have a0 : w2.cell? ⟨w.heap.size + 1, 0, none⟩ = some (.pointer (some ⟨t, 0, none⟩)) := cO b1 0
 have a1 : w2.cell? ⟨w.heap.size + 1, 1, none⟩ = some (.int .i64 cwd) := cO b1 1
 have a2 : w2.cell? ⟨w.heap.size + 1, 2, none⟩ = some (.int .i64 c.real) := cO b1 2
 have a3 : w2.cell? ⟨w.heap.size + 1, 3, none⟩ = some (.int .i64 c.eff) := cO b1 3
 have a4 : w2.cell? ⟨w.heap.size + 1, 4, none⟩ = some (.int .i64 c.saved) := cO b1 4
 have a5 : w2.cell? ⟨w.heap.size + 1, 5, none⟩ = some (.int .i64 c.group) := cO b1 5
 have a6 : w2.cell? ⟨w.heap.size + 1, 6, none⟩ = some (.int .i64 c.eg) := cO b1 6
 have HB1 := Hd b1
 clear hb hlt b1 HF
 go_wp2_with fail
 refine (HC.out _ (bZ HB.out _)).mono ?_
 rintro e w3 ⟨rfl, hb3⟩
 have HB3 : Hid (Below w.heap.size w w3) := Hd ((bZ HB.out _).trans (hb3.mono (bZ HB.out _).size))
 have hBb := (hb3.block (w.heap.size + 1) (by rw [aZ]; omega)).trans ((aP _ _ hlt2).trans HB1.out)
 have hFb := (hb3.block w2.heap.size (by rw [aZ]; omega)).trans (aQ w2 _)
 have hl3 : w2.heap.size < w3.heap.size := by have := hb3.size; rw [aZ] at this; omega
 have hl4 : w.heap.size + 1 < w3.heap.size := by omega
 clear hb3 HC a0 a1 a2 a3 a4 a5 a6
 obtain ⟨W5, hW5, s1, s2, s3, hT⟩ := stored_ex (w3 := w3) HCS.out
 have hI : (Tryz.prog.info? 74).map (·.size) = some C.size := by rw [HCS.out]; rfl
 have h1C := HC1.out
 have x9 : W5.cell? ⟨w3.heap.size, 9, none⟩ = some (.bool must) := (cO s1 9).trans HCX9.out
 have x18 : W5.cell? ⟨w3.heap.size, 18, none⟩ = some (.bool true) := (cO s1 18).trans HCX18.out
 clear hBb hFb
 go_wp2_with (refine wpList_store_mid rfl 74 _ _ rfl w3.heap.size 0 C rfl rfl hT hI h1C ?_; rw [hW5]; clear hW5)
 go_ret
 refine ⟨5, rfl, Stp.keepB H.out (HB3.out.trans (s2.mono HB3.out.size)) ?_⟩
 unfold isLink
 rw [HG.out, if_neg (fun hh => hh rfl)]
 refine ⟨q, HQ.out, ?_⟩
 rw [if_neg HK.out, HE.out]
 exact ⟨rfl, rfl⟩
theorem wlink_must {w : World} {t : Nat} {S : Tab} {T : IT.Tr} (h : Tre w t S T) (cwd : Int) (c : Cr) (s ar : ByteArray) {k0 : Nat} {q : IT.Nd} (hg : findT T c cwd (bs s) = (k0, 0)) (hq : T k0 = some q) (hk : q.kind ≠ 1) {k : Nat} {nm : IT.Bytes} {m : IT.Nd} (he : entryT T c cwd (bs ar) = .ok ⟨k, nm, true, none⟩) (hm : T k = some m) :
  Calls Tryz.prog 25 #[.pointer (some ⟨t, 0, none⟩), .int .i64 cwd, cred c, .string s, .string ar] w fun e w' => ∃ r, e = .returned (.int .i64 r) ∧ Stp w t S (fun T' => isLink T c cwd (bs s) (bs ar) r T') w' := by
 obtain ⟨f0, f1, f2, f3, f4, f5, f6, f7, h0, _, hF⟩ := wfind_ints h cwd c s hg
 obtain ⟨q2, hq2, hfd⟩ := h0 rfl
 obtain rfl : q = q2 := oI (hq.symm.trans hq2)
 have H := Hd h
 have HG := Hd hg
 have HF := Hd hF
 have HQ := Hd hq
 have HK := Hd hk
 have HFI := Hd (infC_inj hfd)
 have hf1 : (f1 == 1) = false := by have := HFI.out.2.1; rw [this] at hk; simpa using hk
 have HE := Hd he
 obtain ⟨d0, d1, d2, d3, d4, d5, d6, d7, hd, hc⟩ := wentry_none h cwd c ar he hm
 obtain ⟨C, hC⟩ : ∃ C, C = entG d0 d1 d2 d3 d4 d5 d6 d7 (tx nm) true 0 0 0 0 0 0 0 0 false := ⟨_, rfl⟩
 rw [← hC] at hc
 have HC := Hd hc
 have HD := Hd (infC_inj hd)
 have HM := Hd hm
 clear hm hc hd
 have HCS : Hid (C.size = 19) := Hd (by rw [hC]; rfl)
 have HC1 : Hid (C.all (·.oneCell') = true) := Hd (by rw [hC]; exact entG_one)
 have HCX9 : Hid (C[9]? = some (.bool true)) := Hd (by rw [hC]; rfl)
 have HCX18 : Hid (C[18]? = some (.bool false)) := Hd (by rw [hC]; rfl)
 clear h hg hF hq hq2 hk h0 hfd he hC
 unfold cred
 unfold ask at HF HC
 go_enter Tryz.func25, Tryz.ntmps25
 go_wp2_with fail
 refine (HF.out _ (bZ (bZ (Below.refl _ _) _) _)).mono ?_
 rintro e w2 ⟨rfl, hb⟩
 have HB := Hd (two_below hb)
 rw [aZ, aZ] at hb
 obtain ⟨_, b1, hlt, _⟩ := two_blocks hb
 have hlt2 : w.heap.size + 1 < w2.heap.size := hlt
 have a0 : w2.cell? ⟨w.heap.size + 1, 0, none⟩ = some (.pointer (some ⟨t, 0, none⟩)) := cO b1 0
 have a1 : w2.cell? ⟨w.heap.size + 1, 1, none⟩ = some (.int .i64 cwd) := cO b1 1
 have a2 : w2.cell? ⟨w.heap.size + 1, 2, none⟩ = some (.int .i64 c.real) := cO b1 2
 have a3 : w2.cell? ⟨w.heap.size + 1, 3, none⟩ = some (.int .i64 c.eff) := cO b1 3
 have a4 : w2.cell? ⟨w.heap.size + 1, 4, none⟩ = some (.int .i64 c.saved) := cO b1 4
 have a5 : w2.cell? ⟨w.heap.size + 1, 5, none⟩ = some (.int .i64 c.group) := cO b1 5
 have a6 : w2.cell? ⟨w.heap.size + 1, 6, none⟩ = some (.int .i64 c.eg) := cO b1 6
 have HB1 := Hd b1
 clear hb hlt b1 HF
 go_wp2_with fail
 refine (HC.out _ (bZ HB.out _)).mono ?_
 rintro e w3 ⟨rfl, hb3⟩
 have HB3 : Hid (Below w.heap.size w w3) := Hd ((bZ HB.out _).trans (hb3.mono (bZ HB.out _).size))
 have hBb := (hb3.block (w.heap.size + 1) (by rw [aZ]; omega)).trans ((aP _ _ hlt2).trans HB1.out)
 have hFb := (hb3.block w2.heap.size (by rw [aZ]; omega)).trans (aQ w2 _)
 have hl3 : w2.heap.size < w3.heap.size := by have := hb3.size; rw [aZ] at this; omega
 have hl4 : w.heap.size + 1 < w3.heap.size := by omega
 clear hb3 HC a0 a1 a2 a3 a4 a5 a6
 obtain ⟨W5, hW5, s1, s2, s3, hT⟩ := stored_ex (w3 := w3) HCS.out
 have hI : (Tryz.prog.info? 74).map (·.size) = some C.size := by rw [HCS.out]; rfl
 have h1C := HC1.out
 have x9 : W5.cell? ⟨w3.heap.size, 9, none⟩ = some (.bool true) := (cO s1 9).trans HCX9.out
 have x18 : W5.cell? ⟨w3.heap.size, 18, none⟩ = some (.bool false) := (cO s1 18).trans HCX18.out
 clear hBb hFb
 go_wp2_with (refine wpList_store_mid rfl 74 _ _ rfl w3.heap.size 0 C rfl rfl hT hI h1C ?_; rw [hW5]; clear hW5)
 go_ret
 refine ⟨6, rfl, Stp.keepB H.out (HB3.out.trans (s2.mono HB3.out.size)) ?_⟩
 unfold isLink
 rw [HG.out, if_neg (fun hh => hh rfl)]
 refine ⟨q, HQ.out, ?_⟩
 rw [if_neg HK.out, HE.out]
 exact ⟨rfl, rfl⟩
theorem wlink_go {w : World} {t : Nat} {S : Tab} {T : IT.Tr} (h : Tre w t S T) (cwd : Int) (c : Cr) (s ar : ByteArray) {k0 : Nat} {q : IT.Nd} (hg : findT T c cwd (bs s) = (k0, 0)) (hq : T k0 = some q) (hk : q.kind ≠ 1) {k : Nat} {nm : IT.Bytes} {m : IT.Nd} (he : entryT T c cwd (bs ar) = .ok ⟨k, nm, false, none⟩) (hm : T k = some m) :
  Calls Tryz.prog 25 #[.pointer (some ⟨t, 0, none⟩), .int .i64 cwd, cred c, .string s, .string ar] w fun e w' => ∃ r, e = .returned (.int .i64 r) ∧ Stp w t S (fun T' => isLink T c cwd (bs s) (bs ar) r T') w' := by
 obtain ⟨f0, f1, f2, f3, f4, f5, f6, f7, h0, _, hF⟩ := wfind_ints h cwd c s hg
 obtain ⟨q2, hq2, hfd⟩ := h0 rfl
 obtain rfl : q = q2 := oI (hq.symm.trans hq2)
 have H := Hd h
 have HG := Hd hg
 have HF := Hd hF
 have HQ := Hd hq
 have HK := Hd hk
 have HFI := Hd (infC_inj hfd)
 have hf1 : (f1 == 1) = false := by have := HFI.out.2.1; rw [this] at hk; simpa using hk
 have HE := Hd he
 obtain ⟨d0, d1, d2, d3, d4, d5, d6, d7, hd, hc⟩ := wentry_none h cwd c ar he hm
 obtain ⟨C, hC⟩ : ∃ C, C = entG d0 d1 d2 d3 d4 d5 d6 d7 (tx nm) false 0 0 0 0 0 0 0 0 false := ⟨_, rfl⟩
 rw [← hC] at hc
 have HC := Hd hc
 have HD := Hd (infC_inj hd)
 have HM := Hd hm
 clear hm hc hd
 have HCS : Hid (C.size = 19) := Hd (by rw [hC]; rfl)
 have HC1 : Hid (C.all (·.oneCell') = true) := Hd (by rw [hC]; exact entG_one)
 have HCX0 : Hid (C[0]? = some (.int .i64 d0)) := Hd (by rw [hC]; rfl)
 have HCX1 : Hid (C[1]? = some (.int .i64 d1)) := Hd (by rw [hC]; rfl)
 have HCX2 : Hid (C[2]? = some (.int .i64 d2)) := Hd (by rw [hC]; rfl)
 have HCX3 : Hid (C[3]? = some (.int .i64 d3)) := Hd (by rw [hC]; rfl)
 have HCX4 : Hid (C[4]? = some (.int .i64 d4)) := Hd (by rw [hC]; rfl)
 have HCX5 : Hid (C[5]? = some (.int .i64 d5)) := Hd (by rw [hC]; rfl)
 have HCX6 : Hid (C[6]? = some (.int .i64 d6)) := Hd (by rw [hC]; rfl)
 have HCX7 : Hid (C[7]? = some (.int .i64 d7)) := Hd (by rw [hC]; rfl)
 have HCX8 : Hid (C[8]? = some (.string (tx nm))) := Hd (by rw [hC]; rfl)
 have HCX9 : Hid (C[9]? = some (.bool false)) := Hd (by rw [hC]; rfl)
 have HCX18 : Hid (C[18]? = some (.bool false)) := Hd (by rw [hC]; rfl)
 clear h hg hF hq hq2 hk h0 hfd he hC
 have HMY : Hid (∀ W', Calls Tryz.prog 39 #[ask t cwd c, infoV d0 d1 d2 d3 d4 d5 d6 d7, .int .i64 2] W' fun e w' => e = .returned (.bool (mayN m c 2)) ∧ Below W'.heap.size W' w') := Hd (fun W' => by
  have hh := wmay_any t cwd c d0 d1 d2 d3 d4 d5 d6 d7 2 W'
  obtain ⟨e0, e1, e2, e3, e4, _, _, _⟩ := HD.out
  rw [← e1, ← e2, ← e3, ← e4] at hh ⊢
  exact hh)
 generalize hq1 : mayN m c 2 = q1 at *
 have HQ1 := Hd hq1
 clear hq1
 unfold ask infoV at HMY
 unfold cred
 unfold ask at HF HC
 go_enter Tryz.func25, Tryz.ntmps25
 go_wp2_with fail
 refine (HF.out _ (bZ (bZ (Below.refl _ _) _) _)).mono ?_
 rintro e w2 ⟨rfl, hb⟩
 have HB := Hd (two_below hb)
 rw [aZ, aZ] at hb
 obtain ⟨_, b1, hlt, _⟩ := two_blocks hb
 have hlt2 : w.heap.size + 1 < w2.heap.size := hlt
 have a0 : w2.cell? ⟨w.heap.size + 1, 0, none⟩ = some (.pointer (some ⟨t, 0, none⟩)) := cO b1 0
 have a1 : w2.cell? ⟨w.heap.size + 1, 1, none⟩ = some (.int .i64 cwd) := cO b1 1
 have a2 : w2.cell? ⟨w.heap.size + 1, 2, none⟩ = some (.int .i64 c.real) := cO b1 2
 have a3 : w2.cell? ⟨w.heap.size + 1, 3, none⟩ = some (.int .i64 c.eff) := cO b1 3
 have a4 : w2.cell? ⟨w.heap.size + 1, 4, none⟩ = some (.int .i64 c.saved) := cO b1 4
 have a5 : w2.cell? ⟨w.heap.size + 1, 5, none⟩ = some (.int .i64 c.group) := cO b1 5
 have a6 : w2.cell? ⟨w.heap.size + 1, 6, none⟩ = some (.int .i64 c.eg) := cO b1 6
 have HB1 := Hd b1
 clear hb hlt b1 HF
 go_wp2_with fail
 refine (HC.out _ (bZ HB.out _)).mono ?_
 rintro e w3 ⟨rfl, hb3⟩
 have HB3 : Hid (Below w.heap.size w w3) := Hd ((bZ HB.out _).trans (hb3.mono (bZ HB.out _).size))
 have hBb := (hb3.block (w.heap.size + 1) (by rw [aZ]; omega)).trans ((aP _ _ hlt2).trans HB1.out)
 have hFb := (hb3.block w2.heap.size (by rw [aZ]; omega)).trans (aQ w2 _)
 have hl3 : w2.heap.size < w3.heap.size := by have := hb3.size; rw [aZ] at this; omega
 have hl4 : w.heap.size + 1 < w3.heap.size := by omega
 clear hb3 HC a0 a1 a2 a3 a4 a5 a6
 obtain ⟨W5, hW5, s1, s2, s3, hT⟩ := stored_ex (w3 := w3) HCS.out
 have hI : (Tryz.prog.info? 74).map (·.size) = some C.size := by rw [HCS.out]; rfl
 have h1C := HC1.out
 have x0 : W5.cell? ⟨w3.heap.size, 0, none⟩ = some (.int .i64 d0) := (cO s1 0).trans HCX0.out
 have x1 : W5.cell? ⟨w3.heap.size, 1, none⟩ = some (.int .i64 d1) := (cO s1 1).trans HCX1.out
 have x2 : W5.cell? ⟨w3.heap.size, 2, none⟩ = some (.int .i64 d2) := (cO s1 2).trans HCX2.out
 have x3 : W5.cell? ⟨w3.heap.size, 3, none⟩ = some (.int .i64 d3) := (cO s1 3).trans HCX3.out
 have x4 : W5.cell? ⟨w3.heap.size, 4, none⟩ = some (.int .i64 d4) := (cO s1 4).trans HCX4.out
 have x5 : W5.cell? ⟨w3.heap.size, 5, none⟩ = some (.int .i64 d5) := (cO s1 5).trans HCX5.out
 have x6 : W5.cell? ⟨w3.heap.size, 6, none⟩ = some (.int .i64 d6) := (cO s1 6).trans HCX6.out
 have x7 : W5.cell? ⟨w3.heap.size, 7, none⟩ = some (.int .i64 d7) := (cO s1 7).trans HCX7.out
 have x8 : W5.cell? ⟨w3.heap.size, 8, none⟩ = some (.string (tx nm)) := (cO s1 8).trans HCX8.out
 have x9 : W5.cell? ⟨w3.heap.size, 9, none⟩ = some (.bool false) := (cO s1 9).trans HCX9.out
 have x18 : W5.cell? ⟨w3.heap.size, 18, none⟩ = some (.bool false) := (cO s1 18).trans HCX18.out
 have huB := (s2.block _ hl4).trans hBb
 have huL : w.heap.size + 1 < W5.heap.size := by have := hl4; omega
 have u0 : W5.cell? ⟨w.heap.size + 1, 0, none⟩ = some (.pointer (some ⟨t, 0, none⟩)) := cO huB 0
 have u1 : W5.cell? ⟨w.heap.size + 1, 1, none⟩ = some (.int .i64 cwd) := cO huB 1
 have u2 : W5.cell? ⟨w.heap.size + 1, 2, none⟩ = some (.int .i64 c.real) := cO huB 2
 have u3 : W5.cell? ⟨w.heap.size + 1, 3, none⟩ = some (.int .i64 c.eff) := cO huB 3
 have u4 : W5.cell? ⟨w.heap.size + 1, 4, none⟩ = some (.int .i64 c.saved) := cO huB 4
 have u5 : W5.cell? ⟨w.heap.size + 1, 5, none⟩ = some (.int .i64 c.group) := cO huB 5
 have u6 : W5.cell? ⟨w.heap.size + 1, 6, none⟩ = some (.int .i64 c.eg) := cO huB 6
 have hvB := (s2.block _ hl3).trans hFb
 have hvL : w2.heap.size < W5.heap.size := by have := hl3; omega
 have v0 : W5.cell? ⟨w2.heap.size, 0, none⟩ = some (.int .i64 f0) := cO hvB 0
 clear hBb hFb hl3 hl4
 go_wp2_with (refine wpList_store_mid rfl 74 _ _ rfl w3.heap.size 0 C rfl rfl hT hI h1C ?_; rw [hW5]; clear hW5)
 refine (HMY.out _).mono ?_
 rintro e w6 ⟨rfl, hb6⟩
 have HB5 : Hid (Below w.heap.size w W5) := Hd (HB3.out.trans (s2.mono HB3.out.size))
 have HB6 : Hid (Below w.heap.size w w6) := Hd (HB5.out.trans (hb6.mono HB5.out.size))
 have s6 := (hb6.block _ (lH s1)).trans s1
 have hv6 := (hb6.block _ (lH hvB)).trans hvB
 clear x0 x1 x2 x3 x4 x5 x6 x7 x8 x9 x18 u0 u1 u2 u3 u4 u5 u6 v0 s1 s2 s3 hT hI h1C huB huL hvB hvL
 cases q1 with
 | false =>
   clear s6 hv6 hb6
   go_wp2
   go_ret
   refine ⟨4, rfl, Stp.keepB H.out HB6.out ?_⟩
   unfold isLink
   rw [HG.out, if_neg (fun hh => hh rfl)]
   refine ⟨q, HQ.out, ?_⟩
   rw [if_neg HK.out, HE.out]
   refine ⟨m, HM.out, ?_⟩
   rw [if_pos HQ1.out]
   exact ⟨rfl, rfl⟩
 | true =>
   have y0 : w6.cell? ⟨w3.heap.size, 0, none⟩ = some (.int .i64 d0) := (cO s6 0).trans HCX0.out
   have y8 : w6.cell? ⟨w3.heap.size, 8, none⟩ = some (.string (tx nm)) := (cO s6 8).trans HCX8.out
   have z0 : w6.cell? ⟨w2.heap.size, 0, none⟩ = some (.int .i64 f0) := cO hv6 0
   clear s6 hv6 hb6
   go_wp2_with fail
   refine (enter_any (H.out.mv ((Mv.refl H.out.rep).below HB6.out)) d0 f0 (tx nm)).mono ?_
   rintro e w9 ⟨r, rfl, hs⟩
   have HS := Hd (Stp.pre ((Mv.refl H.out.rep).below HB6.out) hs)
   clear hs
   go_wp2
   go_ret
   refine ⟨r, rfl, HS.out.imp fun T' hT' => ?_⟩
   unfold isLink
   rw [HG.out, if_neg (fun hh => hh rfl)]
   refine ⟨q, HQ.out, ?_⟩
   rw [if_neg HK.out, HE.out]
   refine ⟨m, HM.out, ?_⟩
   rw [if_neg (by rw [HQ1.out]; decide)]
   rw [← HD.out.1, ← HFI.out.1, bs_tx] at hT'
   exact hT'
theorem walkLink_any {w : World} {t : Nat} {S : Tab} {T : IT.Tr} (h : Tre w t S T) (cwd : Int) (c : Cr) (s ar : ByteArray) :
  Calls Tryz.prog 25 #[.pointer (some ⟨t, 0, none⟩), .int .i64 cwd, cred c, .string s, .string ar] w fun e w' => ∃ r, e = .returned (.int .i64 r) ∧ Stp w t S (fun T' => isLink T c cwd (bs s) (bs ar) r T') w' := by
 obtain ⟨⟨k0, r0⟩, hg⟩ : ∃ g, findT T c cwd (bs s) = g := ⟨_, rfl⟩
 by_cases hz : r0 = 0
 · subst hz
   have hft := find_there (c := c) (cwd := cwd) (s := bs s) h.snd
   rw [hg] at hft
   obtain ⟨q, hq⟩ := hft rfl
   by_cases hk : q.kind = 1
   · exact wlink_dir h cwd c s ar hg hq hk
   · cases he : entryT T c cwd (bs ar) with
     | error r1 => exact wlink_err h cwd c s ar hg hq hk he
     | ok x =>
       obtain ⟨m, hm, hto, _⟩ := entry_ok he
       obtain ⟨k, nm, must, tg⟩ := x
       dsimp only at hm hto
       cases tg with
       | some j =>
         obtain ⟨q3, hq3⟩ := look_there h.snd hto.symm
         exact wlink_is h cwd c s ar hg hq hk he hm hq3
       | none =>
         cases must with
         | true => exact wlink_must h cwd c s ar hg hq hk he hm
         | false => exact wlink_go h cwd c s ar hg hq hk he hm
 · exact wlink_find h cwd c s ar hg hz
structure Ho where
 want : Int
 make : Bool
 alone : Bool
 empty : Bool
 fin : Bool
 mode : Int
def howV (o : Ho) : Value := .agg #[.int .i64 o.want, .bool o.make, .bool o.alone, .bool o.empty, .bool o.fin, .int .i64 o.mode]
def openB (o : Ho) : Bool := bits .andNot .i64 o.want 6 == 0 && (!(o.want == 0) && Md.rightB o.mode)
def isOpened (T : IT.Tr) (c : Cr) (o : Ho) (k : Nat) (i : Nat) (r : Int) (T' : IT.Tr) : Prop :=
 ∃ q, T k = some q ∧
  if (bits .and .i64 o.want 2 != 0) = true ∧ q.kind = 1 then i = 0 ∧ r = 7 ∧ T' = T
  else if mayN q c o.want = false then i = 0 ∧ r = 4 ∧ T' = T
  else i = k ∧ r = 0 ∧ ∃ b T1, IT.isHold T k b T1 ∧
   if o.empty = true ∧ (bits .and .i64 o.want 2 != 0) = true ∧ q.kind = 0 then ∃ r2 T2, IT.isCut T1 k r2 T2 ∧ isPlainer T2 k T' else T' = T1
def isOpen (T : IT.Tr) (c : Cr) (cwd : Int) (s : IT.Bytes) (o : Ho) (i : Nat) (r : Int) (T' : IT.Tr) : Prop :=
 if openB o = false then i = 0 ∧ r = 1 ∧ T' = T
 else if o.make = true then match entryT T c cwd s with
  | .error e => i = 0 ∧ r = e ∧ T' = T
  | .ok x => match x.tg with
    | none => if x.must = true then i = 0 ∧ r = 7 ∧ T' = T else ∃ m, T x.dir = some m ∧ isMakes (mayN m c 2) T c x.dir x.name 0 o.mode i r T'
    | some j => if o.alone = true then i = 0 ∧ r = 5 ∧ T' = T
      else if x.must = true ∧ (∀ q, T j = some q → q.kind ≠ 1) then i = 0 ∧ r = 6 ∧ T' = T
      else isOpened T c o j i r T'
 else if (findT T c cwd s).2 ≠ 0 then i = 0 ∧ r = (findT T c cwd s).2 ∧ T' = T
 else isOpened T c o (findT T c cwd s).1 i r T'
theorem isOpened.sound {T T' : IT.Tr} {c : Cr} {o : Ho} {k i : Nat} {r : Int} (h : isOpened T c o k i r T') (hs : IT.Sound okN T) : IT.Sound okN T' := by
 obtain ⟨q, _, h⟩ := h
 split at h
 · exact h.2.2 ▸ hs
 · split at h
   · exact h.2.2 ▸ hs
   · obtain ⟨_, _, b, T1, h1, h⟩ := h
     split at h
     · obtain ⟨r2, T2, h2, h3⟩ := h
       exact isPlainer.sound h3 (h2.sound (h1.sound hs))
     · exact h ▸ h1.sound hs
theorem HB.opened {T T' : IT.Tr} {c : Cr} {o : Ho} {k i B : Nat} {r : Int} (hb : HB T B) (h : isOpened T c o k i r T') : HB T' (B + 1) := by
 obtain ⟨q, _, h⟩ := h
 split at h
 · exact (h.2.2 ▸ hb).mono (Nat.le_succ B)
 · split at h
   · exact (h.2.2 ▸ hb).mono (Nat.le_succ B)
   · obtain ⟨_, _, b, T1, h1, h⟩ := h
     split at h
     · obtain ⟨r2, T2, h2, h3⟩ := h
       exact ((hb.hold h1).cut h2).plainer h3
     · exact h ▸ hb.hold h1
theorem wopen_bad {w : World} {t : Nat} {S : Tab} {T : IT.Tr} (h : Tre w t S T) (cwd : Int) (c : Cr) (s : ByteArray) (o : Ho) (ho : openB o = false) :
  Calls Tryz.prog 16 #[.pointer (some ⟨t, 0, none⟩), .int .i64 cwd, cred c, .string s, howV o] w fun e w' => ∃ (i : Nat) (r : Int), e = .returned (.tuple #[.int .i64 i, .int .i64 r]) ∧ Stp w t S (fun T' => isOpen T c cwd (bs s) o i r T') w' := by
 have H := Hd h
 have HO := Hd ho
 have HR : Hid (∀ W', Calls Tryz.prog 36 #[.int .i64 o.mode] W' fun e w' => e = .returned (.bool (Md.rightB o.mode)) ∧ w' = W') := Hd (fun W' => Md.right_any o.mode W')
 clear h
 unfold openB at ho
 have e1 : (bits BinOp.andNot .i64 o.want 6 != 0) = !(bits BinOp.andNot .i64 o.want 6 == 0) := rfl
 unfold cred howV
 cases h1 : (bits BinOp.andNot .i64 o.want 6 == 0) with
 | false =>
   rw [h1] at e1
   clear ho h1 HR
   go_enter Tryz.func16, Tryz.ntmps16
   go_wp2
   go_ret2
   refine ⟨0, 1, rfl, Stp.keepB H.out (bZ (bZ (bZ (Below.refl _ _) _) _) _) ?_⟩
   unfold isOpen
   rw [if_pos HO.out]
   exact ⟨rfl, rfl, rfl⟩
 | true =>
   rw [h1] at e1
   cases h2 : (o.want == 0) with
   | true =>
     clear ho h1 HR
     go_enter Tryz.func16, Tryz.ntmps16
     go_wp2
     go_ret2
     refine ⟨0, 1, rfl, Stp.keepB H.out (bZ (bZ (bZ (Below.refl _ _) _) _) _) ?_⟩
     unfold isOpen
     rw [if_pos HO.out]
     exact ⟨rfl, rfl, rfl⟩
   | false =>
     have h3 : Md.rightB o.mode = false := by rw [h1, h2] at ho; simpa using ho
     rw [h3] at HR
     clear ho h1 h3
     go_enter Tryz.func16, Tryz.ntmps16
     go_wp2_with fail
     refine (HR.out _).mono ?_
     rintro e w2 ⟨rfl, rfl⟩
     go_wp2
     go_ret2
     refine ⟨0, 1, rfl, Stp.keepB H.out (bZ (bZ (bZ (Below.refl _ _) _) _) _) ?_⟩
     unfold isOpen
     rw [if_pos HO.out]
     exact ⟨rfl, rfl, rfl⟩
theorem four_blocks {w w3 : World} {A B C D : Array Value} {TA TB TC TD : TypeId} (hb : Below ((((w.alloc (.cells A TA)).alloc (.cells B TB)).alloc (.cells C TC)).alloc (.cells D TD)).heap.size ((((w.alloc (.cells A TA)).alloc (.cells B TB)).alloc (.cells C TC)).alloc (.cells D TD)) w3) :
  w3.heap[w.heap.size]? = some (.cells A TA (0, 0)) ∧ w3.heap[w.heap.size + 1]? = some (.cells B TB (0, 0)) ∧ w3.heap[w.heap.size + 1 + 1]? = some (.cells C TC (0, 0)) ∧ w3.heap[w.heap.size + 1 + 1 + 1]? = some (.cells D TD (0, 0)) ∧ w.heap.size + 1 + 1 + 1 < w3.heap.size ∧ Below w.heap.size w w3 := by
 have hs := hb.size
 rw [aZ, aZ, aZ, aZ] at hs hb
 have d := aQ (((w.alloc (.cells A TA)).alloc (.cells B TB)).alloc (.cells C TC)) (.cells D TD)
 have c := aQ ((w.alloc (.cells A TA)).alloc (.cells B TB)) (.cells C TC)
 have b := aQ (w.alloc (.cells A TA)) (.cells B TB)
 rw [aZ, aZ, aZ] at d
 rw [aZ, aZ] at c
 rw [aZ] at b
 refine ⟨?_, ?_, ?_, ?_, by omega, (bZ (bZ (bZ (bZ (Below.refl _ _) _) _) _) _).trans (hb.mono (by omega))⟩
 · rw [hb.block _ (by omega), aP _ _ (by rw [aZ, aZ, aZ]; omega), aP _ _ (by rw [aZ, aZ]; omega), aP _ _ (by rw [aZ]; omega), aQ]
 · rw [hb.block _ (by omega), aP _ _ (by rw [aZ, aZ, aZ]; omega), aP _ _ (by rw [aZ, aZ]; omega)]; exact b
 · rw [hb.block _ (by omega), aP _ _ (by rw [aZ, aZ, aZ]; omega)]; exact c
 · rw [hb.block _ (by omega)]; exact d
theorem wopen_nofind {w : World} {t : Nat} {S : Tab} {T : IT.Tr} (h : Tre w t S T) (cwd : Int) (c : Cr) (s : ByteArray) (o : Ho) (ho : openB o = true) (hmk : o.make = false) {k0 : Nat} {r0 : Int} (hg : findT T c cwd (bs s) = (k0, r0)) (hz : r0 ≠ 0) :
  Calls Tryz.prog 16 #[.pointer (some ⟨t, 0, none⟩), .int .i64 cwd, cred c, .string s, howV o] w fun e w' => ∃ (i : Nat) (r : Int), e = .returned (.tuple #[.int .i64 i, .int .i64 r]) ∧ Stp w t S (fun T' => isOpen T c cwd (bs s) o i r T') w' := by
 obtain ⟨f0, f1, f2, f3, f4, f5, f6, f7, _, _, hF⟩ := wfind_ints h cwd c s hg
 have H := Hd h
 have HO := Hd ho
 have HG := Hd hg
 have HF := Hd hF
 have HNZ := Hd hz
 have hz1 : (r0 != 0) = true := by simpa using hz
 have HMK := Hd hmk
 obtain ⟨want, make, alone, empty, fin, mode⟩ := o
 dsimp only at hmk
 subst hmk
 have h123 : (bits BinOp.andNot .i64 want 6 == 0) = true ∧ (want == 0) = false ∧ Md.rightB mode = true := by
  unfold openB at ho
  simpa using ho
 obtain ⟨h1, h2, h3⟩ := h123
 have e1 : (bits BinOp.andNot .i64 want 6 != 0) = false := by rw [bne, h1]; rfl
 have HR : Hid (∀ W', Calls Tryz.prog 36 #[.int .i64 mode] W' fun e w' => e = .returned (.bool true) ∧ w' = W') := Hd (fun W' => by
  have := Md.right_any mode W'; rw [h3] at this; exact this)
 clear h ho hg hF hz h1 h3
 unfold cred howV
 unfold ask at HF
 go_enter Tryz.func16, Tryz.ntmps16
 go_wp2_with fail
 refine (HR.out _).mono ?_
 rintro e w2 ⟨rfl, rfl⟩
 go_wp2_with fail
 refine (HF.out _ (bZ (bZ (bZ (bZ (Below.refl _ _) _) _) _) _)).mono ?_
 rintro e w3 ⟨rfl, hb⟩
 obtain ⟨_, _, _, q3, hlt, hbb⟩ := four_blocks hb
 have HB := Hd hbb
 have p0 : w3.cell? ⟨w.heap.size + 1 + 1 + 1, 0, none⟩ = some (.int .i64 0) := cO q3 0
 have s0 : w3.frozen? ⟨w.heap.size + 1 + 1 + 1, 0, none⟩ = false := fO q3 0
 have p1 : w3.cell? ⟨w.heap.size + 1 + 1 + 1, 1, none⟩ = some (.int .i64 0) := cO q3 1
 have s1 : w3.frozen? ⟨w.heap.size + 1 + 1 + 1, 1, none⟩ = false := fO q3 1
 have p2 : w3.cell? ⟨w.heap.size + 1 + 1 + 1, 2, none⟩ = some (.int .i64 0) := cO q3 2
 have s2 : w3.frozen? ⟨w.heap.size + 1 + 1 + 1, 2, none⟩ = false := fO q3 2
 have p3 : w3.cell? ⟨w.heap.size + 1 + 1 + 1, 3, none⟩ = some (.int .i64 0) := cO q3 3
 have s3 : w3.frozen? ⟨w.heap.size + 1 + 1 + 1, 3, none⟩ = false := fO q3 3
 have p4 : w3.cell? ⟨w.heap.size + 1 + 1 + 1, 4, none⟩ = some (.int .i64 0) := cO q3 4
 have s4 : w3.frozen? ⟨w.heap.size + 1 + 1 + 1, 4, none⟩ = false := fO q3 4
 have p5 : w3.cell? ⟨w.heap.size + 1 + 1 + 1, 5, none⟩ = some (.int .i64 0) := cO q3 5
 have s5 : w3.frozen? ⟨w.heap.size + 1 + 1 + 1, 5, none⟩ = false := fO q3 5
 have p6 : w3.cell? ⟨w.heap.size + 1 + 1 + 1, 6, none⟩ = some (.int .i64 0) := cO q3 6
 have s6 : w3.frozen? ⟨w.heap.size + 1 + 1 + 1, 6, none⟩ = false := fO q3 6
 have p7 : w3.cell? ⟨w.heap.size + 1 + 1 + 1, 7, none⟩ = some (.int .i64 0) := cO q3 7
 have s7 : w3.frozen? ⟨w.heap.size + 1 + 1 + 1, 7, none⟩ = false := fO q3 7
 clear hb HF q3 hbb
 go_wp2
 go_ret2
 refine ⟨0, r0, rfl, Stp.keepB H.out (below_set8 HB.out (by omega)) ?_⟩
 unfold isOpen
 rw [if_neg (by rw [HO.out]; decide), if_neg (by simp), HG.out, if_pos HNZ.out]
 exact ⟨rfl, rfl, rfl⟩
theorem wopen_find {w : World} {t : Nat} {S : Tab} {T : IT.Tr} (h : Tre w t S T) (hh : HB T 999999) (cwd : Int) (c : Cr) (s : ByteArray) (o : Ho) (ho : openB o = true) (hmk : o.make = false) {k0 : Nat} (hg : findT T c cwd (bs s) = (k0, 0)) :
  Calls Tryz.prog 16 #[.pointer (some ⟨t, 0, none⟩), .int .i64 cwd, cred c, .string s, howV o] w fun e w' => ∃ (i : Nat) (r : Int), e = .returned (.tuple #[.int .i64 i, .int .i64 r]) ∧ Stp w t S (fun T' => isOpen T c cwd (bs s) o i r T') w' := by
 obtain ⟨f0, f1, f2, f3, f4, f5, f6, f7, h0, _, hF⟩ := wfind_ints h cwd c s hg
 obtain ⟨q, hq, hd⟩ := h0 rfl
 have H := Hd h
 have HH := Hd hh
 have HO := Hd ho
 have HG := Hd hg
 have HF := Hd hF
 have HQ := Hd hq
 have HD := Hd (infC_inj hd)
 have HMK := Hd hmk
 obtain ⟨want, make, alone, empty, fin, mode⟩ := o
 dsimp only at hmk
 subst hmk
 have h123 : (bits BinOp.andNot .i64 want 6 == 0) = true ∧ (want == 0) = false ∧ Md.rightB mode = true := by
  unfold openB at ho
  simpa using ho
 obtain ⟨h1, h2, h3⟩ := h123
 have e1 : (bits BinOp.andNot .i64 want 6 != 0) = false := by rw [bne, h1]; rfl
 have HR : Hid (∀ W', Calls Tryz.prog 36 #[.int .i64 mode] W' fun e w' => e = .returned (.bool true) ∧ w' = W') := Hd (fun W' => by
  have := Md.right_any mode W'; rw [h3] at this; exact this)
 have HM : Hid (∀ W', Calls Tryz.prog 39 #[ask t cwd c, infoV f0 f1 f2 f3 f4 f5 f6 f7, .int .i64 want] W' fun e w' => e = .returned (.bool (mayN q c want)) ∧ Below W'.heap.size W' w') := Hd (fun W' => by
  have hh := wmay_any t cwd c f0 f1 f2 f3 f4 f5 f6 f7 want W'
  obtain ⟨e0, e1, e2, e3, e4, _, _, _⟩ := HD.out
  rw [← e1, ← e2, ← e3, ← e4] at hh ⊢
  exact hh)
 clear h hh ho hg hF h1 h3 h0 hq hd
 unfold cred howV
 unfold ask at HF HM
 unfold infoV at HM
 cases hw : (bits BinOp.and .i64 want 2 != 0) with
 | false =>
   have HW := Hd hw
   go_enter Tryz.func16, Tryz.ntmps16
   go_wp2_with fail
   refine (HR.out _).mono ?_
   rintro e w2 ⟨rfl, rfl⟩
   go_wp2_with fail
   refine (HF.out _ (bZ (bZ (bZ (bZ (Below.refl _ _) _) _) _) _)).mono ?_
   rintro e w3 ⟨rfl, hb⟩
   obtain ⟨_, q1, q2, q3, hlt, hbb⟩ := four_blocks hb
   have HB := Hd hbb
   have hlt1 : w.heap.size + 1 < w3.heap.size := by omega
   have hlt2 : w.heap.size + 1 + 1 < w3.heap.size := by omega
   have u0 : w3.cell? ⟨w.heap.size + 1, 0, none⟩ = some (.int .i64 want) := cO q1 0
   have u3 : w3.cell? ⟨w.heap.size + 1, 3, none⟩ = some (.bool empty) := cO q1 3
   have a0 : w3.cell? ⟨w.heap.size + 1 + 1, 0, none⟩ = some (.pointer (some ⟨t, 0, none⟩)) := cO q2 0
   have a1 : w3.cell? ⟨w.heap.size + 1 + 1, 1, none⟩ = some (.int .i64 cwd) := cO q2 1
   have a2 : w3.cell? ⟨w.heap.size + 1 + 1, 2, none⟩ = some (.int .i64 c.real) := cO q2 2
   have a3 : w3.cell? ⟨w.heap.size + 1 + 1, 3, none⟩ = some (.int .i64 c.eff) := cO q2 3
   have a4 : w3.cell? ⟨w.heap.size + 1 + 1, 4, none⟩ = some (.int .i64 c.saved) := cO q2 4
   have a5 : w3.cell? ⟨w.heap.size + 1 + 1, 5, none⟩ = some (.int .i64 c.group) := cO q2 5
   have a6 : w3.cell? ⟨w.heap.size + 1 + 1, 6, none⟩ = some (.int .i64 c.eg) := cO q2 6
   have p0 : w3.cell? ⟨w.heap.size + 1 + 1 + 1, 0, none⟩ = some (.int .i64 0) := cO q3 0
   have s0 : w3.frozen? ⟨w.heap.size + 1 + 1 + 1, 0, none⟩ = false := fO q3 0
   have p1 : w3.cell? ⟨w.heap.size + 1 + 1 + 1, 1, none⟩ = some (.int .i64 0) := cO q3 1
   have s1 : w3.frozen? ⟨w.heap.size + 1 + 1 + 1, 1, none⟩ = false := fO q3 1
   have p2 : w3.cell? ⟨w.heap.size + 1 + 1 + 1, 2, none⟩ = some (.int .i64 0) := cO q3 2
   have s2 : w3.frozen? ⟨w.heap.size + 1 + 1 + 1, 2, none⟩ = false := fO q3 2
   have p3 : w3.cell? ⟨w.heap.size + 1 + 1 + 1, 3, none⟩ = some (.int .i64 0) := cO q3 3
   have s3 : w3.frozen? ⟨w.heap.size + 1 + 1 + 1, 3, none⟩ = false := fO q3 3
   have p4 : w3.cell? ⟨w.heap.size + 1 + 1 + 1, 4, none⟩ = some (.int .i64 0) := cO q3 4
   have s4 : w3.frozen? ⟨w.heap.size + 1 + 1 + 1, 4, none⟩ = false := fO q3 4
   have p5 : w3.cell? ⟨w.heap.size + 1 + 1 + 1, 5, none⟩ = some (.int .i64 0) := cO q3 5
   have s5 : w3.frozen? ⟨w.heap.size + 1 + 1 + 1, 5, none⟩ = false := fO q3 5
   have p6 : w3.cell? ⟨w.heap.size + 1 + 1 + 1, 6, none⟩ = some (.int .i64 0) := cO q3 6
   have s6 : w3.frozen? ⟨w.heap.size + 1 + 1 + 1, 6, none⟩ = false := fO q3 6
   have p7 : w3.cell? ⟨w.heap.size + 1 + 1 + 1, 7, none⟩ = some (.int .i64 0) := cO q3 7
   have s7 : w3.frozen? ⟨w.heap.size + 1 + 1 + 1, 7, none⟩ = false := fO q3 7
   have Q1 := Hd q1
   have Q3 := Hd q3
   clear hb HF hbb q1 q2 q3
   go_wp2_with fail
   refine (HM.out _).mono ?_
   rintro e w5 ⟨rfl, hb5⟩
   have HB4 := Hd (below_set8 (R := w.heap.size + 1 + 1 + 1) (v0 := .int .i64 f0) (v1 := .int .i64 f1) (v2 := .int .i64 f2) (v3 := .int .i64 f3) (v4 := .int .i64 f4) (v5 := .int .i64 f5) (v6 := .int .i64 f6) (v7 := .int .i64 f7) HB.out (by omega))
   have HB5 : Hid (Below w.heap.size w w5) := Hd (HB4.out.trans (hb5.mono HB4.out.size))
   have t3 := (hb5.block (w.heap.size + 1 + 1 + 1) (by simpa [World.setCell] using hlt)).trans (heap_set8 Q3.out)
   have t1 := (hb5.block (w.heap.size + 1) (by simpa [World.setCell] using hlt1)).trans ((heap_set8_other (by omega)).trans Q1.out)
   clear u0 u3 a0 a1 a2 a3 a4 a5 a6 hb5 p0 s0 p1 s1 p2 s2 p3 s3 p4 s4 p5 s5 p6 s6 p7 s7
   cases hmy : mayN q c want with
   | false =>
     have HMY := Hd hmy
     clear hmy t1 t3
     go_wp2
     go_ret2
     refine ⟨0, 4, rfl, Stp.keepB H.out HB5.out ?_⟩
     unfold isOpen
     rw [if_neg (by rw [HO.out]; decide), if_neg (by simp), HG.out, if_neg (fun hh => hh rfl)]
     refine ⟨q, HQ.out, ?_⟩
     rw [if_neg (fun hh => by have := HW.out.symm.trans hh.1; cases this), if_pos HMY.out]
     exact ⟨rfl, rfl, rfl⟩
   | true =>
     have HMY := Hd hmy
     have y0 : w5.cell? ⟨w.heap.size + 1 + 1 + 1, 0, none⟩ = some (.int .i64 f0) := cO t3 0
     have T3 := Hd t3
     have T1 := Hd t1
     clear hmy t1 t3
     go_wp2_with fail
     refine (hold_any (H.out.mv ((Mv.refl H.out.rep).below HB5.out)) (HH.out.mono (by decide)) f0).mono ?_
     rintro e w6 ⟨b, rfl, hs⟩
     obtain ⟨S1, T1x, g1, ht1, hr1⟩ := hs.tre fun T' hT' => hT'.sound H.out.snd
     have fr3 : Fr w5 t S (w.heap.size + 1 + 1 + 1) := Fr.new H.out.rep (by omega) (lH T3.out)
     have fr1 : Fr w5 t S (w.heap.size + 1) := Fr.new H.out.rep (by omega) (lH T1.out)
     have z3 := (fr3.heap g1).trans T3.out
     have z1 := (fr1.heap g1).trans T1.out
     have y0 : w6.cell? ⟨w.heap.size + 1 + 1 + 1, 0, none⟩ = some (.int .i64 f0) := cO z3 0
     have y1 : w6.cell? ⟨w.heap.size + 1 + 1 + 1, 1, none⟩ = some (.int .i64 f1) := cO z3 1
     have y3 : w6.cell? ⟨w.heap.size + 1, 3, none⟩ = some (.bool empty) := cO z1 3
     have HG1 := Hd (((Mv.refl H.out.rep).below HB5.out).trans g1)
     have HT1 := Hd ht1
     have HR1 := Hd hr1
     clear hs g1 ht1 hr1 fr3 fr1 z3 z1
     cases empty <;>
     · go_wp2
       go_ret2
       refine ⟨k0, 0, by rw [HD.out.1]; rfl, S1, T1x, HG1.out, HT1.out.ties, ?_⟩
       show isOpen _ _ _ _ _ _ _ _
       unfold isOpen
       rw [if_neg (by rw [HO.out]; decide), if_neg (by simp), HG.out, if_neg (fun hh => hh rfl)]
       refine ⟨q, HQ.out, ?_⟩
       rw [if_neg (fun hh => by have := HW.out.symm.trans hh.1; cases this), if_neg (by rw [HMY.out]; decide)]
       refine ⟨rfl, rfl, b, T1x, ?_, ?_⟩
       · have := HR1.out
         rw [← HD.out.1] at this
         exact this
       · rw [if_neg (fun hh => by have := HW.out.symm.trans hh.2.1; cases this)]
 | true =>
   have HW := Hd hw
   by_cases hk : q.kind = 1
   · have HK := Hd hk
     obtain rfl : f1 = 1 := HD.out.2.1.symm.trans hk
     clear hk HM
     go_enter Tryz.func16, Tryz.ntmps16
     go_wp2_with fail
     refine (HR.out _).mono ?_
     rintro e w2 ⟨rfl, rfl⟩
     go_wp2_with fail
     refine (HF.out _ (bZ (bZ (bZ (bZ (Below.refl _ _) _) _) _) _)).mono ?_
     rintro e w3 ⟨rfl, hb⟩
     obtain ⟨_, q1, q2, q3, hlt, hbb⟩ := four_blocks hb
     have HB := Hd hbb
     have hlt1 : w.heap.size + 1 < w3.heap.size := by omega
     have hlt2 : w.heap.size + 1 + 1 < w3.heap.size := by omega
     have u0 : w3.cell? ⟨w.heap.size + 1, 0, none⟩ = some (.int .i64 want) := cO q1 0
     have u3 : w3.cell? ⟨w.heap.size + 1, 3, none⟩ = some (.bool empty) := cO q1 3
     have a0 : w3.cell? ⟨w.heap.size + 1 + 1, 0, none⟩ = some (.pointer (some ⟨t, 0, none⟩)) := cO q2 0
     have a1 : w3.cell? ⟨w.heap.size + 1 + 1, 1, none⟩ = some (.int .i64 cwd) := cO q2 1
     have a2 : w3.cell? ⟨w.heap.size + 1 + 1, 2, none⟩ = some (.int .i64 c.real) := cO q2 2
     have a3 : w3.cell? ⟨w.heap.size + 1 + 1, 3, none⟩ = some (.int .i64 c.eff) := cO q2 3
     have a4 : w3.cell? ⟨w.heap.size + 1 + 1, 4, none⟩ = some (.int .i64 c.saved) := cO q2 4
     have a5 : w3.cell? ⟨w.heap.size + 1 + 1, 5, none⟩ = some (.int .i64 c.group) := cO q2 5
     have a6 : w3.cell? ⟨w.heap.size + 1 + 1, 6, none⟩ = some (.int .i64 c.eg) := cO q2 6
     have p0 : w3.cell? ⟨w.heap.size + 1 + 1 + 1, 0, none⟩ = some (.int .i64 0) := cO q3 0
     have s0 : w3.frozen? ⟨w.heap.size + 1 + 1 + 1, 0, none⟩ = false := fO q3 0
     have p1 : w3.cell? ⟨w.heap.size + 1 + 1 + 1, 1, none⟩ = some (.int .i64 0) := cO q3 1
     have s1 : w3.frozen? ⟨w.heap.size + 1 + 1 + 1, 1, none⟩ = false := fO q3 1
     have p2 : w3.cell? ⟨w.heap.size + 1 + 1 + 1, 2, none⟩ = some (.int .i64 0) := cO q3 2
     have s2 : w3.frozen? ⟨w.heap.size + 1 + 1 + 1, 2, none⟩ = false := fO q3 2
     have p3 : w3.cell? ⟨w.heap.size + 1 + 1 + 1, 3, none⟩ = some (.int .i64 0) := cO q3 3
     have s3 : w3.frozen? ⟨w.heap.size + 1 + 1 + 1, 3, none⟩ = false := fO q3 3
     have p4 : w3.cell? ⟨w.heap.size + 1 + 1 + 1, 4, none⟩ = some (.int .i64 0) := cO q3 4
     have s4 : w3.frozen? ⟨w.heap.size + 1 + 1 + 1, 4, none⟩ = false := fO q3 4
     have p5 : w3.cell? ⟨w.heap.size + 1 + 1 + 1, 5, none⟩ = some (.int .i64 0) := cO q3 5
     have s5 : w3.frozen? ⟨w.heap.size + 1 + 1 + 1, 5, none⟩ = false := fO q3 5
     have p6 : w3.cell? ⟨w.heap.size + 1 + 1 + 1, 6, none⟩ = some (.int .i64 0) := cO q3 6
     have s6 : w3.frozen? ⟨w.heap.size + 1 + 1 + 1, 6, none⟩ = false := fO q3 6
     have p7 : w3.cell? ⟨w.heap.size + 1 + 1 + 1, 7, none⟩ = some (.int .i64 0) := cO q3 7
     have s7 : w3.frozen? ⟨w.heap.size + 1 + 1 + 1, 7, none⟩ = false := fO q3 7
     clear hb HF hbb q1 q2 q3
     go_wp2
     go_ret2
     refine ⟨0, 7, rfl, Stp.keepB H.out (below_set8 HB.out (by omega)) ?_⟩
     unfold isOpen
     rw [if_neg (by rw [HO.out]; decide), if_neg (by simp), HG.out, if_neg (fun hh => hh rfl)]
     refine ⟨q, HQ.out, ?_⟩
     rw [if_pos ⟨HW.out, HK.out⟩]
     exact ⟨rfl, rfl, rfl⟩
   · have HK := Hd hk
     have hz1 : (f1 == 1) = false := by have := HD.out.2.1; rw [this] at hk; simpa using hk
     clear hk
     go_enter Tryz.func16, Tryz.ntmps16
     go_wp2_with fail
     refine (HR.out _).mono ?_
     rintro e w2 ⟨rfl, rfl⟩
     go_wp2_with fail
     refine (HF.out _ (bZ (bZ (bZ (bZ (Below.refl _ _) _) _) _) _)).mono ?_
     rintro e w3 ⟨rfl, hb⟩
     obtain ⟨_, q1, q2, q3, hlt, hbb⟩ := four_blocks hb
     have HB := Hd hbb
     have hlt1 : w.heap.size + 1 < w3.heap.size := by omega
     have hlt2 : w.heap.size + 1 + 1 < w3.heap.size := by omega
     have u0 : w3.cell? ⟨w.heap.size + 1, 0, none⟩ = some (.int .i64 want) := cO q1 0
     have u3 : w3.cell? ⟨w.heap.size + 1, 3, none⟩ = some (.bool empty) := cO q1 3
     have a0 : w3.cell? ⟨w.heap.size + 1 + 1, 0, none⟩ = some (.pointer (some ⟨t, 0, none⟩)) := cO q2 0
     have a1 : w3.cell? ⟨w.heap.size + 1 + 1, 1, none⟩ = some (.int .i64 cwd) := cO q2 1
     have a2 : w3.cell? ⟨w.heap.size + 1 + 1, 2, none⟩ = some (.int .i64 c.real) := cO q2 2
     have a3 : w3.cell? ⟨w.heap.size + 1 + 1, 3, none⟩ = some (.int .i64 c.eff) := cO q2 3
     have a4 : w3.cell? ⟨w.heap.size + 1 + 1, 4, none⟩ = some (.int .i64 c.saved) := cO q2 4
     have a5 : w3.cell? ⟨w.heap.size + 1 + 1, 5, none⟩ = some (.int .i64 c.group) := cO q2 5
     have a6 : w3.cell? ⟨w.heap.size + 1 + 1, 6, none⟩ = some (.int .i64 c.eg) := cO q2 6
     have p0 : w3.cell? ⟨w.heap.size + 1 + 1 + 1, 0, none⟩ = some (.int .i64 0) := cO q3 0
     have s0 : w3.frozen? ⟨w.heap.size + 1 + 1 + 1, 0, none⟩ = false := fO q3 0
     have p1 : w3.cell? ⟨w.heap.size + 1 + 1 + 1, 1, none⟩ = some (.int .i64 0) := cO q3 1
     have s1 : w3.frozen? ⟨w.heap.size + 1 + 1 + 1, 1, none⟩ = false := fO q3 1
     have p2 : w3.cell? ⟨w.heap.size + 1 + 1 + 1, 2, none⟩ = some (.int .i64 0) := cO q3 2
     have s2 : w3.frozen? ⟨w.heap.size + 1 + 1 + 1, 2, none⟩ = false := fO q3 2
     have p3 : w3.cell? ⟨w.heap.size + 1 + 1 + 1, 3, none⟩ = some (.int .i64 0) := cO q3 3
     have s3 : w3.frozen? ⟨w.heap.size + 1 + 1 + 1, 3, none⟩ = false := fO q3 3
     have p4 : w3.cell? ⟨w.heap.size + 1 + 1 + 1, 4, none⟩ = some (.int .i64 0) := cO q3 4
     have s4 : w3.frozen? ⟨w.heap.size + 1 + 1 + 1, 4, none⟩ = false := fO q3 4
     have p5 : w3.cell? ⟨w.heap.size + 1 + 1 + 1, 5, none⟩ = some (.int .i64 0) := cO q3 5
     have s5 : w3.frozen? ⟨w.heap.size + 1 + 1 + 1, 5, none⟩ = false := fO q3 5
     have p6 : w3.cell? ⟨w.heap.size + 1 + 1 + 1, 6, none⟩ = some (.int .i64 0) := cO q3 6
     have s6 : w3.frozen? ⟨w.heap.size + 1 + 1 + 1, 6, none⟩ = false := fO q3 6
     have p7 : w3.cell? ⟨w.heap.size + 1 + 1 + 1, 7, none⟩ = some (.int .i64 0) := cO q3 7
     have s7 : w3.frozen? ⟨w.heap.size + 1 + 1 + 1, 7, none⟩ = false := fO q3 7
     have Q1 := Hd q1
     have Q3 := Hd q3
     clear hb HF hbb q1 q2 q3
     go_wp2_with fail
     refine (HM.out _).mono ?_
     rintro e w5 ⟨rfl, hb5⟩
     have HB4 := Hd (below_set8 (R := w.heap.size + 1 + 1 + 1) (v0 := .int .i64 f0) (v1 := .int .i64 f1) (v2 := .int .i64 f2) (v3 := .int .i64 f3) (v4 := .int .i64 f4) (v5 := .int .i64 f5) (v6 := .int .i64 f6) (v7 := .int .i64 f7) HB.out (by omega))
     have HB5 : Hid (Below w.heap.size w w5) := Hd (HB4.out.trans (hb5.mono HB4.out.size))
     have t3 := (hb5.block (w.heap.size + 1 + 1 + 1) (by simpa [World.setCell] using hlt)).trans (heap_set8 Q3.out)
     have t1 := (hb5.block (w.heap.size + 1) (by simpa [World.setCell] using hlt1)).trans ((heap_set8_other (by omega)).trans Q1.out)
     clear u0 u3 a0 a1 a2 a3 a4 a5 a6 hb5 p0 s0 p1 s1 p2 s2 p3 s3 p4 s4 p5 s5 p6 s6 p7 s7
     cases hmy : mayN q c want with
     | false =>
       have HMY := Hd hmy
       clear hmy t1 t3
       go_wp2
       go_ret2
       refine ⟨0, 4, rfl, Stp.keepB H.out HB5.out ?_⟩
       unfold isOpen
       rw [if_neg (by rw [HO.out]; decide), if_neg (by simp), HG.out, if_neg (fun hh => hh rfl)]
       refine ⟨q, HQ.out, ?_⟩
       rw [if_neg (fun hh => HK.out hh.2), if_pos HMY.out]
       exact ⟨rfl, rfl, rfl⟩
     | true =>
       have HMY := Hd hmy
       have y0 : w5.cell? ⟨w.heap.size + 1 + 1 + 1, 0, none⟩ = some (.int .i64 f0) := cO t3 0
       have T3 := Hd t3
       have T1 := Hd t1
       clear hmy t1 t3
       go_wp2_with fail
       refine (hold_any (H.out.mv ((Mv.refl H.out.rep).below HB5.out)) (HH.out.mono (by decide)) f0).mono ?_
       rintro e w6 ⟨b, rfl, hs⟩
       obtain ⟨S1, T1x, g1, ht1, hr1⟩ := hs.tre fun T' hT' => hT'.sound H.out.snd
       have fr3 : Fr w5 t S (w.heap.size + 1 + 1 + 1) := Fr.new H.out.rep (by omega) (lH T3.out)
       have fr1 : Fr w5 t S (w.heap.size + 1) := Fr.new H.out.rep (by omega) (lH T1.out)
       have z3 := (fr3.heap g1).trans T3.out
       have z1 := (fr1.heap g1).trans T1.out
       have y0 : w6.cell? ⟨w.heap.size + 1 + 1 + 1, 0, none⟩ = some (.int .i64 f0) := cO z3 0
       have y1 : w6.cell? ⟨w.heap.size + 1 + 1 + 1, 1, none⟩ = some (.int .i64 f1) := cO z3 1
       have y3 : w6.cell? ⟨w.heap.size + 1, 3, none⟩ = some (.bool empty) := cO z1 3
       have HG1 := Hd (((Mv.refl H.out.rep).below HB5.out).trans g1)
       have HT1 := Hd ht1
       have HR1 := Hd hr1
       have FR3 := Hd fr3
       have g1x := Hd g1
       have Z3 := Hd z3
       clear hs g1 ht1 hr1 fr3 fr1 z3 z1
       have leaf : ∀ (T' : IT.Tr), (if empty = true ∧ (bits BinOp.and .i64 want 2 != 0) = true ∧ q.kind = 0 then ∃ r2 T2, IT.isCut T1x k0 r2 T2 ∧ isPlainer T2 k0 T' else T' = T1x) → isOpen T c cwd (bs s) ⟨want, false, alone, empty, fin, mode⟩ k0 0 T' := fun T' hl => by
        unfold isOpen
        rw [if_neg (by rw [HO.out]; decide), if_neg (by simp), HG.out, if_neg (fun hh => hh rfl)]
        refine ⟨q, HQ.out, ?_⟩
        rw [if_neg (fun hh => HK.out hh.2), if_neg (by rw [HMY.out]; decide)]
        refine ⟨rfl, rfl, b, T1x, ?_, hl⟩
        have := HR1.out
        rw [← HD.out.1] at this
        exact this
       have HL := Hd leaf
       clear leaf
       cases empty with
       | false =>
         go_wp2
         go_ret2
         exact ⟨k0, 0, by rw [HD.out.1]; rfl, S1, T1x, HG1.out, HT1.out.ties, HL.out _ (by rw [if_neg (fun hh => by cases hh.1)])⟩
       | true =>
         by_cases hk0 : q.kind = 0
         · have hz0 : (f1 == 0) = true := by have := HD.out.2.1; simpa using (this.symm.trans hk0)
           have HK0 := Hd hk0
           clear hk0
           go_wp2_with fail
           refine (cut_any HT1.out f0).mono ?_
           rintro e w7 ⟨r2, rfl, hs⟩
           obtain ⟨S2, T2x, g2, ht2, hr2⟩ := hs.tre fun T' hT' => hT'.sound HT1.out.snd
           have fr4 : Fr w6 t S1 (w.heap.size + 1 + 1 + 1) := (FR3.out).mv g1x.out
           have z4 := (fr4.heap g2).trans Z3.out
           have v0 : w7.cell? ⟨w.heap.size + 1 + 1 + 1, 0, none⟩ = some (.int .i64 f0) := cO z4 0
           have HG2 := Hd (HG1.out.trans g2)
           have HT2 := Hd ht2
           have HR2 := Hd hr2
           have FR5 := Hd (fr4.mv g2)
           have Z4 := Hd z4
           clear hs g2 ht2 hr2 fr4 z4
           go_wp2_with fail
           refine (plainer_any HT2.out f0).mono ?_
           rintro e w8 ⟨rfl, hs⟩
           have HS := Hd (Stp.pre HG2.out hs)
           obtain ⟨S3, T3x, g3, ht3, hr3⟩ := hs.tre fun T' hT' => isPlainer.sound hT' HT2.out.snd
           have z5 := (FR5.out.heap g3).trans Z4.out
           have v0 : w8.cell? ⟨w.heap.size + 1 + 1 + 1, 0, none⟩ = some (.int .i64 f0) := cO z5 0
           clear hs g3 ht3 hr3 z5
           go_wp2
           go_ret2
           refine ⟨k0, 0, by rw [HD.out.1]; rfl, HS.out.imp fun T' hT' => HL.out T' ?_⟩
           rw [if_pos (by exact ⟨by trivial, HW.out, HK0.out⟩)]
           refine ⟨r2, T2x, ?_, ?_⟩
           · have := HR2.out
             rw [← HD.out.1] at this
             exact this
           · rw [← HD.out.1] at hT'
             exact hT'
         · have hz0 : (f1 == 0) = false := by have := HD.out.2.1; rw [this] at hk0; simpa using hk0
           have HK0 := Hd hk0
           clear hk0
           go_wp2
           go_ret2
           exact ⟨k0, 0, by rw [HD.out.1]; rfl, S1, T1x, HG1.out, HT1.out.ties, HL.out _ (by rw [if_neg (fun hh => HK0.out hh.2.2)])⟩
theorem wopen_err {w : World} {t : Nat} {S : Tab} {T : IT.Tr} (h : Tre w t S T) (hh : HB T 999999) (cwd : Int) (c : Cr) (s : ByteArray) (o : Ho) (ho : openB o = true) (hmk : o.make = true) {r0 : Int} (he : entryT T c cwd (bs s) = .error r0) :
  Calls Tryz.prog 16 #[.pointer (some ⟨t, 0, none⟩), .int .i64 cwd, cred c, .string s, howV o] w fun e w' => ∃ (i : Nat) (r : Int), e = .returned (.tuple #[.int .i64 i, .int .i64 r]) ∧ Stp w t S (fun T' => isOpen T c cwd (bs s) o i r T') w' := by
 have H := Hd h
 have HH := Hd hh
 have HO := Hd ho
 have HE := Hd he
 obtain ⟨want, make, alone, empty, fin, mode⟩ := o
 dsimp only at hmk
 subst hmk
 have h123 : (bits BinOp.andNot .i64 want 6 == 0) = true ∧ (want == 0) = false ∧ Md.rightB mode = true := by
  unfold openB at ho
  simpa using ho
 obtain ⟨h1, h2, h3⟩ := h123
 have e1 : (bits BinOp.andNot .i64 want 6 != 0) = false := by rw [bne, h1]; rfl
 have HR : Hid (∀ W', Calls Tryz.prog 36 #[.int .i64 mode] W' fun e w' => e = .returned (.bool true) ∧ w' = W') := Hd (fun W' => by
  have := Md.right_any mode W'; rw [h3] at this; exact this)
 clear h1 h3
 have hz1 : (r0 != 0) = true := by simpa using entry_ne he
 obtain ⟨C, hC⟩ : ∃ C, C = zeroE := ⟨_, rfl⟩
 have HC := Hd (wentry_bad h cwd c s he)
 rw [← hC] at HC
 have HCS : Hid (C.size = 19) := Hd (by rw [hC]; rfl)
 have HC1 : Hid (C.all (·.oneCell') = true) := Hd (by rw [hC]; exact zeroE_one)
 have HCX9 : Hid (C[9]? = some (.bool false)) := Hd (by rw [hC]; rfl)
 have HCX18 : Hid (C[18]? = some (.bool false)) := Hd (by rw [hC]; rfl)
 clear h hh ho he hC
 unfold cred howV
 unfold ask at HC
 go_enter Tryz.func16, Tryz.ntmps16
 go_wp2_with fail
 refine (HR.out _).mono ?_
 rintro e w2 ⟨rfl, rfl⟩
 go_wp2_with fail
 refine (HC.out _ (bZ (bZ (bZ (bZ (Below.refl _ _) _) _) _) _)).mono ?_
 rintro e w3 ⟨rfl, hb⟩
 obtain ⟨_, q1, q2, q3, hlt, hbb⟩ := four_blocks hb
 have HB := Hd hbb
 have hlt1 : w.heap.size + 1 < w3.heap.size := by omega
 have hlt2 : w.heap.size + 1 + 1 < w3.heap.size := by omega
 clear hb hbb HC HR
 clear q2 q3
 obtain ⟨W5, hW5, s1, s2, s3, hT⟩ := stored_ex (w3 := w3) HCS.out
 have hI : (Tryz.prog.info? 74).map (·.size) = some C.size := by rw [HCS.out]; rfl
 have h1C := HC1.out
 have x9 : W5.cell? ⟨w3.heap.size, 9, none⟩ = some (.bool false) := (cO s1 9).trans HCX9.out
 have x18 : W5.cell? ⟨w3.heap.size, 18, none⟩ = some (.bool false) := (cO s1 18).trans HCX18.out
 have huB := (s2.block _ hlt1).trans q1
 have huL : w.heap.size + 1 < W5.heap.size := by have := hlt1; omega
 have u2 : W5.cell? ⟨w.heap.size + 1, 2, none⟩ = some (.bool alone) := cO huB 2
 clear q1
 go_wp2_with (refine wpList_store_mid rfl 74 _ _ rfl w3.heap.size 0 C rfl rfl hT hI h1C ?_; rw [hW5]; clear hW5)
 go_ret2
 refine ⟨0, r0, rfl, Stp.keepB H.out (HB.out.trans (s2.mono HB.out.size)) ?_⟩
 unfold isOpen
 rw [if_neg (by rw [HO.out]; decide), if_pos rfl, HE.out]
 exact ⟨rfl, rfl, rfl⟩
theorem wopen_is {w : World} {t : Nat} {S : Tab} {T : IT.Tr} (h : Tre w t S T) (hh : HB T 999999) (cwd : Int) (c : Cr) (s : ByteArray) (o : Ho) (ho : openB o = true) (hmk : o.make = true) {k j : Nat} {nm : IT.Bytes} {must : Bool} {m q : IT.Nd} (he : entryT T c cwd (bs s) = .ok ⟨k, nm, must, some j⟩) (hm : T k = some m) (hq : T j = some q) (hal : o.alone = true) :
  Calls Tryz.prog 16 #[.pointer (some ⟨t, 0, none⟩), .int .i64 cwd, cred c, .string s, howV o] w fun e w' => ∃ (i : Nat) (r : Int), e = .returned (.tuple #[.int .i64 i, .int .i64 r]) ∧ Stp w t S (fun T' => isOpen T c cwd (bs s) o i r T') w' := by
 have H := Hd h
 have HH := Hd hh
 have HO := Hd ho
 have HE := Hd he
 obtain ⟨want, make, alone, empty, fin, mode⟩ := o
 dsimp only at hmk
 subst hmk
 have h123 : (bits BinOp.andNot .i64 want 6 == 0) = true ∧ (want == 0) = false ∧ Md.rightB mode = true := by
  unfold openB at ho
  simpa using ho
 obtain ⟨h1, h2, h3⟩ := h123
 have e1 : (bits BinOp.andNot .i64 want 6 != 0) = false := by rw [bne, h1]; rfl
 have HR : Hid (∀ W', Calls Tryz.prog 36 #[.int .i64 mode] W' fun e w' => e = .returned (.bool true) ∧ w' = W') := Hd (fun W' => by
  have := Md.right_any mode W'; rw [h3] at this; exact this)
 clear h1 h3
 obtain ⟨d0, d1, d2, d3, d4, d5, d6, d7, g0, g1, g2, g3, g4, g5, g6, g7, _, hgd, hc⟩ := wentry_some h cwd c s he hm hq
 obtain ⟨C, hC⟩ : ∃ C, C = entG d0 d1 d2 d3 d4 d5 d6 d7 (tx nm) must g0 g1 g2 g3 g4 g5 g6 g7 true := ⟨_, rfl⟩
 rw [← hC] at hc
 have HC := Hd hc
 have HD := Hd (infC_inj hgd)
 have HQ := Hd hq
 clear hc hgd
 dsimp only at hal
 subst hal
 clear hm hq
 have HCS : Hid (C.size = 19) := Hd (by rw [hC]; rfl)
 have HC1 : Hid (C.all (·.oneCell') = true) := Hd (by rw [hC]; exact entG_one)
 have HCX9 : Hid (C[9]? = some (.bool must)) := Hd (by rw [hC]; rfl)
 have HCX18 : Hid (C[18]? = some (.bool true)) := Hd (by rw [hC]; rfl)
 clear h hh ho he hC
 unfold cred howV
 unfold ask at HC
 go_enter Tryz.func16, Tryz.ntmps16
 go_wp2_with fail
 refine (HR.out _).mono ?_
 rintro e w2 ⟨rfl, rfl⟩
 go_wp2_with fail
 refine (HC.out _ (bZ (bZ (bZ (bZ (Below.refl _ _) _) _) _) _)).mono ?_
 rintro e w3 ⟨rfl, hb⟩
 obtain ⟨_, q1, q2, q3, hlt, hbb⟩ := four_blocks hb
 have HB := Hd hbb
 have hlt1 : w.heap.size + 1 < w3.heap.size := by omega
 have hlt2 : w.heap.size + 1 + 1 < w3.heap.size := by omega
 clear hb hbb HC HR
 clear q2 q3
 obtain ⟨W5, hW5, s1, s2, s3, hT⟩ := stored_ex (w3 := w3) HCS.out
 have hI : (Tryz.prog.info? 74).map (·.size) = some C.size := by rw [HCS.out]; rfl
 have h1C := HC1.out
 have x9 : W5.cell? ⟨w3.heap.size, 9, none⟩ = some (.bool must) := (cO s1 9).trans HCX9.out
 have x18 : W5.cell? ⟨w3.heap.size, 18, none⟩ = some (.bool true) := (cO s1 18).trans HCX18.out
 have huB := (s2.block _ hlt1).trans q1
 have huL : w.heap.size + 1 < W5.heap.size := by have := hlt1; omega
 have u2 : W5.cell? ⟨w.heap.size + 1, 2, none⟩ = some (.bool true) := cO huB 2
 clear q1
 go_wp2_with (refine wpList_store_mid rfl 74 _ _ rfl w3.heap.size 0 C rfl rfl hT hI h1C ?_; rw [hW5]; clear hW5)
 go_ret2
 refine ⟨0, 5, rfl, Stp.keepB H.out (HB.out.trans (s2.mono HB.out.size)) ?_⟩
 unfold isOpen
 rw [if_neg (by rw [HO.out]; decide), if_pos rfl, HE.out]
 exact ⟨rfl, rfl, rfl⟩
theorem wopen_must6 {w : World} {t : Nat} {S : Tab} {T : IT.Tr} (h : Tre w t S T) (hh : HB T 999999) (cwd : Int) (c : Cr) (s : ByteArray) (o : Ho) (ho : openB o = true) (hmk : o.make = true) {k j : Nat} {nm : IT.Bytes} {m q : IT.Nd} (he : entryT T c cwd (bs s) = .ok ⟨k, nm, true, some j⟩) (hm : T k = some m) (hq : T j = some q) (hal : o.alone = false) (hk : q.kind ≠ 1) :
  Calls Tryz.prog 16 #[.pointer (some ⟨t, 0, none⟩), .int .i64 cwd, cred c, .string s, howV o] w fun e w' => ∃ (i : Nat) (r : Int), e = .returned (.tuple #[.int .i64 i, .int .i64 r]) ∧ Stp w t S (fun T' => isOpen T c cwd (bs s) o i r T') w' := by
 have H := Hd h
 have HH := Hd hh
 have HO := Hd ho
 have HE := Hd he
 obtain ⟨want, make, alone, empty, fin, mode⟩ := o
 dsimp only at hmk
 subst hmk
 have h123 : (bits BinOp.andNot .i64 want 6 == 0) = true ∧ (want == 0) = false ∧ Md.rightB mode = true := by
  unfold openB at ho
  simpa using ho
 obtain ⟨h1, h2, h3⟩ := h123
 have e1 : (bits BinOp.andNot .i64 want 6 != 0) = false := by rw [bne, h1]; rfl
 have HR : Hid (∀ W', Calls Tryz.prog 36 #[.int .i64 mode] W' fun e w' => e = .returned (.bool true) ∧ w' = W') := Hd (fun W' => by
  have := Md.right_any mode W'; rw [h3] at this; exact this)
 clear h1 h3
 obtain ⟨d0, d1, d2, d3, d4, d5, d6, d7, g0, g1, g2, g3, g4, g5, g6, g7, _, hgd, hc⟩ := wentry_some h cwd c s he hm hq
 obtain ⟨C, hC⟩ : ∃ C, C = entG d0 d1 d2 d3 d4 d5 d6 d7 (tx nm) true g0 g1 g2 g3 g4 g5 g6 g7 true := ⟨_, rfl⟩
 rw [← hC] at hc
 have HC := Hd hc
 have HD := Hd (infC_inj hgd)
 have HQ := Hd hq
 clear hc hgd
 dsimp only at hal
 subst hal
 have hx1 : (g1 == 1) = false := by have := HD.out.2.1; rw [this] at hk; simpa using hk
 have hx2 : (g1 != 1) = true := by rw [bne, hx1]; rfl
 have HK := Hd hk
 clear hm hq hk
 have HCS : Hid (C.size = 19) := Hd (by rw [hC]; rfl)
 have HC1 : Hid (C.all (·.oneCell') = true) := Hd (by rw [hC]; exact entG_one)
 have HCX9 : Hid (C[9]? = some (.bool true)) := Hd (by rw [hC]; rfl)
 have HCX11 : Hid (C[11]? = some (.int .i64 g1)) := Hd (by rw [hC]; rfl)
 have HCX18 : Hid (C[18]? = some (.bool true)) := Hd (by rw [hC]; rfl)
 clear h hh ho he hC
 unfold cred howV
 unfold ask at HC
 go_enter Tryz.func16, Tryz.ntmps16
 go_wp2_with fail
 refine (HR.out _).mono ?_
 rintro e w2 ⟨rfl, rfl⟩
 go_wp2_with fail
 refine (HC.out _ (bZ (bZ (bZ (bZ (Below.refl _ _) _) _) _) _)).mono ?_
 rintro e w3 ⟨rfl, hb⟩
 obtain ⟨_, q1, q2, q3, hlt, hbb⟩ := four_blocks hb
 have HB := Hd hbb
 have hlt1 : w.heap.size + 1 < w3.heap.size := by omega
 have hlt2 : w.heap.size + 1 + 1 < w3.heap.size := by omega
 clear hb hbb HC HR
 clear q2 q3
 obtain ⟨W5, hW5, s1, s2, s3, hT⟩ := stored_ex (w3 := w3) HCS.out
 have hI : (Tryz.prog.info? 74).map (·.size) = some C.size := by rw [HCS.out]; rfl
 have h1C := HC1.out
 have x9 : W5.cell? ⟨w3.heap.size, 9, none⟩ = some (.bool true) := (cO s1 9).trans HCX9.out
 have x11 : W5.cell? ⟨w3.heap.size, 11, none⟩ = some (.int .i64 g1) := (cO s1 11).trans HCX11.out
 have x18 : W5.cell? ⟨w3.heap.size, 18, none⟩ = some (.bool true) := (cO s1 18).trans HCX18.out
 have huB := (s2.block _ hlt1).trans q1
 have huL : w.heap.size + 1 < W5.heap.size := by have := hlt1; omega
 have u2 : W5.cell? ⟨w.heap.size + 1, 2, none⟩ = some (.bool false) := cO huB 2
 clear q1
 go_wp2_with (refine wpList_store_mid rfl 74 _ _ rfl w3.heap.size 0 C rfl rfl hT hI h1C ?_; rw [hW5]; clear hW5)
 go_ret2
 refine ⟨0, 6, rfl, Stp.keepB H.out (HB.out.trans (s2.mono HB.out.size)) ?_⟩
 unfold isOpen
 rw [if_neg (by rw [HO.out]; decide), if_pos rfl, HE.out]
 dsimp only
 rw [if_neg (by decide), if_pos ⟨rfl, fun q2 h2 => by rw [HQ.out] at h2; obtain rfl := oI h2; exact HK.out⟩]
 exact ⟨rfl, rfl, rfl⟩
theorem wopen_must7 {w : World} {t : Nat} {S : Tab} {T : IT.Tr} (h : Tre w t S T) (hh : HB T 999999) (cwd : Int) (c : Cr) (s : ByteArray) (o : Ho) (ho : openB o = true) (hmk : o.make = true) {k : Nat} {nm : IT.Bytes} {m : IT.Nd} (he : entryT T c cwd (bs s) = .ok ⟨k, nm, true, none⟩) (hm : T k = some m) :
  Calls Tryz.prog 16 #[.pointer (some ⟨t, 0, none⟩), .int .i64 cwd, cred c, .string s, howV o] w fun e w' => ∃ (i : Nat) (r : Int), e = .returned (.tuple #[.int .i64 i, .int .i64 r]) ∧ Stp w t S (fun T' => isOpen T c cwd (bs s) o i r T') w' := by
 have H := Hd h
 have HH := Hd hh
 have HO := Hd ho
 have HE := Hd he
 obtain ⟨want, make, alone, empty, fin, mode⟩ := o
 dsimp only at hmk
 subst hmk
 have h123 : (bits BinOp.andNot .i64 want 6 == 0) = true ∧ (want == 0) = false ∧ Md.rightB mode = true := by
  unfold openB at ho
  simpa using ho
 obtain ⟨h1, h2, h3⟩ := h123
 have e1 : (bits BinOp.andNot .i64 want 6 != 0) = false := by rw [bne, h1]; rfl
 have HR : Hid (∀ W', Calls Tryz.prog 36 #[.int .i64 mode] W' fun e w' => e = .returned (.bool true) ∧ w' = W') := Hd (fun W' => by
  have := Md.right_any mode W'; rw [h3] at this; exact this)
 clear h1 h3
 obtain ⟨d0, d1, d2, d3, d4, d5, d6, d7, hd, hc⟩ := wentry_none h cwd c s he hm
 obtain ⟨C, hC⟩ : ∃ C, C = entG d0 d1 d2 d3 d4 d5 d6 d7 (tx nm) true 0 0 0 0 0 0 0 0 false := ⟨_, rfl⟩
 rw [← hC] at hc
 have HC := Hd hc
 have HD := Hd (infC_inj hd)
 have HM := Hd hm
 clear hm hc hd
 have HCS : Hid (C.size = 19) := Hd (by rw [hC]; rfl)
 have HC1 : Hid (C.all (·.oneCell') = true) := Hd (by rw [hC]; exact entG_one)
 have HCX9 : Hid (C[9]? = some (.bool true)) := Hd (by rw [hC]; rfl)
 have HCX18 : Hid (C[18]? = some (.bool false)) := Hd (by rw [hC]; rfl)
 clear h hh ho he hC
 unfold cred howV
 unfold ask at HC
 go_enter Tryz.func16, Tryz.ntmps16
 go_wp2_with fail
 refine (HR.out _).mono ?_
 rintro e w2 ⟨rfl, rfl⟩
 go_wp2_with fail
 refine (HC.out _ (bZ (bZ (bZ (bZ (Below.refl _ _) _) _) _) _)).mono ?_
 rintro e w3 ⟨rfl, hb⟩
 obtain ⟨_, q1, q2, q3, hlt, hbb⟩ := four_blocks hb
 have HB := Hd hbb
 have hlt1 : w.heap.size + 1 < w3.heap.size := by omega
 have hlt2 : w.heap.size + 1 + 1 < w3.heap.size := by omega
 clear hb hbb HC HR
 clear q2 q3
 obtain ⟨W5, hW5, s1, s2, s3, hT⟩ := stored_ex (w3 := w3) HCS.out
 have hI : (Tryz.prog.info? 74).map (·.size) = some C.size := by rw [HCS.out]; rfl
 have h1C := HC1.out
 have x9 : W5.cell? ⟨w3.heap.size, 9, none⟩ = some (.bool true) := (cO s1 9).trans HCX9.out
 have x18 : W5.cell? ⟨w3.heap.size, 18, none⟩ = some (.bool false) := (cO s1 18).trans HCX18.out
 have huB := (s2.block _ hlt1).trans q1
 have huL : w.heap.size + 1 < W5.heap.size := by have := hlt1; omega
 have u2 : W5.cell? ⟨w.heap.size + 1, 2, none⟩ = some (.bool alone) := cO huB 2
 clear q1
 go_wp2_with (refine wpList_store_mid rfl 74 _ _ rfl w3.heap.size 0 C rfl rfl hT hI h1C ?_; rw [hW5]; clear hW5)
 go_ret2
 refine ⟨0, 7, rfl, Stp.keepB H.out (HB.out.trans (s2.mono HB.out.size)) ?_⟩
 unfold isOpen
 rw [if_neg (by rw [HO.out]; decide), if_pos rfl, HE.out]
 dsimp only
 rw [if_pos rfl]
 exact ⟨rfl, rfl, rfl⟩
theorem wopen_new {w : World} {t : Nat} {S : Tab} {T : IT.Tr} (h : Tre w t S T) (hh : HB T 999999) (cwd : Int) (c : Cr) (s : ByteArray) (o : Ho) (ho : openB o = true) (hmk : o.make = true) {k : Nat} {nm : IT.Bytes} {m : IT.Nd} (he : entryT T c cwd (bs s) = .ok ⟨k, nm, false, none⟩) (hm : T k = some m) :
  Calls Tryz.prog 16 #[.pointer (some ⟨t, 0, none⟩), .int .i64 cwd, cred c, .string s, howV o] w fun e w' => ∃ (i : Nat) (r : Int), e = .returned (.tuple #[.int .i64 i, .int .i64 r]) ∧ Stp w t S (fun T' => isOpen T c cwd (bs s) o i r T') w' := by
 have H := Hd h
 have HH := Hd hh
 have HO := Hd ho
 have HE := Hd he
 obtain ⟨want, make, alone, empty, fin, mode⟩ := o
 dsimp only at hmk
 subst hmk
 have h123 : (bits BinOp.andNot .i64 want 6 == 0) = true ∧ (want == 0) = false ∧ Md.rightB mode = true := by
  unfold openB at ho
  simpa using ho
 obtain ⟨h1, h2, h3⟩ := h123
 have e1 : (bits BinOp.andNot .i64 want 6 != 0) = false := by rw [bne, h1]; rfl
 have HR : Hid (∀ W', Calls Tryz.prog 36 #[.int .i64 mode] W' fun e w' => e = .returned (.bool true) ∧ w' = W') := Hd (fun W' => by
  have := Md.right_any mode W'; rw [h3] at this; exact this)
 clear h1 h3
 obtain ⟨d0, d1, d2, d3, d4, d5, d6, d7, hd, hc⟩ := wentry_none h cwd c s he hm
 obtain ⟨C, hC⟩ : ∃ C, C = entG d0 d1 d2 d3 d4 d5 d6 d7 (tx nm) false 0 0 0 0 0 0 0 0 false := ⟨_, rfl⟩
 rw [← hC] at hc
 have HC := Hd hc
 have HD := Hd (infC_inj hd)
 have HM := Hd hm
 clear hm hc hd
 have HCE := Hd hC
 have HCS : Hid (C.size = 19) := Hd (by rw [hC]; rfl)
 have HC1 : Hid (C.all (·.oneCell') = true) := Hd (by rw [hC]; exact entG_one)
 have HCX9 : Hid (C[9]? = some (.bool false)) := Hd (by rw [hC]; rfl)
 have HCX18 : Hid (C[18]? = some (.bool false)) := Hd (by rw [hC]; rfl)
 clear h hh ho he hC
 unfold cred howV
 unfold ask at HC
 go_enter Tryz.func16, Tryz.ntmps16
 go_wp2_with fail
 refine (HR.out _).mono ?_
 rintro e w2 ⟨rfl, rfl⟩
 go_wp2_with fail
 refine (HC.out _ (bZ (bZ (bZ (bZ (Below.refl _ _) _) _) _) _)).mono ?_
 rintro e w3 ⟨rfl, hb⟩
 obtain ⟨_, q1, q2, q3, hlt, hbb⟩ := four_blocks hb
 have HB := Hd hbb
 have hlt1 : w.heap.size + 1 < w3.heap.size := by omega
 have hlt2 : w.heap.size + 1 + 1 < w3.heap.size := by omega
 clear hb hbb HC HR
 clear q3
 obtain ⟨W5, hW5, s1, s2, s3, hT⟩ := stored_ex (w3 := w3) HCS.out
 have hI : (Tryz.prog.info? 74).map (·.size) = some C.size := by rw [HCS.out]; rfl
 have h1C := HC1.out
 have x9 : W5.cell? ⟨w3.heap.size, 9, none⟩ = some (.bool false) := (cO s1 9).trans HCX9.out
 have x18 : W5.cell? ⟨w3.heap.size, 18, none⟩ = some (.bool false) := (cO s1 18).trans HCX18.out
 have huB := (s2.block _ hlt1).trans q1
 have huL : w.heap.size + 1 < W5.heap.size := by have := hlt1; omega
 have u2 : W5.cell? ⟨w.heap.size + 1, 2, none⟩ = some (.bool alone) := cO huB 2
 have u5 : W5.cell? ⟨w.heap.size + 1, 5, none⟩ = some (.int .i64 mode) := cO huB 5
 have haB := (s2.block _ hlt2).trans q2
 have haL : w.heap.size + 1 + 1 < W5.heap.size := by have := hlt2; omega
 have a0 : W5.cell? ⟨w.heap.size + 1 + 1, 0, none⟩ = some (.pointer (some ⟨t, 0, none⟩)) := cO haB 0
 have a1 : W5.cell? ⟨w.heap.size + 1 + 1, 1, none⟩ = some (.int .i64 cwd) := cO haB 1
 have a2 : W5.cell? ⟨w.heap.size + 1 + 1, 2, none⟩ = some (.int .i64 c.real) := cO haB 2
 have a3 : W5.cell? ⟨w.heap.size + 1 + 1, 3, none⟩ = some (.int .i64 c.eff) := cO haB 3
 have a4 : W5.cell? ⟨w.heap.size + 1 + 1, 4, none⟩ = some (.int .i64 c.saved) := cO haB 4
 have a5 : W5.cell? ⟨w.heap.size + 1 + 1, 5, none⟩ = some (.int .i64 c.group) := cO haB 5
 have a6 : W5.cell? ⟨w.heap.size + 1 + 1, 6, none⟩ = some (.int .i64 c.eg) := cO haB 6
 clear q1 q2
 go_wp2_with (first | (refine wpList_store_mid rfl 74 _ _ rfl w3.heap.size 0 C rfl rfl hT hI h1C ?_; rw [hW5]; clear hW5) | (refine wpList_load_mid rfl 74 _ rfl w3.heap.size 0 rfl C.toList _ (range_of s1) rfl rfl hI ?_))
 have HB5 : Hid (Below w.heap.size w W5) := Hd (HB.out.trans (s2.mono HB.out.size))
 have hmk := makes_any (H.out.mv ((Mv.refl H.out.rep).below HB5.out)) (HH.out.mono (by decide)) cwd c d0 d1 d2 d3 d4 d5 d6 d7 (tx nm) false 0 0 0 0 0 0 0 0 false 0 mode
 rw [← HCE.out] at hmk
 unfold ask at hmk
 clear x9 x18 hT hI h1C s1 s2 s3 huB huL haB haL a0 a1 a2 a3 a4 a5 a6 u2 u5
 refine hmk.mono ?_
 rintro e w6 ⟨i1, r1, rfl, hs⟩
 clear hmk
 have HS := Hd (Stp.pre ((Mv.refl H.out.rep).below HB5.out) hs)
 clear hs
 go_wp2
 go_ret2
 refine ⟨i1, r1, rfl, HS.out.imp fun T' hT' => ?_⟩
 unfold isOpen
 rw [if_neg (by rw [HO.out]; decide), if_pos rfl, HE.out]
 dsimp only
 rw [if_neg (by decide)]
 refine ⟨m, HM.out, ?_⟩
 obtain ⟨e0, e1, e2, e3, e4, _, _, _⟩ := HD.out
 rw [← e0, ← e1, ← e2, ← e3, ← e4, bs_tx] at hT'
 exact hT'
theorem eight_cells {W : World} {b : Nat} {v0 v1 v2 v3 v4 v5 v6 v7 : Value} (h : W.heap[b]? = some (.cells #[v0, v1, v2, v3, v4, v5, v6, v7] 44 (0, 0))) : b < W.heap.size ∧ W.cell? ⟨b, 0, none⟩ = some v0 ∧ W.cell? ⟨b, 1, none⟩ = some v1 ∧ W.cell? ⟨b, 2, none⟩ = some v2 ∧ W.cell? ⟨b, 3, none⟩ = some v3 ∧ W.cell? ⟨b, 4, none⟩ = some v4 ∧ W.cell? ⟨b, 5, none⟩ = some v5 ∧ W.cell? ⟨b, 6, none⟩ = some v6 ∧ W.cell? ⟨b, 7, none⟩ = some v7 :=
 ⟨lH h, cO h 0, cO h 1, cO h 2, cO h 3, cO h 4, cO h 5, cO h 6, cO h 7⟩
theorem ent_to {W : World} {b : Nat} {C : Array Value} (h : W.heap[b]? = some (.cells C 74 (0, 0))) {d0 d1 d2 d3 d4 d5 d6 d7 g0 g1 g2 g3 g4 g5 g6 g7 : Int} {nm : ByteArray} {must is : Bool} (hC : C = entG d0 d1 d2 d3 d4 d5 d6 d7 nm must g0 g1 g2 g3 g4 g5 g6 g7 is) :
  W.cell? ⟨b, 10, none⟩ = some (.int .i64 g0) ∧ W.cell? ⟨b, 11, none⟩ = some (.int .i64 g1) ∧ W.cell? ⟨b, 12, none⟩ = some (.int .i64 g2) ∧ W.cell? ⟨b, 13, none⟩ = some (.int .i64 g3) ∧ W.cell? ⟨b, 14, none⟩ = some (.int .i64 g4) ∧ W.cell? ⟨b, 15, none⟩ = some (.int .i64 g5) ∧ W.cell? ⟨b, 16, none⟩ = some (.int .i64 g6) ∧ W.cell? ⟨b, 17, none⟩ = some (.int .i64 g7) ∧ W.cell? ⟨b, 9, none⟩ = some (.bool must) ∧ W.cell? ⟨b, 18, none⟩ = some (.bool is) := by
 subst hC
 exact ⟨cO h 10, cO h 11, cO h 12, cO h 13, cO h 14, cO h 15, cO h 16, cO h 17, cO h 9, cO h 18⟩
theorem how_cells {W : World} {b : Nat} {o : Ho} (h : W.heap[b]? = some (.cells #[.int .i64 o.want, .bool o.make, .bool o.alone, .bool o.empty, .bool o.fin, .int .i64 o.mode] 29 (0, 0))) : b < W.heap.size ∧ W.cell? ⟨b, 0, none⟩ = some (.int .i64 o.want) ∧ W.cell? ⟨b, 1, none⟩ = some (.bool o.make) ∧ W.cell? ⟨b, 2, none⟩ = some (.bool o.alone) ∧ W.cell? ⟨b, 3, none⟩ = some (.bool o.empty) :=
 ⟨lH h, cO h 0, cO h 1, cO h 2, cO h 3⟩
theorem set8_ex {w W5 : World} {R : Nat} {u0 u1 u2 u3 u4 u5 u6 u7 v0 v1 v2 v3 v4 v5 v6 v7 : Value} (hb : Below w.heap.size w W5) (hR : w.heap.size ≤ R) (h : W5.heap[R]? = some (.cells #[u0, u1, u2, u3, u4, u5, u6, u7] 44 (0, 0))) : ∃ W6, ((((((((W5.setCell ⟨R, 0, none⟩ v0).setCell ⟨R, 1, none⟩ v1).setCell ⟨R, 2, none⟩ v2).setCell ⟨R, 3, none⟩ v3).setCell ⟨R, 4, none⟩ v4).setCell ⟨R, 5, none⟩ v5).setCell ⟨R, 6, none⟩ v6).setCell ⟨R, 7, none⟩ v7) = W6 ∧ Below w.heap.size w W6 ∧ W6.heap[R]? = some (.cells #[v0, v1, v2, v3, v4, v5, v6, v7] 44 (0, 0)) ∧ ∀ b, b ≠ R → W6.heap[b]? = W5.heap[b]? :=
 ⟨_, rfl, below_set8 hb hR, heap_set8 h, fun b hne => heap_set8_other hne⟩
structure OS (w wr : World) (t : Nat) (cwd : Int) (c : Cr) (o : Ho) (Tc : Array Value) : Prop where
 bel : Below w.heap.size w wr
 how : wr.heap[w.heap.size + 1]? = some (.cells #[.int .i64 o.want, .bool o.make, .bool o.alone, .bool o.empty, .bool o.fin, .int .i64 o.mode] 29 (0, 0))
 ask : wr.heap[w.heap.size + 1 + 1]? = some (.cells (askC t cwd c) 77 (0, 0))
 tg : wr.heap[w.heap.size + 1 + 1 + 1]? = some (.cells Tc 44 (0, 0))
theorem OS.below {w wr w' : World} {t : Nat} {cwd : Int} {c : Cr} {o : Ho} {Tc : Array Value} (h : OS w wr t cwd c o Tc) (hb : Below wr.heap.size wr w') : OS w w' t cwd c o Tc :=
 ⟨h.bel.trans (hb.mono h.bel.size), (hb.block _ (lH h.how)).trans h.how, (hb.block _ (lH h.ask)).trans h.ask, (hb.block _ (lH h.tg)).trans h.tg⟩
structure OX (w wr : World) (t : Nat) (S S' : Tab) (T' : IT.Tr) (o : Ho) (Tc : Array Value) : Prop where
 mv : Mv w t S wr S'
 tre : Tre wr t S' T'
 how : wr.heap[w.heap.size + 1]? = some (.cells #[.int .i64 o.want, .bool o.make, .bool o.alone, .bool o.empty, .bool o.fin, .int .i64 o.mode] 29 (0, 0))
 tg : wr.heap[w.heap.size + 1 + 1 + 1]? = some (.cells Tc 44 (0, 0))
 f1 : Fr wr t S' (w.heap.size + 1)
 f3 : Fr wr t S' (w.heap.size + 1 + 1 + 1)
theorem OS.ox {w wr : World} {t : Nat} {S : Tab} {T : IT.Tr} {cwd : Int} {c : Cr} {o : Ho} {Tc : Array Value} (h : OS w wr t cwd c o Tc) (ht : Tre w t S T) : OX w wr t S S T o Tc :=
 ⟨(Mv.refl ht.rep).below h.bel, ht.mv ((Mv.refl ht.rep).below h.bel), h.how, h.tg, Fr.new ht.rep (by omega) (lH h.how), Fr.new ht.rep (by omega) (lH h.tg)⟩
theorem OX.step {w wr w' : World} {t : Nat} {S S1 : Tab} {T1 : IT.Tr} {o : Ho} {Tc : Array Value} (h : OX w wr t S S1 T1 o Tc) {R : IT.Tr → Prop} (s : Stp wr t S1 R w') (hR : ∀ T', R T' → IT.Sound okN T') : ∃ S' T', OX w w' t S S' T' o Tc ∧ R T' := by
 obtain ⟨S', T', g, ht, hr⟩ := s.tre hR
 exact ⟨S', T', ⟨h.mv.trans g, ht, (h.f1.heap g).trans h.how, (h.f3.heap g).trans h.tg, h.f1.mv g, h.f3.mv g⟩, hr⟩
theorem OX.stp {w wr : World} {t : Nat} {S S' : Tab} {T' : IT.Tr} {o : Ho} {Tc : Array Value} (h : OX w wr t S S' T' o Tc) {R : IT.Tr → Prop} (hr : R T') : Stp w t S R wr := ⟨S', T', h.mv, h.tre.ties, hr⟩
theorem held_there {T T' : IT.Tr} {k : Nat} {b : Bool} {q : IT.Nd} (hk : T k = some q) (h : IT.isHold T k b T') : T' k = some { q with holds := q.holds + 1 } := by
 unfold IT.isHold at h
 rw [hk] at h
 rw [h.2]
 exact IT.uY _ _ _
theorem wopen_old {w : World} {t : Nat} {S : Tab} {T : IT.Tr} (h : Tre w t S T) (hh : HB T 999999) (cwd : Int) (c : Cr) (s : ByteArray) (o : Ho) (ho : openB o = true) (hmk : o.make = true) {k j : Nat} {nm : IT.Bytes} {must : Bool} {m q : IT.Nd} (he : entryT T c cwd (bs s) = .ok ⟨k, nm, must, some j⟩) (hm : T k = some m) (hq : T j = some q) (hal : o.alone = false) (hmu : must = false ∨ q.kind = 1) :
  Calls Tryz.prog 16 #[.pointer (some ⟨t, 0, none⟩), .int .i64 cwd, cred c, .string s, howV o] w fun e w' => ∃ (i : Nat) (r : Int), e = .returned (.tuple #[.int .i64 i, .int .i64 r]) ∧ Stp w t S (fun T' => isOpen T c cwd (bs s) o i r T') w' := by
 have H := Hd h
 have HH := Hd hh
 obtain ⟨want, make, alone, empty, fin, mode⟩ := o
 dsimp only at hmk hal
 subst hmk hal
 obtain ⟨my, hmy⟩ : ∃ my, mayN q c want = my := ⟨_, rfl⟩
 obtain ⟨wr2, hwr⟩ : ∃ wr2, (bits .and .i64 want 2 != 0) = wr2 := ⟨_, rfl⟩
 have HREL : Hid (∀ (i : Nat) (r : Int) T', (if wr2 = true ∧ q.kind = 1 then i = 0 ∧ r = 7 ∧ T' = T
  else if my = false then i = 0 ∧ r = 4 ∧ T' = T
  else i = j ∧ r = 0 ∧ ∃ b T1, IT.isHold T j b T1 ∧
   if empty = true ∧ wr2 = true ∧ q.kind = 0 then ∃ r2 T2, IT.isCut T1 j r2 T2 ∧ isPlainer T2 j T' else T' = T1) → isOpen T c cwd (bs s) ⟨want, true, false, empty, fin, mode⟩ i r T') := Hd (fun i r T' hh => by
  unfold isOpen
  rw [if_neg (by rw [ho]; decide), if_pos rfl, he]
  dsimp only
  rw [if_neg (by decide), if_neg (fun h2 => by rcases hmu with rfl | hk; exact absurd h2.1 (by decide); exact h2.2 q hq hk)]
  exact ⟨q, hq, by dsimp only; rw [hwr, hmy]; exact hh⟩)
 have h123 : (bits BinOp.andNot .i64 want 6 == 0) = true ∧ (want == 0) = false ∧ Md.rightB mode = true := by
  unfold openB at ho
  simpa using ho
 obtain ⟨h1, h2, h3⟩ := h123
 have e1 : (bits BinOp.andNot .i64 want 6 != 0) = false := by rw [bne, h1]; rfl
 have HR : Hid (∀ W', Calls Tryz.prog 36 #[.int .i64 mode] W' fun e w' => e = .returned (.bool true) ∧ w' = W') := Hd (fun W' => by
  have := Md.right_any mode W'; rw [h3] at this; exact this)
 clear h1 h3
 obtain ⟨d0, d1, d2, d3, d4, d5, d6, d7, g0, g1, g2, g3, g4, g5, g6, g7, _, hgd, hc⟩ := wentry_some h cwd c s he hm hq
 obtain ⟨C, hC⟩ : ∃ C, C = entG d0 d1 d2 d3 d4 d5 d6 d7 (tx nm) must g0 g1 g2 g3 g4 g5 g6 g7 true := ⟨_, rfl⟩
 rw [← hC] at hc
 have HCE := Hd hC
 have HC := Hd hc
 have HQ := Hd hq
 obtain ⟨e0, e1', e2, e3, e4, _, _, _⟩ := infC_inj hgd
 have HM : Hid (∀ W', Calls Tryz.prog 39 #[ask t cwd c, infoV g0 g1 g2 g3 g4 g5 g6 g7, .int .i64 want] W' fun e w' => e = .returned (.bool my) ∧ Below W'.heap.size W' w') := Hd (fun W' => by
  have hx := wmay_any t cwd c g0 g1 g2 g3 g4 g5 g6 g7 want W'
  rw [← hmy]
  unfold mayN
  rw [e1', e2, e3, e4]
  exact hx)
 have HG0 : Hid (g0.toNat = j) := Hd (by rw [← e0]; exact Int.toNat_natCast j)
 have HGI : Hid ((j : Int) = g0) := Hd e0
 have HG1 : Hid (g1 = q.kind) := Hd e1'.symm
 have HCS : Hid (C.size = 19) := Hd (by rw [hC]; rfl)
 have HC1 : Hid (C.all (·.oneCell') = true) := Hd (by rw [hC]; exact entG_one)
 have hkm : must = false ∨ (g1 == 1) = true := hmu.imp id (fun e => by rw [← e1', e]; rfl)
 clear h hh ho hc hgd hC hq hm he hmu e0 e1' e2 e3 e4 hmy
 unfold cred howV
 unfold ask at HC HM
 unfold infoV at HM
 cases wr2 <;> cases kd : (g1 == 1) <;> cases must <;> first | (exact absurd (hkm.resolve_left (by decide)) (by rw [kd]; decide)) | skip
 all_goals
  clear hkm
  have HKD := Hd kd
  simp only [beq_iff_eq, beq_eq_false_iff_ne] at HKD
  rw [HG1.out] at HKD
  go_enter Tryz.func16, Tryz.ntmps16
  go_wp2_with fail
  refine (HR.out _).mono ?_
  rintro e w2 ⟨rfl, rfl⟩
  go_wp2_with fail
  refine (HC.out _ (bZ (bZ (bZ (bZ (Below.refl _ _) _) _) _) _)).mono ?_
  rintro e w3 ⟨rfl, hb⟩
  obtain ⟨_, q1, q2, q3, hlt, hbb⟩ := four_blocks hb
  have hl1 : w.heap.size + 1 < w3.heap.size := by omega
  have hl2 : w.heap.size + 1 + 1 < w3.heap.size := by omega
  obtain ⟨W5, hW5, s1, s2, s3, hT⟩ := stored_ex (w3 := w3) HCS.out
  have hI : (Tryz.prog.info? 74).map (·.size) = some C.size := by rw [HCS.out]; rfl
  have h1C := HC1.out
  have hS5 : OS w W5 t cwd c ⟨want, true, false, empty, fin, mode⟩ _ := ⟨hbb.trans (s2.mono hbb.size), (s2.block _ hl1).trans q1, (s2.block _ hl2).trans q2, (s2.block _ hlt).trans q3⟩
  obtain ⟨hl, u0, u1, u2, u3⟩ := how_cells hS5.how
  obtain ⟨al, y0, y1, y2, y3, y4, y5, y6⟩ := ask_cells hS5.ask
  obtain ⟨pl, p0, p1, p2, p3, p4, p5, p6, p7⟩ := eight_cells hS5.tg
  have xl := lH s1
  obtain ⟨x10, x11, x12, x13, x14, x15, x16, x17, x9, x18⟩ := ent_to s1 HCE.out
  have z0 := fO hS5.tg 0
  have z1 := fO hS5.tg 1
  have z2 := fO hS5.tg 2
  have z3 := fO hS5.tg 3
  have z4 := fO hS5.tg 4
  have z5 := fO hS5.tg 5
  have z6 := fO hS5.tg 6
  have z7 := fO hS5.tg 7
  have HS5 := Hd hS5
  clear hb hlt hbb q1 q2 q3 hl1 hl2 hS5 s1 s2 s3 HC
  go_upto_region 22 with (refine wpList_store_mid rfl 74 _ _ rfl w3.heap.size 0 C rfl rfl hT hI h1C ?_; rw [hW5]; clear hW5)
  obtain ⟨W6, hW6, hb6, ht6, ho6⟩ := set8_ex (v0 := .int .i64 g0) (v1 := .int .i64 g1) (v2 := .int .i64 g2) (v3 := .int .i64 g3) (v4 := .int .i64 g4) (v5 := .int .i64 g5) (v6 := .int .i64 g6) (v7 := .int .i64 g7) HS5.out.bel (show w.heap.size ≤ w.heap.size + 1 + 1 + 1 by omega) HS5.out.tg
  rw [hW6]
  have hS6 : OS w W6 t cwd c ⟨want, true, false, empty, fin, mode⟩ #[.int .i64 g0, .int .i64 g1, .int .i64 g2, .int .i64 g3, .int .i64 g4, .int .i64 g5, .int .i64 g6, .int .i64 g7] := ⟨hb6, (ho6 _ (by omega)).trans HS5.out.how, (ho6 _ (by omega)).trans HS5.out.ask, ht6⟩
  have HS6 := Hd hS6
  clear hS6 hW6 hb6 ht6 ho6 HS5 hl u0 u1 u2 u3 al y0 y1 y2 y3 y4 y5 y6 pl p0 p1 p2 p3 p4 p5 p6 p7 xl x10 x11 x12 x13 x14 x15 x16 x17 x9 x18 z0 z1 z2 z3 z4 z5 z6 z7 hT hI h1C
  obtain ⟨hl, u0, u1, u2, u3⟩ := how_cells HS6.out.how
  obtain ⟨al, y0, y1, y2, y3, y4, y5, y6⟩ := ask_cells HS6.out.ask
  obtain ⟨pl, p0, p1, p2, p3, p4, p5, p6, p7⟩ := eight_cells HS6.out.tg
  go_wp2_with fail
  first
   | (go_ret2
      exact ⟨0, 7, rfl, (HS6.out.ox H.out).stp (HREL.out 0 7 T (by simp [HKD.out]))⟩)
   | skip
 all_goals
  clear hl u0 u1 u2 u3 al pl p0 p1 p2 p3 p4 p5 p6 p7
  clear y0 y1 y2 y3 y4 y5 y6
  refine (HM.out _).mono ?_
  rintro e w7 ⟨rfl, hb⟩
  have HX7 := Hd ((HS6.out.below hb).ox H.out)
  clear hb HS6
  cases my with
  | false =>
    go_wp2
    go_ret2
    exact ⟨0, 4, rfl, HX7.out.stp (HREL.out 0 4 T (by simp [HKD.out]))⟩
  | true =>
    obtain ⟨tl, t0, t1, t2, t3, t4, t5, t6, t7⟩ := eight_cells HX7.out.tg
    go_wp2_with fail
    refine (hold_any HX7.out.tre (HH.out.mono (by decide)) g0).mono ?_
    rintro e w8 ⟨bh, rfl, hs⟩
    obtain ⟨S8, T8, hx8, hr8⟩ := HX7.out.step hs fun T' hT' => hT'.sound H.out.snd
    rw [HG0.out] at hr8
    have HX8 := Hd hx8
    have HR8 := Hd hr8
    have HQ8 := Hd (held_there HQ.out hr8)
    clear hs hx8 hr8 tl t0 t1 t2 t3 t4 t5 t6 t7 HX7
    obtain ⟨tl, t0, t1, t2, t3, t4, t5, t6, t7⟩ := eight_cells HX8.out.tg
    obtain ⟨hl, k0, k1, k2, k3⟩ := how_cells HX8.out.how
    cases empty <;> cases kf : (g1 == 0)
    all_goals
     have HKF := Hd kf
     simp only [beq_iff_eq, beq_eq_false_iff_ne] at HKF
     rw [HG1.out] at HKF
     go_wp2_with fail
     first
      | (go_ret2
         exact ⟨j, 0, by rw [← HGI.out]; rfl, HX8.out.stp (HREL.out j 0 T8 (by simp only [HKD.out, HKF.out, Bool.false_eq_true, false_and, and_false, if_false, Bool.true_eq_false, true_and, ne_eq, not_false_eq_true]; exact ⟨bh, T8, HR8.out, rfl⟩))⟩)
      | skip
    all_goals
     refine (cut_any HX8.out.tre g0).mono ?_
     rintro e w9 ⟨rc, rfl, hs⟩
     obtain ⟨S9, T9, hx9, hr9⟩ := HX8.out.step hs fun T' hT' => hT'.sound HX8.out.tre.snd
     rw [HG0.out] at hr9
     have HX9 := Hd hx9
     have HR9 := Hd hr9
     clear hs hx9 hr9 tl t0 t1 t2 t3 t4 t5 t6 t7 hl k0 k1 k2 k3
     obtain ⟨tl, t0, t1, t2, t3, t4, t5, t6, t7⟩ := eight_cells HX9.out.tg
     go_wp2_with fail
     refine (plainer_any HX9.out.tre g0).mono ?_
     rintro e w10 ⟨rfl, hs⟩
     obtain ⟨S10, T10, hx10, hr10⟩ := HX9.out.step hs fun T' hT' => isPlainer.sound hT' HX9.out.tre.snd
     rw [HG0.out] at hr10
     have HX10 := Hd hx10
     have HR10 := Hd hr10
     clear hs hx10 hr10 tl t0 t1 t2 t3 t4 t5 t6 t7
     obtain ⟨tl, t0, t1, t2, t3, t4, t5, t6, t7⟩ := eight_cells HX10.out.tg
     go_wp2
     go_ret2
     exact ⟨j, 0, by rw [← HGI.out]; rfl, HX10.out.stp (HREL.out j 0 T10 (by simp only [HKD.out, HKF.out, Bool.false_eq_true, and_false, if_false, Bool.true_eq_false, and_self, if_true, true_and]; exact ⟨bh, T8, HR8.out, rc, T9, HR9.out, HR10.out⟩))⟩
theorem walkOpen_any {w : World} {t : Nat} {S : Tab} {T : IT.Tr} (h : Tre w t S T) (hh : HB T 999999) (cwd : Int) (c : Cr) (s : ByteArray) (o : Ho) :
  Calls Tryz.prog 16 #[.pointer (some ⟨t, 0, none⟩), .int .i64 cwd, cred c, .string s, howV o] w fun e w' => ∃ (i : Nat) (r : Int), e = .returned (.tuple #[.int .i64 i, .int .i64 r]) ∧ Stp w t S (fun T' => isOpen T c cwd (bs s) o i r T') w' := by
 cases ho : openB o with
 | false => exact wopen_bad h cwd c s o ho
 | true =>
   cases hmk : o.make with
   | false =>
     obtain ⟨⟨k0, r0⟩, hg⟩ : ∃ g, findT T c cwd (bs s) = g := ⟨_, rfl⟩
     by_cases hz : r0 = 0
     · subst hz
       exact wopen_find h hh cwd c s o ho hmk hg
     · exact wopen_nofind h cwd c s o ho hmk hg hz
   | true =>
     cases he : entryT T c cwd (bs s) with
     | error r0 => exact wopen_err h hh cwd c s o ho hmk he
     | ok x =>
       obtain ⟨m, hm, hto, _⟩ := entry_ok he
       obtain ⟨k, nm, must, tg⟩ := x
       dsimp only at hm hto
       cases tg with
       | none =>
         cases must with
         | true => exact wopen_must7 h hh cwd c s o ho hmk he hm
         | false => exact wopen_new h hh cwd c s o ho hmk he hm
       | some j =>
         obtain ⟨q, hq⟩ := look_there h.snd hto.symm
         cases hal : o.alone with
         | true => exact wopen_is h hh cwd c s o ho hmk he hm hq hal
         | false =>
           cases must with
           | false => exact wopen_old h hh cwd c s o ho hmk he hm hq hal (.inl rfl)
           | true =>
             by_cases hk : q.kind = 1
             · exact wopen_old h hh cwd c s o ho hmk he hm hq hal (.inr hk)
             · exact wopen_must6 h hh cwd c s o ho hmk he hm hq hal hk
theorem isOpen.sound {T T' : IT.Tr} {c : Cr} {cwd : Int} {s : IT.Bytes} {o : Ho} {i : Nat} {r : Int} (h : isOpen T c cwd s o i r T') (hs : IT.Sound okN T) : IT.Sound okN T' := by
 unfold isOpen at h
 split at h
 · exact h.2.2 ▸ hs
 · split at h
   · split at h
     · exact h.2.2 ▸ hs
     · split at h
       · split at h
         · exact h.2.2 ▸ hs
         · obtain ⟨m, _, h⟩ := h
           exact h.sound hs
       · split at h
         · exact h.2.2 ▸ hs
         · split at h
           · exact h.2.2 ▸ hs
           · exact h.sound hs
   · split at h
     · exact h.2.2 ▸ hs
     · exact h.sound hs
theorem HB.wopen {T T' : IT.Tr} {c : Cr} {cwd : Int} {s : IT.Bytes} {o : Ho} {i B : Nat} {r : Int} (hb : HB T B) (hB : 1 ≤ B) (h : isOpen T c cwd s o i r T') : HB T' (B + 1) := by
 have hm := hb.mono (Nat.le_succ B)
 unfold isOpen at h
 split at h
 · exact h.2.2 ▸ hm
 · split at h
   · split at h
     · exact h.2.2 ▸ hm
     · split at h
       · split at h
         · exact h.2.2 ▸ hm
         · obtain ⟨m, _, h⟩ := h
           exact hm.makes (by omega) h
       · split at h
         · exact h.2.2 ▸ hm
         · split at h
           · exact h.2.2 ▸ hm
           · exact hb.opened h
   · split at h
     · exact h.2.2 ▸ hm
     · exact hb.opened h
def FreeAt (T : IT.Tr) (j : Nat) : Prop := 1 ≤ j ∧ j ≤ 200 ∧ T j = none ∧ ∀ k, 1 ≤ k → k < j → T k ≠ none
theorem FreeAt.one {T : IT.Tr} {i j : Nat} (h : FreeAt T i) (g : FreeAt T j) : i = j := by
 by_cases e : i < j
 · exact absurd h.2.2.1 (g.2.2.2 i h.1 e)
 · by_cases e2 : j < i
   · exact absurd g.2.2.1 (h.2.2.2 j g.1 e2)
   · omega
def newN (c : Cr) (kind mode : Int) (j : Nat) : IT.Nd := ⟨kind, mode, c.eff, c.eg, 0, 1, [], [], if kind = 1 then j else 0⟩
theorem bel_new {T : IT.Tr} (hs : IT.Sound0 okN T) {j : Nat} (hj : T j = none) {m : IT.Nd} {k : Nat} {n : IT.Nd} (hk : T k = some n) : ¬ IT.Bel (IT.upd T j (some m)) j k := by
 have gen : ∀ k, IT.Bel (IT.upd T j (some m)) j k → ∀ n, T k = some n → False := fun k h => by
  induction h with
  | self => intro n hn; rw [hj] at hn; cases hn
  | @step k q hq hqk hne hb ih =>
    intro n hn
    have e : k ≠ j := fun e => by rw [e, hj] at hn; cases hn
    rw [IT.uX _ _ e, hn] at hq
    obtain rfl := oI hq
    obtain ⟨rk, hrk⟩ := hs.chain
    obtain ⟨_, m', hm', _⟩ := hrk k n hn hqk hne
    exact ih m' hm'
 exact fun h => gen k h n hk
theorem makes_new {T T' : IT.Tr} (hs : IT.Sound okN T) {c : Cr} {d : Nat} {n : IT.Nd} (hd : T d = some n) (hdk : n.kind = 1) {nm : IT.Bytes} (hok : okN nm = true) (hf : IT.findN nm n.names = none) (hl : n.names.length < 40) {kind mode : Int} (hk : kind = 0 ∨ kind = 1) (hr : rt mode c.eff c.eg) {j : Nat} (hj : FreeAt T j) {i : Nat} {r : Int} (h : isMakes true T c d nm kind mode i r T') :
  i = j ∧ r = 0 ∧ T' = IT.entT (IT.upd T j (some (newN c kind mode j))) d j nm n (newN c kind mode j) := by
 unfold isMakes at h
 rw [if_neg (by decide)] at h
 obtain ⟨i1, r1, T1, h1, h⟩ := h
 unfold IT.isMake at h1
 rw [if_neg (by rintro (a | a | a); omega; omega; exact a hr), if_neg (by omega), if_neg (fun hh => hh j hj.1 hj.2.1 hj.2.2.1)] at h1
 obtain ⟨g1, g2, g3, g4, g5, g6⟩ := h1
 obtain rfl := FreeAt.one ⟨g2, g3, g4, g5⟩ hj
 have e6 : T1 = IT.upd T i1 (some (newN c kind mode i1)) := by
  rw [g6]
  unfold newN
  congr 3
  split <;> rfl
 subst g1
 rw [if_neg (by decide)] at h
 obtain ⟨r2, T2, h2, h⟩ := h
 have hne : d ≠ i1 := fun e => by rw [e, g4] at hd; cases hd
 subst e6
 unfold IT.isEnter at h2
 rw [IT.uX _ _ hne, hd, IT.uY] at h2
 dsimp only at h2
 have hz : IT.lnk (IT.upd T i1 (some (newN c kind mode i1))) i1 = 0 := by
  rw [IT.lnk_new g4 g3 rfl]
  exact hs.1.free g4
 rw [if_neg (by rw [hdk]; decide), if_neg (by rw [hok]; decide), if_neg (by rw [hf]; decide), if_neg, if_neg (by omega), if_neg (fun hh => bel_new hs.1 g4 hd hh.2)] at h2
 · obtain ⟨rfl, rfl⟩ := h2
   rw [if_neg (by decide)] at h
   exact h
 · rintro (a | a | a)
   · subst a
     obtain ⟨q, hq, _⟩ := hs.1.root
     rw [g4] at hq; cases hq
   · have := a.2
     rw [hz] at this; omega
   · rw [hz] at a; omega
theorem mkdir_new {T T' : IT.Tr} (hs : IT.Sound okN T) {c : Cr} {cwd : Int} {s : IT.Bytes} {d : Nat} {n : IT.Nd} {nm : IT.Bytes} {must : Bool} (he : entryT T c cwd s = .ok ⟨d, nm, must, none⟩) (hd : T d = some n) (hdk : n.kind = 1) (hok : okN nm = true) (hf : IT.findN nm n.names = none) (hl : n.names.length < 40) {mode : Int} (hmr : Md.rightB mode = true) (hmy : mayN n c 2 = true) (hr : rt mode c.eff c.eg) {j : Nat} (hj : FreeAt T j) {r : Int} (h : isMkdir T c cwd s mode r T') :
  r = 0 ∧ T' = IT.entT (IT.upd T j (some { newN c 1 mode j with holds := 0 })) d j nm n { newN c 1 mode j with holds := 0 } := by
 unfold isMkdir at h
 rw [if_neg (by rw [hmr]; decide), he] at h
 dsimp only at h
 rw [if_neg (by decide)] at h
 obtain ⟨m, i1, r1, T1, hm, hmk, h⟩ := h
 rw [hd] at hm
 obtain rfl := oI hm
 rw [hmy] at hmk
 obtain ⟨rfl, rfl, rfl⟩ := makes_new hs hd hdk hok hf hl (.inr rfl) hr hj hmk
 rw [if_pos rfl] at h
 obtain ⟨rfl, b, h⟩ := h
 refine ⟨rfl, ?_⟩
 have hne : i1 ≠ d := fun e => by rw [← e, hj.2.2.1] at hd; cases hd
 have hsn : IT.Sound okN (IT.entT (IT.upd T i1 (some (newN c 1 mode i1))) d i1 nm n (newN c 1 mode i1)) := isMakes.sound hmk hs
 have hi : IT.entT (IT.upd T i1 (some (newN c 1 mode i1))) d i1 nm n (newN c 1 mode i1) i1 = some (IT.under d (newN c 1 mode i1)) := IT.entT_names hne
 unfold IT.isDrop at h
 rw [hi] at h
 dsimp only at h
 rw [if_neg (by rw [IT.under_holds]; exact Nat.one_ne_zero)] at h
 have hnf := h.2
 have e1 : IT.upd (IT.entT (IT.upd T i1 (some (newN c 1 mode i1))) d i1 nm n (newN c 1 mode i1)) i1 (some { IT.under d (newN c 1 mode i1) with holds := (IT.under d (newN c 1 mode i1)).holds - 1 }) = IT.entT (IT.upd T i1 (some { newN c 1 mode i1 with holds := 0 })) d i1 nm n { newN c 1 mode i1 with holds := 0 } := by
  funext k
  unfold IT.entT IT.upd
  by_cases a : k = i1
  · subst a
    rw [if_pos rfl, if_neg hne, if_pos rfl]
    unfold IT.under newN
    rfl
  · by_cases a2 : k = d
    · rw [if_neg a, if_pos a2, if_pos a2]
    · rw [if_neg a, if_neg a2, if_neg a, if_neg a, if_neg a2, if_neg a, if_neg a]
 rw [e1] at hnf
 refine (IT.nf_stay hnf fun k hc => ?_)
 rw [← e1] at hc
 rcases IT.same_can hi hj.2.1 (n' := { IT.under d (newN c 1 mode i1) with holds := (IT.under d (newN c 1 mode i1)).holds - 1 }) rfl hc with ⟨rfl, _⟩ | h0
 · have hlk := hc.2.2.2
   rw [IT.lnk_same hj.2.1 hi (n' := { IT.under d (newN c 1 mode k) with holds := (IT.under d (newN c 1 mode k)).holds - 1 }) rfl, IT.ent_lnk (by rw [IT.uX _ _ (Ne.symm hne)]; exact hd) (IT.uY _ _ _) hne (hs.1.rng d n hd).2 hj.2.1, if_pos rfl] at hlk
   omega
 · exact hsn.2 k h0
theorem isMkdir.sound {T T' : IT.Tr} {c : Cr} {cwd : Int} {s : IT.Bytes} {mode r : Int} (h : isMkdir T c cwd s mode r T') (hs : IT.Sound okN T) : IT.Sound okN T' := by
 unfold isMkdir at h
 split at h
 · exact h.2 ▸ hs
 · split at h
   · exact h.2 ▸ hs
   · split at h
     · exact h.2 ▸ hs
     · obtain ⟨m, i1, r1, T1, _, h1, h⟩ := h
       split at h
       · obtain ⟨_, b, h⟩ := h
         exact h.sound (isMakes.sound h1 hs)
       · exact h.2 ▸ isMakes.sound h1 hs
theorem HB.mkdir {T T' : IT.Tr} {c : Cr} {cwd : Int} {s : IT.Bytes} {mode r : Int} {B : Nat} (hb : HB T B) (hB : 1 ≤ B) (h : isMkdir T c cwd s mode r T') : HB T' B := by
 unfold isMkdir at h
 split at h
 · exact h.2 ▸ hb
 · split at h
   · exact h.2 ▸ hb
   · split at h
     · exact h.2 ▸ hb
     · obtain ⟨m, i1, r1, T1, _, h1, h⟩ := h
       split at h
       · obtain ⟨_, b, h⟩ := h
         exact (hb.makes hB h1).drop h
       · exact h.2 ▸ hb.makes hB h1
theorem isChown.sound {T T' : IT.Tr} {c : Cr} {cwd : Int} {s : IT.Bytes} {o g r : Int} (h : isChown T c cwd s o g r T') (hs : IT.Sound okN T) : IT.Sound okN T' := by
 unfold isChown at h
 split at h
 · exact h.2 ▸ hs
 · obtain ⟨m, _, h⟩ := h
   split at h
   · exact h.2 ▸ hs
   · exact h.sound hs
theorem HB.chown {T T' : IT.Tr} {c : Cr} {cwd : Int} {s : IT.Bytes} {o g r : Int} {B : Nat} (hb : HB T B) (h : isChown T c cwd s o g r T') : HB T' B := by
 unfold isChown at h
 split at h
 · exact h.2 ▸ hb
 · obtain ⟨m, _, h⟩ := h
   split at h
   · exact h.2 ▸ hb
   · exact hb.set h
theorem isWRemove.sound {T T' : IT.Tr} {c : Cr} {cwd : Int} {s : IT.Bytes} {dir : Bool} {r : Int} (h : isWRemove T c cwd s dir r T') (hs : IT.Sound okN T) : IT.Sound okN T' := by
 unfold isWRemove at h
 split at h
 · exact h.2 ▸ hs
 · split at h
   · exact h.2 ▸ hs
   · obtain ⟨m, q, _, _, h⟩ := h
     split at h
     · exact h.2 ▸ hs
     · split at h
       · exact h.2 ▸ hs
       · split at h
         · exact h.2 ▸ hs
         · split at h
           · exact h.2 ▸ hs
           · exact h.sound hs
theorem HB.wremove {T T' : IT.Tr} {c : Cr} {cwd : Int} {s : IT.Bytes} {dir : Bool} {r : Int} {B : Nat} (hb : HB T B) (h : isWRemove T c cwd s dir r T') : HB T' B := by
 unfold isWRemove at h
 split at h
 · exact h.2 ▸ hb
 · split at h
   · exact h.2 ▸ hb
   · obtain ⟨m, q, _, _, h⟩ := h
     split at h
     · exact h.2 ▸ hb
     · split at h
       · exact h.2 ▸ hb
       · split at h
         · exact h.2 ▸ hb
         · split at h
           · exact h.2 ▸ hb
           · exact hb.remove h
theorem isLink.sound {T T' : IT.Tr} {c : Cr} {cwd : Int} {s ar : IT.Bytes} {r : Int} (h : isLink T c cwd s ar r T') (hs : IT.Sound okN T) : IT.Sound okN T' := by
 unfold isLink at h
 split at h
 · exact h.2 ▸ hs
 · obtain ⟨q, _, h⟩ := h
   split at h
   · exact h.2 ▸ hs
   · split at h
     · exact h.2 ▸ hs
     · split at h
       · exact h.2 ▸ hs
       · split at h
         · exact h.2 ▸ hs
         · obtain ⟨m, _, h⟩ := h
           split at h
           · exact h.2 ▸ hs
           · exact h.sound hs
theorem HB.link {T T' : IT.Tr} {c : Cr} {cwd : Int} {s ar : IT.Bytes} {r : Int} {B : Nat} (hb : HB T B) (h : isLink T c cwd s ar r T') : HB T' B := by
 unfold isLink at h
 split at h
 · exact h.2 ▸ hb
 · obtain ⟨q, _, h⟩ := h
   split at h
   · exact h.2 ▸ hb
   · split at h
     · exact h.2 ▸ hb
     · split at h
       · exact h.2 ▸ hb
       · split at h
         · exact h.2 ▸ hb
         · obtain ⟨m, _, h⟩ := h
           split at h
           · exact h.2 ▸ hb
           · exact hb.enter h
def whoC (u g : Int) : Cr := ⟨u, u, u, g, g⟩
theorem who_any (u g : Int) (w : World) :
  Calls Tryz.prog 13 #[.int .i64 u, .int .i64 g] w fun e w' => e = .returned (cred (whoC u g)) ∧ Below w.heap.size w w' := by
 unfold cred whoC
 dsimp only
 go_enter Tryz.func13, Tryz.ntmps13
 go_wp2
 refine bodyPost_ret (v := .agg #[.int .i64 u, .int .i64 u, .int .i64 u, .int .i64 g, .int .i64 g]) (by simp [results, Tryz.results13, go_sem]) rfl ⟨rfl, ?_⟩
 exact bZ (Below.refl _ _) _
theorem MR.makes {may : Bool} {T T' : IT.Tr} {c : Cr} {k i : Nat} {nm : IT.Bytes} {kind mode r : Int} (hb : MR T) (h : isMakes may T c k nm kind mode i r T') : MR T' := by
 unfold isMakes at h
 split at h
 · exact h.2.2 ▸ hb
 · obtain ⟨i1, r1, T1, h1, h⟩ := h
   have b1 := hb.make h1
   split at h
   · exact h.2.2 ▸ b1
   · obtain ⟨r2, T2, h2, h⟩ := h
     split at h
     · obtain ⟨_, _, b, h⟩ := h
       exact (b1.enter h2).drop h
     · exact h.2.2 ▸ b1.enter h2
theorem MR.wput {T T' : IT.Tr} {k : Nat} {a r : Int} {s : IT.Bytes} (hb : MR T) (h : isWPut T k a s r T') : MR T' := by
 obtain ⟨T1, h1, h2⟩ := h
 split at h2
 · exact (hb.put h1).plainer h2
 · exact h2 ▸ hb.put h1
theorem MR.opened {T T' : IT.Tr} {c : Cr} {o : Ho} {k i : Nat} {r : Int} (hb : MR T) (h : isOpened T c o k i r T') : MR T' := by
 obtain ⟨q, _, h⟩ := h
 split at h
 · exact h.2.2 ▸ hb
 · split at h
   · exact h.2.2 ▸ hb
   · obtain ⟨_, _, b, T1, h1, h⟩ := h
     split at h
     · obtain ⟨r2, T2, h2, h3⟩ := h
       exact ((hb.hold h1).cut h2).plainer h3
     · exact h ▸ hb.hold h1
theorem MR.wopen {T T' : IT.Tr} {c : Cr} {cwd : Int} {s : IT.Bytes} {o : Ho} {i : Nat} {r : Int} (hb : MR T) (h : isOpen T c cwd s o i r T') : MR T' := by
 have hm := hb
 unfold isOpen at h
 split at h
 · exact h.2.2 ▸ hm
 · split at h
   · split at h
     · exact h.2.2 ▸ hm
     · split at h
       · split at h
         · exact h.2.2 ▸ hm
         · obtain ⟨m, _, h⟩ := h
           exact hm.makes h
       · split at h
         · exact h.2.2 ▸ hm
         · split at h
           · exact h.2.2 ▸ hm
           · exact hb.opened h
   · split at h
     · exact h.2.2 ▸ hm
     · exact hb.opened h
theorem MR.mkdir {T T' : IT.Tr} {c : Cr} {cwd : Int} {s : IT.Bytes} {mode r : Int} (hb : MR T) (h : isMkdir T c cwd s mode r T') : MR T' := by
 unfold isMkdir at h
 split at h
 · exact h.2 ▸ hb
 · split at h
   · exact h.2 ▸ hb
   · split at h
     · exact h.2 ▸ hb
     · obtain ⟨m, i1, r1, T1, _, h1, h⟩ := h
       split at h
       · obtain ⟨_, b, h⟩ := h
         exact (hb.makes h1).drop h
       · exact h.2 ▸ hb.makes h1
theorem MR.chown {T T' : IT.Tr} {c : Cr} {cwd : Int} {s : IT.Bytes} {o g r : Int} (hb : MR T) (h : isChown T c cwd s o g r T') : MR T' := by
 unfold isChown at h
 split at h
 · exact h.2 ▸ hb
 · obtain ⟨m, _, h⟩ := h
   split at h
   · exact h.2 ▸ hb
   · exact hb.set h
theorem MR.wremove {T T' : IT.Tr} {c : Cr} {cwd : Int} {s : IT.Bytes} {dir : Bool} {r : Int} (hb : MR T) (h : isWRemove T c cwd s dir r T') : MR T' := by
 unfold isWRemove at h
 split at h
 · exact h.2 ▸ hb
 · split at h
   · exact h.2 ▸ hb
   · obtain ⟨m, q, _, _, h⟩ := h
     split at h
     · exact h.2 ▸ hb
     · split at h
       · exact h.2 ▸ hb
       · split at h
         · exact h.2 ▸ hb
         · split at h
           · exact h.2 ▸ hb
           · exact hb.remove h
theorem MR.link {T T' : IT.Tr} {c : Cr} {cwd : Int} {s ar : IT.Bytes} {r : Int} (hb : MR T) (h : isLink T c cwd s ar r T') : MR T' := by
 unfold isLink at h
 split at h
 · exact h.2 ▸ hb
 · obtain ⟨q, _, h⟩ := h
   split at h
   · exact h.2 ▸ hb
   · split at h
     · exact h.2 ▸ hb
     · split at h
       · exact h.2 ▸ hb
       · split at h
         · exact h.2 ▸ hb
         · obtain ⟨m, _, h⟩ := h
           split at h
           · exact h.2 ▸ hb
           · exact hb.enter h
theorem isChmod.sound {T T' : IT.Tr} {c : Cr} {cwd : Int} {s : IT.Bytes} {mode r : Int} (h : isChmod T c cwd s mode r T') (hs : IT.Sound okN T) : IT.Sound okN T' := by
 unfold isChmod at h
 split at h
 · exact h.2 ▸ hs
 · obtain ⟨m, _, h⟩ := h
   split at h
   · exact h.2 ▸ hs
   · exact h.sound hs
theorem HB.chmod {T T' : IT.Tr} {c : Cr} {cwd : Int} {s : IT.Bytes} {mode r : Int} {B : Nat} (hs : HB T B) (h : isChmod T c cwd s mode r T') : HB T' B := by
 unfold isChmod at h
 split at h
 · exact h.2 ▸ hs
 · obtain ⟨m, _, h⟩ := h
   split at h
   · exact h.2 ▸ hs
   · exact hs.set h
theorem MR.chmod {T T' : IT.Tr} {c : Cr} {cwd : Int} {s : IT.Bytes} {mode r : Int} (hs : MR T) (h : isChmod T c cwd s mode r T') : MR T' := by
 unfold isChmod at h
 split at h
 · exact h.2 ▸ hs
 · obtain ⟨m, _, h⟩ := h
   split at h
   · exact h.2 ▸ hs
   · exact hs.set h
theorem isRename.sound {T T' : IT.Tr} {c : Cr} {cwd : Int} {s ar : IT.Bytes} {r : Int} (h : isRename T c cwd s ar r T') (hs : IT.Sound okN T) : IT.Sound okN T' := by
 unfold isRename at h
 split at h
 · exact h.2 ▸ hs
 · split at h
   · exact h.2 ▸ hs
   · split at h
     · exact h.2 ▸ hs
     · obtain ⟨m, q, n, _, _, _, h⟩ := h
       split at h
       · exact h.2 ▸ hs
       · split at h
         · exact h.2 ▸ hs
         · split at h
           · exact h.2 ▸ hs
           · exact h.sound hs
theorem HB.rename {T T' : IT.Tr} {c : Cr} {cwd : Int} {s ar : IT.Bytes} {r : Int} {B : Nat} (hs : HB T B) (h : isRename T c cwd s ar r T') : HB T' B := by
 unfold isRename at h
 split at h
 · exact h.2 ▸ hs
 · split at h
   · exact h.2 ▸ hs
   · split at h
     · exact h.2 ▸ hs
     · obtain ⟨m, q, n, _, _, _, h⟩ := h
       split at h
       · exact h.2 ▸ hs
       · split at h
         · exact h.2 ▸ hs
         · split at h
           · exact h.2 ▸ hs
           · exact hs.move h
theorem MR.rename {T T' : IT.Tr} {c : Cr} {cwd : Int} {s ar : IT.Bytes} {r : Int} (hs : MR T) (h : isRename T c cwd s ar r T') : MR T' := by
 unfold isRename at h
 split at h
 · exact h.2 ▸ hs
 · split at h
   · exact h.2 ▸ hs
   · split at h
     · exact h.2 ▸ hs
     · obtain ⟨m, q, n, _, _, _, h⟩ := h
       split at h
       · exact h.2 ▸ hs
       · split at h
         · exact h.2 ▸ hs
         · split at h
           · exact h.2 ▸ hs
           · exact hs.move h
theorem both {α : Type} {r q e : α} {A B T : IT.Tr} (h : r = e ∧ A = T) (g : q = e ∧ B = T) : r = q ∧ A = B := ⟨h.1.trans g.1.symm, h.2.trans g.2.symm⟩
theorem both3 {i j k : Nat} {r q e : Int} {A B T : IT.Tr} (h : i = k ∧ r = e ∧ A = T) (g : j = k ∧ q = e ∧ B = T) : i = j ∧ r = q ∧ A = B := ⟨h.1.trans g.1.symm, h.2.1.trans g.2.1.symm, h.2.2.trans g.2.2.symm⟩
theorem isPlainer.one {T A B : IT.Tr} {k : Nat} (h : isPlainer T k A) (g : isPlainer T k B) : A = B := by
 unfold isPlainer at h g
 cases hk : T k with
 | none => rw [hk] at h g; exact h.trans g.symm
 | some m =>
   rw [hk] at h g
   obtain ⟨r, h⟩ := h
   obtain ⟨q, g⟩ := g
   exact (h.one g).2
theorem isMakes.one {may : Bool} {T A B : IT.Tr} {c : Cr} {k i j : Nat} {nm : IT.Bytes} {kind mode r q : Int} (h : isMakes may T c k nm kind mode i r A) (g : isMakes may T c k nm kind mode j q B) : i = j ∧ r = q ∧ A = B := by
 unfold isMakes at h g
 by_cases c1 : may = false
 · rw [if_pos c1] at h g; exact both3 h g
 rw [if_neg c1] at h g
 obtain ⟨i1, r1, T1, h1, h⟩ := h
 obtain ⟨j1, q1, T2, g1, g⟩ := g
 obtain ⟨rfl, rfl, rfl⟩ := h1.one g1
 by_cases c2 : r1 ≠ 0
 · rw [if_pos c2] at h g; exact both3 h g
 rw [if_neg c2] at h g
 obtain ⟨r2, T2, h2, h⟩ := h
 obtain ⟨q2, T3, g2, g⟩ := g
 obtain ⟨rfl, rfl⟩ := h2.one g2
 by_cases c3 : r2 ≠ 0
 · rw [if_pos c3] at h g
   obtain ⟨h1, h2, b, h3⟩ := h
   obtain ⟨g1, g2, b2, g3⟩ := g
   exact ⟨h1.trans g1.symm, h2.trans g2.symm, (h3.one g3).2⟩
 · rw [if_neg c3] at h g; exact both3 h g
theorem isMkdir.one {T A B : IT.Tr} {c : Cr} {cwd : Int} {s : IT.Bytes} {mode r q : Int} (h : isMkdir T c cwd s mode r A) (g : isMkdir T c cwd s mode q B) : r = q ∧ A = B := by
 unfold isMkdir at h g
 by_cases c1 : Md.rightB mode = false
 · rw [if_pos c1] at h g; exact both h g
 rw [if_neg c1] at h g
 cases he : entryT T c cwd s with
 | error e => rw [he] at h g; exact both h g
 | ok x =>
   rw [he] at h g
   dsimp only at h g
   by_cases c2 : x.tg.isSome = true
   · rw [if_pos c2] at h g; exact both h g
   rw [if_neg c2] at h g
   obtain ⟨m, i1, r1, T1, hm, h1, h⟩ := h
   obtain ⟨m2, i2, r2, T2, hm2, g1, g⟩ := g
   obtain rfl := oI (hm.symm.trans hm2)
   obtain ⟨rfl, rfl, rfl⟩ := h1.one g1
   by_cases c3 : r1 = 0
   · rw [if_pos c3] at h g
     obtain ⟨h1, b, h2⟩ := h
     obtain ⟨g1, b2, g2⟩ := g
     exact ⟨h1.trans g1.symm, (h2.one g2).2⟩
   · rw [if_neg c3] at h g; exact both h g
theorem isChown.one {T A B : IT.Tr} {c : Cr} {cwd : Int} {s : IT.Bytes} {ow gr r q : Int} (h : isChown T c cwd s ow gr r A) (g : isChown T c cwd s ow gr q B) : r = q ∧ A = B := by
 unfold isChown at h g
 by_cases c1 : (findT T c cwd s).2 ≠ 0
 · rw [if_pos c1] at h g; exact both h g
 rw [if_neg c1] at h g
 obtain ⟨m, hm, h⟩ := h
 obtain ⟨m2, hm2, g⟩ := g
 obtain rfl := oI (hm.symm.trans hm2)
 by_cases c2 : c.eff ≠ 0 ∧ ¬ (c.eff = m.owner ∧ ow = m.owner ∧ (gr = c.eg ∨ gr = m.group))
 · rw [if_pos c2] at h g; exact both h g
 · rw [if_neg c2] at h g; exact h.one g
theorem isChmod.one {T A B : IT.Tr} {c : Cr} {cwd : Int} {s : IT.Bytes} {mode r q : Int} (h : isChmod T c cwd s mode r A) (g : isChmod T c cwd s mode q B) : r = q ∧ A = B := by
 unfold isChmod at h g
 by_cases c1 : (findT T c cwd s).2 ≠ 0
 · rw [if_pos c1] at h g; exact both h g
 rw [if_neg c1] at h g
 obtain ⟨m, hm, h⟩ := h
 obtain ⟨m2, hm2, g⟩ := g
 obtain rfl := oI (hm.symm.trans hm2)
 by_cases c2 : c.eff ≠ 0 ∧ c.eff ≠ m.owner
 · rw [if_pos c2] at h g; exact both h g
 · rw [if_neg c2] at h g; exact h.one g
theorem isWRemove.one {T A B : IT.Tr} {c : Cr} {cwd : Int} {s : IT.Bytes} {dir : Bool} {r q : Int} (h : isWRemove T c cwd s dir r A) (g : isWRemove T c cwd s dir q B) : r = q ∧ A = B := by
 unfold isWRemove at h g
 cases he : entryT T c cwd s with
 | error e => rw [he] at h g; exact both h g
 | ok x =>
   rw [he] at h g
   dsimp only at h g
   cases ht : x.tg with
   | none => rw [ht] at h g; exact both h g
   | some j =>
     rw [ht] at h g
     obtain ⟨m, p, hm, hp, h⟩ := h
     obtain ⟨m2, p2, hm2, hp2, g⟩ := g
     obtain rfl := oI (hm.symm.trans hm2)
     obtain rfl := oI (hp.symm.trans hp2)
     by_cases c1 : (dir = true ∨ x.must = true) ∧ p.kind ≠ 1
     · rw [if_pos c1] at h g; exact both h g
     rw [if_neg c1] at h g
     by_cases c2 : dir = false ∧ p.kind = 1
     · rw [if_pos c2] at h g; exact both h g
     rw [if_neg c2] at h g
     by_cases c3 : mayN m c 2 = false
     · rw [if_pos c3] at h g; exact both h g
     rw [if_neg c3] at h g
     by_cases c4 : takesB c.eff m.mode m.owner p.owner = false
     · rw [if_pos c4] at h g; exact both h g
     rw [if_neg c4] at h g
     exact h.one g
theorem isWPut.one {T A B : IT.Tr} {k : Nat} {a r q : Int} {s : IT.Bytes} (h : isWPut T k a s r A) (g : isWPut T k a s q B) : r = q ∧ A = B := by
 obtain ⟨T1, h1, h⟩ := h
 obtain ⟨T2, g1, g⟩ := g
 obtain ⟨rfl, rfl⟩ := h1.one g1
 refine ⟨rfl, ?_⟩
 by_cases c1 : r = 0
 · rw [if_pos c1] at h g; exact isPlainer.one h g
 · rw [if_neg c1] at h g; exact h.trans g.symm
theorem isLink.one {T A B : IT.Tr} {c : Cr} {cwd : Int} {s ar : IT.Bytes} {r q : Int} (h : isLink T c cwd s ar r A) (g : isLink T c cwd s ar q B) : r = q ∧ A = B := by
 unfold isLink at h g
 by_cases c1 : (findT T c cwd s).2 ≠ 0
 · rw [if_pos c1] at h g; exact both h g
 rw [if_neg c1] at h g
 obtain ⟨p, hp, h⟩ := h
 obtain ⟨p2, hp2, g⟩ := g
 obtain rfl := oI (hp.symm.trans hp2)
 by_cases c2 : p.kind = 1
 · rw [if_pos c2] at h g; exact both h g
 rw [if_neg c2] at h g
 cases he : entryT T c cwd ar with
 | error e => rw [he] at h g; exact both h g
 | ok x =>
   rw [he] at h g
   dsimp only at h g
   by_cases c3 : x.tg.isSome = true
   · rw [if_pos c3] at h g; exact both h g
   rw [if_neg c3] at h g
   by_cases c4 : x.must = true
   · rw [if_pos c4] at h g; exact both h g
   rw [if_neg c4] at h g
   obtain ⟨m, hm, h⟩ := h
   obtain ⟨m2, hm2, g⟩ := g
   obtain rfl := oI (hm.symm.trans hm2)
   by_cases c5 : mayN m c 2 = false
   · rw [if_pos c5] at h g; exact both h g
   · rw [if_neg c5] at h g; exact h.one g
theorem isRename.one {T A B : IT.Tr} {c : Cr} {cwd : Int} {s ar : IT.Bytes} {r q : Int} (h : isRename T c cwd s ar r A) (g : isRename T c cwd s ar q B) : r = q ∧ A = B := by
 unfold isRename at h g
 cases he : entryT T c cwd s with
 | error e => rw [he] at h g; exact both h g
 | ok x =>
   rw [he] at h g
   dsimp only at h g
   cases ht : x.tg with
   | none => rw [ht] at h g; exact both h g
   | some j =>
     rw [ht] at h g
     dsimp only at h g
     cases he2 : entryT T c cwd ar with
     | error e => rw [he2] at h g; exact both h g
     | ok y =>
       rw [he2] at h g
       obtain ⟨m, p, n, hm, hp, hn, h⟩ := h
       obtain ⟨m2, p2, n2, hm2, hp2, hn2, g⟩ := g
       obtain rfl := oI (hm.symm.trans hm2)
       obtain rfl := oI (hp.symm.trans hp2)
       obtain rfl := oI (hn.symm.trans hn2)
       split at h
       · rename_i c1; rw [if_pos c1] at g; exact both h g
       rename_i c1; rw [if_neg c1] at g
       split at h
       · rename_i c2; rw [if_pos c2] at g; exact both h g
       rename_i c2; rw [if_neg c2] at g
       split at h
       · rename_i c3; rw [if_pos c3] at g; exact both h g
       rename_i c3; rw [if_neg c3] at g
       exact h.one g
theorem isOpened.one {T A B : IT.Tr} {c : Cr} {o : Ho} {k i j : Nat} {r q : Int} (h : isOpened T c o k i r A) (g : isOpened T c o k j q B) : i = j ∧ r = q ∧ A = B := by
 obtain ⟨p, hp, h⟩ := h
 obtain ⟨p2, hp2, g⟩ := g
 obtain rfl := oI (hp.symm.trans hp2)
 split at h
 · rename_i c1; rw [if_pos c1] at g; exact both3 h g
 rename_i c1; rw [if_neg c1] at g
 split at h
 · rename_i c2; rw [if_pos c2] at g; exact both3 h g
 rename_i c2; rw [if_neg c2] at g
 obtain ⟨h1, h2, b, T1, hh, h⟩ := h
 obtain ⟨g1, g2, b2, T2, gh, g⟩ := g
 obtain ⟨_, rfl⟩ := hh.one gh
 refine ⟨h1.trans g1.symm, h2.trans g2.symm, ?_⟩
 split at h
 · rename_i c3; rw [if_pos c3] at g
   obtain ⟨r2, T2, h3, h4⟩ := h
   obtain ⟨q2, T3, g3, g4⟩ := g
   obtain ⟨_, rfl⟩ := h3.one g3
   exact isPlainer.one h4 g4
 · rename_i c3; rw [if_neg c3] at g; exact h.trans g.symm
theorem isOpen.one {T A B : IT.Tr} {c : Cr} {cwd : Int} {s : IT.Bytes} {o : Ho} {i j : Nat} {r q : Int} (h : isOpen T c cwd s o i r A) (g : isOpen T c cwd s o j q B) : i = j ∧ r = q ∧ A = B := by
 unfold isOpen at h g
 by_cases c1 : openB o = false
 · rw [if_pos c1] at h g; exact both3 h g
 rw [if_neg c1] at h g
 by_cases c2 : o.make = true
 · rw [if_pos c2] at h g
   cases he : entryT T c cwd s with
   | error e => rw [he] at h g; exact both3 h g
   | ok x =>
     rw [he] at h g
     dsimp only at h g
     cases ht : x.tg with
     | none =>
       rw [ht] at h g
       dsimp only at h g
       by_cases c3 : x.must = true
       · rw [if_pos c3] at h g; exact both3 h g
       rw [if_neg c3] at h g
       obtain ⟨m, hm, h⟩ := h
       obtain ⟨m2, hm2, g⟩ := g
       obtain rfl := oI (hm.symm.trans hm2)
       exact h.one g
     | some j =>
       rw [ht] at h g
       dsimp only at h g
       by_cases c3 : o.alone = true
       · rw [if_pos c3] at h g; exact both3 h g
       rw [if_neg c3] at h g
       split at h
       · rename_i c4; rw [if_pos c4] at g; exact both3 h g
       rename_i c4; rw [if_neg c4] at g
       exact h.one g
 rw [if_neg c2] at h g
 by_cases c3 : (findT T c cwd s).2 ≠ 0
 · rw [if_pos c3] at h g; exact both3 h g
 · rw [if_neg c3] at h g; exact h.one g
theorem stored_ez {w3 : World} {C : Array Value} (h : C.size = 19) : ∃ W5, World.setCells (w3.alloc (.cells zeroE 74)) w3.heap.size 0 C.toList = W5 ∧ W5.heap[w3.heap.size]? = some (.cells C 74 (0, 0)) ∧ Below w3.heap.size w3 W5 ∧ (w3.alloc (.cells zeroE 74)).there w3.heap.size 0 C.size := by
 obtain ⟨s1, s2, s3⟩ := stored_whole (w3 := w3) (Z := zeroE) (C := C) (TY := 74) h
 exact ⟨_, rfl, s1, s2, by rw [h]; exact there_of (aQ w3 _)⟩
theorem wpList_load_guard {P : Program} {ops : Array Oper} {rest : List Oper} {op : Oper} {a : Act} {w : World} {Q : Exit → Act → World → Prop} (hw : Region.wanted op (yielded ops a.tmps) = true) (ty : TypeId) (x : Operand) (ho : op.op = .load ty x)
  (b o : Nat) (hx : a.eval x = .pointer (some ⟨b, o, none⟩)) (cs : List Value) (d : TypeDesc) (hc : w.rangeAt b o cs)
  (hu : P.underlying ty = some d) (hd : d.isRow = true) (hi : (P.info? ty).map (·.size) = some cs.length)
  (h : wpList P ops Q rest (a.put op.dst (.agg cs.toArray)) w) : wpList P ops Q (op :: rest) a w := by
 unfold wpList
 rw [if_pos hw]
 exact .inl (wp_load_mid ty x ho b o hx cs d hc hu hd hi h)
theorem wren_n {w : World} {t : Nat} {S : Tab} {T : IT.Tr} (h : Tre w t S T) (hb : HB T 1000000) (cwd : Int) (c : Cr) (s ar : ByteArray) {k j k2 : Nat} {nmx nmy : IT.Bytes} {must1 must3 : Bool} {q : IT.Nd} (he : entryT T c cwd (bs s) = .ok ⟨k, nmx, must1, some j⟩) (he2 : entryT T c cwd (bs ar) = .ok ⟨k2, nmy, must3, none⟩) (hq : T j = some q) (hmu : (must1 = true ∧ q.kind = 1) ∨ (must1 = false ∧ must3 = true ∧ q.kind = 1) ∨ (must1 = false ∧ must3 = false)) :
  Calls Tryz.prog 24 #[.pointer (some ⟨t, 0, none⟩), .int .i64 cwd, cred c, .string s, .string ar] w fun e w' => ∃ r, e = .returned (.int .i64 r) ∧ Stp w t S (fun T' => isRename T c cwd (bs s) (bs ar) r T') w' := by
 have H := Hd h
 have HH := Hd hb
 have HQ := Hd hq
 obtain ⟨C, r0, d0, d1, d2, d3, d4, d5, d6, d7, g0, g1, g2, g3, g4, g5, g6, g7, nm, mustC, is, hC, hc, hE⟩ := wentry_all h cwd c s
 obtain ⟨D, r1, a0, a1, a2, a3, a4, a5, a6, a7, b0, b1, b2, b3, b4, b5, b6, b7, nm2, mustD, is2, hD, hc2, hE2⟩ := wentry_all h cwd c ar
 rw [he] at hE
 rw [he2] at hE2
 obtain ⟨rfl, rfl, rfl, rfl, m, hm, hd0, hmay, htk⟩ := hE
 obtain ⟨rfl, rfl, hms, rfl, n, hn, ha0, hmay2, htk2⟩ := hE2
 have hms2 := hms.symm
 clear hms
 subst hms2
 dsimp only at hm hd0 hmay htk hn ha0 hmay2 htk2 hC hD
 obtain ⟨q2, hq2, rfl, htkq⟩ := htk j rfl
 obtain rfl := oI (hq.symm.trans hq2)
 have hnk : ¬ ((mustC = true ∨ must3 = true) ∧ q.kind ≠ 1) := fun hh => by
  rcases hmu with ⟨_, e⟩ | ⟨_, _, e⟩ | ⟨rfl, rfl⟩
  · exact hh.2 e
  · exact hh.2 e
  · exact hh.1.elim (fun e => by cases e) (fun e => by cases e)
 have HREL : Hid (∀ r T', (if mayN m c 2 = false ∨ mayN n c 2 = false then r = 4 ∧ T' = T
  else if takesB c.eff m.mode m.owner q.owner = false ∨ takesO T c n (none) = false then r = 2 ∧ T' = T
  else IT.isMove okN T k nmx k2 nmy r T') → isRename T c cwd (bs s) (bs ar) r T') := Hd (fun r T' hh => by
   unfold isRename
   rw [he]
   dsimp only
   rw [he2]
   exact ⟨m, q, n, hm, hq, hn, by rw [if_neg hnk]; exact hh⟩)
 have HCE := Hd hC
 have HDE := Hd hD
 have HC := Hd hc
 have HC2 := Hd hc2
 have HMYU := Hd hmay
 have HMYU2 := Hd hmay2
 have HTKU := Hd htkq
 have HD0 := Hd hd0
 have HA0 := Hd ha0
 have HTO : Hid (takesO T c n none = true) := Hd rfl
 have HCS : Hid (C.size = 19) := Hd (by rw [hC]; rfl)
 have HC1 : Hid (C.all (·.oneCell') = true) := Hd (by rw [hC]; exact entG_one)
 have HDS : Hid (D.size = 19) := Hd (by rw [hD]; rfl)
 have HD1 : Hid (D.all (·.oneCell') = true) := Hd (by rw [hD]; exact entG_one)
 have hzE : zeroE = #[.int .i64 0, .int .i64 0, .int .i64 0, .int .i64 0, .int .i64 0, .int .i64 0, .int .i64 0, .int .i64 0, .string ⟨#[]⟩, .bool false, .int .i64 0, .int .i64 0, .int .i64 0, .int .i64 0, .int .i64 0, .int .i64 0, .int .i64 0, .int .i64 0, .bool false] := rfl
 have HZE := Hd hzE
 clear hnk hzE h hb he he2 hq hq2 hm hn hd0 ha0 hmay hmay2 htk htk2 htkq hC hD hc hc2
 unfold cred
 unfold ask at HC HC2 HTKU
 unfold ask infoV at HMYU HMYU2
 generalize mayN m c 2 = q1 at *
 generalize mayN n c 2 = q2 at *
 generalize takesB c.eff m.mode m.owner q.owner = q3 at *
 have HMU : (mustC = true ∧ (q.kind == 1) = true) ∨ (mustC = false ∧ must3 = true ∧ (q.kind == 1) = true) ∨ (mustC = false ∧ must3 = false) := by simpa using hmu
 clear hmu
 rcases HMU with ⟨rfl, kdb⟩ | ⟨rfl, rfl, kdb⟩ | ⟨rfl, rfl⟩
 all_goals
  go_enter Tryz.func24, Tryz.ntmps24
  go_wp2_with fail
  refine (HC.out _ (bZ (bZ (Below.refl _ _) _) _)).mono ?_
  rintro e w3 ⟨rfl, hb⟩
  have HB := Hd (two_below hb)
  rw [aZ, aZ] at hb
  obtain ⟨_, ba1, hlt, _⟩ := two_blocks hb
  obtain ⟨W5, hW5, s15, s25, hT5⟩ := stored_ez (w3 := w3) HCS.out
  have hI5 : (Tryz.prog.info? 74).map (·.size) = some C.size := by rw [HCS.out]; rfl
  have h1C5 := HC1.out
  rw [HZE.out] at hW5 hT5
  have HS5 : Hid (RS w W5 t cwd c w3.heap.size C) := Hd ⟨HB.out.trans (s25.mono HB.out.size), (s25.block _ hlt).trans ba1, s15⟩
  have x18 : W5.cell? ⟨w3.heap.size, 18, none⟩ = some (.bool true) := (cO s15 18).trans (by rw [HCE.out]; rfl)
  obtain ⟨al, y0, y1, y2, y3, y4, y5, y6⟩ := ask_cells HS5.out.ask
  clear hb ba1 hlt HC
  go_wp2_with (refine wpList_store_mid rfl 74 _ _ rfl w3.heap.size 0 C rfl rfl hT5 hI5 h1C5 ?_; rw [hW5])
  refine (HC2.out _ HS5.out.bel).mono ?_
  rintro e w6 ⟨rfl, hb6⟩
  have HS6 := Hd (HS5.out.below hb6)
  obtain ⟨W7, hW7, s17, s27, hT7⟩ := stored_ez (w3 := w6) HDS.out
  have hI7 : (Tryz.prog.info? 74).map (·.size) = some D.size := by rw [HDS.out]; rfl
  have h1C7 := HD1.out
  rw [HZE.out] at hW7 hT7
  have HS7 := Hd (HS6.out.below s27)
  clear hb6 y0 y1 y2 y3 y4 y5 y6 al x18 HS5 HC2 hT5 hW5 s15 s25
  obtain ⟨al, y0, y1, y2, y3, y4, y5, y6⟩ := ask_cells HS7.out.ask
  obtain ⟨xl, x0, x1, x2, x3, x4, x5, x6, x7, x8, x9, x11, x18⟩ := ent_cells HS7.out.ent HCE.out
  obtain ⟨zl, z0, z1, z2, z3, z4, z5, z6, z7, z8, z9, z11, z18⟩ := ent_cells s17 HDE.out
  have HD7 := Hd s17
  clear s17
  go_wp2_with (refine wpList_store_mid rfl 74 _ _ rfl w6.heap.size 0 D rfl rfl hT7 hI7 h1C7 ?_; rw [hW7])
  clear al y0 y1 y2 y3 y4 y5 y6 xl x0 x1 x2 x3 x4 x5 x6 x7 x8 x9 x11 x18 zl z0 z1 z2 z3 z4 z5 z6 z7 z8 z9 z11 z18 hW7 hT7
  refine (HMYU.out _).mono ?_
  rintro e w8 ⟨rfl, hb⟩
  have HS8 := Hd (HS7.out.below hb)
  have HD8 := Hd ((hb.block _ (lH HD7.out)).trans HD7.out)
  clear hb HS7 HD7
  cases q1 with
  | false =>
    go_wp2
    go_ret
    exact ⟨4, rfl, Stp.keepB H.out HS8.out.bel (HREL.out 4 T (by simp))⟩
  | true =>
    obtain ⟨al, y0, y1, y2, y3, y4, y5, y6⟩ := ask_cells HS8.out.ask
    obtain ⟨zl, z0, z1, z2, z3, z4, z5, z6, z7, z8, z9, z11, z18⟩ := ent_cells HD8.out HDE.out
    go_wp2_with fail
    refine (HMYU2.out _).mono ?_
    rintro e w9 ⟨rfl, hb⟩
    have HS9 := Hd (HS8.out.below hb)
    have HD9 := Hd ((hb.block _ (lH HD8.out)).trans HD8.out)
    clear hb HS8 HD8 al y0 y1 y2 y3 y4 y5 y6 zl z0 z1 z2 z3 z4 z5 z6 z7 z8 z9 z11 z18
    cases q2 with
    | false =>
      go_wp2
      go_ret
      exact ⟨4, rfl, Stp.keepB H.out HS9.out.bel (HREL.out 4 T (by simp))⟩
    | true =>
      obtain ⟨al, y0, y1, y2, y3, y4, y5, y6⟩ := ask_cells HS9.out.ask
      have l9 := range_of HS9.out.ent
      have xl := lH HS9.out.ent
      go_wp2_with (refine wpList_load_mid rfl 74 _ rfl w3.heap.size 0 rfl C.toList _ l9 rfl rfl hI5 ?_)
      refine (HTKU.out _).mono ?_
      rintro e w10 ⟨rfl, hb⟩
      have HS10 := Hd (HS9.out.below hb)
      have HD10 := Hd ((hb.block _ (lH HD9.out)).trans HD9.out)
      clear hb HS9 HD9 al y0 y1 y2 y3 y4 y5 y6 l9 xl
      cases q3 with
      | false =>
        go_wp2
        go_ret
        exact ⟨2, rfl, Stp.keepB H.out HS10.out.bel (HREL.out 2 T (by simp))⟩
      | true =>
        have HSN := HS10
        obtain ⟨xl, x0, x1, x2, x3, x4, x5, x6, x7, x8, x9, x11, x18⟩ := ent_cells HSN.out.ent HCE.out
        obtain ⟨zl, z0, z1, z2, z3, z4, z5, z6, z7, z8, z9, z11, z18⟩ := ent_cells HD10.out HDE.out
        go_wp2_with fail
        refine (move_any (H.out.mv ((Mv.refl H.out.rep).below HSN.out.bel)) d0 a0 (tx nmx) (tx nmy)).mono ?_
        rintro e wz ⟨r, rfl, hs⟩
        have HS := Hd (Stp.pre ((Mv.refl H.out.rep).below HSN.out.bel) hs)
        clear hs
        go_wp2
        go_ret
        refine ⟨r, rfl, HS.out.imp fun T' hT' => HREL.out r T' ?_⟩
        rw [HD0.out, HA0.out, bs_tx, bs_tx, Int.toNat_natCast, Int.toNat_natCast] at hT'
        simp only [HTO.out, ne_eq, not_true_eq_false, not_false_eq_true, and_false, false_and, or_self, or_false, false_or, if_false, Bool.true_eq_false, Bool.false_eq_true]
        exact hT'
theorem wren_s {w : World} {t : Nat} {S : Tab} {T : IT.Tr} (h : Tre w t S T) (hb : HB T 1000000) (cwd : Int) (c : Cr) (s ar : ByteArray) {k j k2 j2 : Nat} {nmx nmy : IT.Bytes} {must1 must3 : Bool} {q : IT.Nd} (he : entryT T c cwd (bs s) = .ok ⟨k, nmx, must1, some j⟩) (he2 : entryT T c cwd (bs ar) = .ok ⟨k2, nmy, must3, some j2⟩) (hq : T j = some q) (hmu : (must1 = true ∧ q.kind = 1) ∨ (must1 = false ∧ must3 = true ∧ q.kind = 1) ∨ (must1 = false ∧ must3 = false)) :
  Calls Tryz.prog 24 #[.pointer (some ⟨t, 0, none⟩), .int .i64 cwd, cred c, .string s, .string ar] w fun e w' => ∃ r, e = .returned (.int .i64 r) ∧ Stp w t S (fun T' => isRename T c cwd (bs s) (bs ar) r T') w' := by
 have H := Hd h
 have HH := Hd hb
 have HQ := Hd hq
 obtain ⟨C, r0, d0, d1, d2, d3, d4, d5, d6, d7, g0, g1, g2, g3, g4, g5, g6, g7, nm, mustC, is, hC, hc, hE⟩ := wentry_all h cwd c s
 obtain ⟨D, r1, a0, a1, a2, a3, a4, a5, a6, a7, b0, b1, b2, b3, b4, b5, b6, b7, nm2, mustD, is2, hD, hc2, hE2⟩ := wentry_all h cwd c ar
 rw [he] at hE
 rw [he2] at hE2
 obtain ⟨rfl, rfl, rfl, rfl, m, hm, hd0, hmay, htk⟩ := hE
 obtain ⟨rfl, rfl, hms, rfl, n, hn, ha0, hmay2, htk2⟩ := hE2
 have hms2 := hms.symm
 clear hms
 subst hms2
 dsimp only at hm hd0 hmay htk hn ha0 hmay2 htk2 hC hD
 obtain ⟨q2, hq2, rfl, htkq⟩ := htk j rfl
 obtain rfl := oI (hq.symm.trans hq2)
 have hnk : ¬ ((mustC = true ∨ must3 = true) ∧ q.kind ≠ 1) := fun hh => by
  rcases hmu with ⟨_, e⟩ | ⟨_, _, e⟩ | ⟨rfl, rfl⟩
  · exact hh.2 e
  · exact hh.2 e
  · exact hh.1.elim (fun e => by cases e) (fun e => by cases e)
 have HREL : Hid (∀ r T', (if mayN m c 2 = false ∨ mayN n c 2 = false then r = 4 ∧ T' = T
  else if takesB c.eff m.mode m.owner q.owner = false ∨ takesO T c n (some j2) = false then r = 2 ∧ T' = T
  else IT.isMove okN T k nmx k2 nmy r T') → isRename T c cwd (bs s) (bs ar) r T') := Hd (fun r T' hh => by
   unfold isRename
   rw [he]
   dsimp only
   rw [he2]
   exact ⟨m, q, n, hm, hq, hn, by rw [if_neg hnk]; exact hh⟩)
 have HCE := Hd hC
 have HDE := Hd hD
 have HC := Hd hc
 have HC2 := Hd hc2
 have HMYU := Hd hmay
 have HMYU2 := Hd hmay2
 have HTKU := Hd htkq
 have HD0 := Hd hd0
 have HA0 := Hd ha0
 obtain ⟨p, hp, rfl, htkp⟩ := htk2 j2 rfl
 have HTO : Hid (takesO T c n (some j2) = takesB c.eff n.mode n.owner p.owner) := Hd (by unfold takesO; dsimp only; rw [hp])
 have HTK2 := Hd htkp
 clear htkp hp
 unfold ask at HTK2
 have HCS : Hid (C.size = 19) := Hd (by rw [hC]; rfl)
 have HC1 : Hid (C.all (·.oneCell') = true) := Hd (by rw [hC]; exact entG_one)
 have HDS : Hid (D.size = 19) := Hd (by rw [hD]; rfl)
 have HD1 : Hid (D.all (·.oneCell') = true) := Hd (by rw [hD]; exact entG_one)
 have hzE : zeroE = #[.int .i64 0, .int .i64 0, .int .i64 0, .int .i64 0, .int .i64 0, .int .i64 0, .int .i64 0, .int .i64 0, .string ⟨#[]⟩, .bool false, .int .i64 0, .int .i64 0, .int .i64 0, .int .i64 0, .int .i64 0, .int .i64 0, .int .i64 0, .int .i64 0, .bool false] := rfl
 have HZE := Hd hzE
 clear hnk hzE h hb he he2 hq hq2 hm hn hd0 ha0 hmay hmay2 htk htk2 htkq hC hD hc hc2
 unfold cred
 unfold ask at HC HC2 HTKU
 unfold ask infoV at HMYU HMYU2
 generalize mayN m c 2 = q1 at *
 generalize mayN n c 2 = q2 at *
 generalize takesB c.eff m.mode m.owner q.owner = q3 at *
 generalize takesB c.eff n.mode n.owner p.owner = q4 at *
 have HMU : (mustC = true ∧ (q.kind == 1) = true) ∨ (mustC = false ∧ must3 = true ∧ (q.kind == 1) = true) ∨ (mustC = false ∧ must3 = false) := by simpa using hmu
 clear hmu
 rcases HMU with ⟨rfl, kdb⟩ | ⟨rfl, rfl, kdb⟩ | ⟨rfl, rfl⟩
 all_goals
  go_enter Tryz.func24, Tryz.ntmps24
  go_wp2_with fail
  refine (HC.out _ (bZ (bZ (Below.refl _ _) _) _)).mono ?_
  rintro e w3 ⟨rfl, hb⟩
  have HB := Hd (two_below hb)
  rw [aZ, aZ] at hb
  obtain ⟨_, ba1, hlt, _⟩ := two_blocks hb
  obtain ⟨W5, hW5, s15, s25, hT5⟩ := stored_ez (w3 := w3) HCS.out
  have hI5 : (Tryz.prog.info? 74).map (·.size) = some C.size := by rw [HCS.out]; rfl
  have h1C5 := HC1.out
  rw [HZE.out] at hW5 hT5
  have HS5 : Hid (RS w W5 t cwd c w3.heap.size C) := Hd ⟨HB.out.trans (s25.mono HB.out.size), (s25.block _ hlt).trans ba1, s15⟩
  have x18 : W5.cell? ⟨w3.heap.size, 18, none⟩ = some (.bool true) := (cO s15 18).trans (by rw [HCE.out]; rfl)
  obtain ⟨al, y0, y1, y2, y3, y4, y5, y6⟩ := ask_cells HS5.out.ask
  clear hb ba1 hlt HC
  go_wp2_with (refine wpList_store_mid rfl 74 _ _ rfl w3.heap.size 0 C rfl rfl hT5 hI5 h1C5 ?_; rw [hW5])
  refine (HC2.out _ HS5.out.bel).mono ?_
  rintro e w6 ⟨rfl, hb6⟩
  have HS6 := Hd (HS5.out.below hb6)
  obtain ⟨W7, hW7, s17, s27, hT7⟩ := stored_ez (w3 := w6) HDS.out
  have hI7 : (Tryz.prog.info? 74).map (·.size) = some D.size := by rw [HDS.out]; rfl
  have h1C7 := HD1.out
  rw [HZE.out] at hW7 hT7
  have HS7 := Hd (HS6.out.below s27)
  clear hb6 y0 y1 y2 y3 y4 y5 y6 al x18 HS5 HC2 hT5 hW5 s15 s25
  obtain ⟨al, y0, y1, y2, y3, y4, y5, y6⟩ := ask_cells HS7.out.ask
  obtain ⟨xl, x0, x1, x2, x3, x4, x5, x6, x7, x8, x9, x11, x18⟩ := ent_cells HS7.out.ent HCE.out
  obtain ⟨zl, z0, z1, z2, z3, z4, z5, z6, z7, z8, z9, z11, z18⟩ := ent_cells s17 HDE.out
  have HD7 := Hd s17
  clear s17
  go_wp2_with (refine wpList_store_mid rfl 74 _ _ rfl w6.heap.size 0 D rfl rfl hT7 hI7 h1C7 ?_; rw [hW7])
  clear al y0 y1 y2 y3 y4 y5 y6 xl x0 x1 x2 x3 x4 x5 x6 x7 x8 x9 x11 x18 zl z0 z1 z2 z3 z4 z5 z6 z7 z8 z9 z11 z18 hW7 hT7
  refine (HMYU.out _).mono ?_
  rintro e w8 ⟨rfl, hb⟩
  have HS8 := Hd (HS7.out.below hb)
  have HD8 := Hd ((hb.block _ (lH HD7.out)).trans HD7.out)
  clear hb HS7 HD7
  cases q1 with
  | false =>
    go_wp2
    go_ret
    exact ⟨4, rfl, Stp.keepB H.out HS8.out.bel (HREL.out 4 T (by simp))⟩
  | true =>
    obtain ⟨al, y0, y1, y2, y3, y4, y5, y6⟩ := ask_cells HS8.out.ask
    obtain ⟨zl, z0, z1, z2, z3, z4, z5, z6, z7, z8, z9, z11, z18⟩ := ent_cells HD8.out HDE.out
    go_wp2_with fail
    refine (HMYU2.out _).mono ?_
    rintro e w9 ⟨rfl, hb⟩
    have HS9 := Hd (HS8.out.below hb)
    have HD9 := Hd ((hb.block _ (lH HD8.out)).trans HD8.out)
    clear hb HS8 HD8 al y0 y1 y2 y3 y4 y5 y6 zl z0 z1 z2 z3 z4 z5 z6 z7 z8 z9 z11 z18
    cases q2 with
    | false =>
      go_wp2
      go_ret
      exact ⟨4, rfl, Stp.keepB H.out HS9.out.bel (HREL.out 4 T (by simp))⟩
    | true =>
      obtain ⟨al, y0, y1, y2, y3, y4, y5, y6⟩ := ask_cells HS9.out.ask
      have l9 := range_of HS9.out.ent
      have xl := lH HS9.out.ent
      go_wp2_with (refine wpList_load_mid rfl 74 _ rfl w3.heap.size 0 rfl C.toList _ l9 rfl rfl hI5 ?_)
      refine (HTKU.out _).mono ?_
      rintro e w10 ⟨rfl, hb⟩
      have HS10 := Hd (HS9.out.below hb)
      have HD10 := Hd ((hb.block _ (lH HD9.out)).trans HD9.out)
      clear hb HS9 HD9 al y0 y1 y2 y3 y4 y5 y6 l9 xl
      cases q3 with
      | false =>
        go_wp2
        go_ret
        exact ⟨2, rfl, Stp.keepB H.out HS10.out.bel (HREL.out 2 T (by simp))⟩
      | true =>
        obtain ⟨al, y0, y1, y2, y3, y4, y5, y6⟩ := ask_cells HS10.out.ask
        obtain ⟨zl, z0, z1, z2, z3, z4, z5, z6, z7, z8, z9, z11, z18⟩ := ent_cells HD10.out HDE.out
        have l10 := range_of HD10.out
        go_wp2_with (refine wpList_load_guard rfl 74 _ rfl w6.heap.size 0 rfl D.toList _ l10 rfl rfl hI7 ?_)
        refine (HTK2.out _).mono ?_
        rintro e w11 ⟨rfl, hb⟩
        have HSN := Hd (HS10.out.below hb)
        have HDN := Hd ((hb.block _ (lH HD10.out)).trans HD10.out)
        clear hb HS10 HD10 al y0 y1 y2 y3 y4 y5 y6 zl z0 z1 z2 z3 z4 z5 z6 z7 z8 z9 z11 z18 l10
        cases q4 with
        | false =>
          go_wp2
          go_ret
          exact ⟨2, rfl, Stp.keepB H.out HSN.out.bel (HREL.out 2 T (by simp [HTO.out]))⟩
        | true =>
          obtain ⟨xl, x0, x1, x2, x3, x4, x5, x6, x7, x8, x9, x11, x18⟩ := ent_cells HSN.out.ent HCE.out
          obtain ⟨zl, z0, z1, z2, z3, z4, z5, z6, z7, z8, z9, z11, z18⟩ := ent_cells HDN.out HDE.out
          go_wp2_with fail
          refine (move_any (H.out.mv ((Mv.refl H.out.rep).below HSN.out.bel)) d0 a0 (tx nmx) (tx nmy)).mono ?_
          rintro e wz ⟨r, rfl, hs⟩
          have HS := Hd (Stp.pre ((Mv.refl H.out.rep).below HSN.out.bel) hs)
          clear hs
          go_wp2
          go_ret
          refine ⟨r, rfl, HS.out.imp fun T' hT' => HREL.out r T' ?_⟩
          rw [HD0.out, HA0.out, bs_tx, bs_tx, Int.toNat_natCast, Int.toNat_natCast] at hT'
          simp only [HTO.out, ne_eq, not_true_eq_false, not_false_eq_true, and_false, false_and, or_self, or_false, false_or, if_false, Bool.true_eq_false, Bool.false_eq_true]
          exact hT'
theorem walkRename_any {w : World} {t : Nat} {S : Tab} {T : IT.Tr} (h : Tre w t S T) (hb : HB T 1000000) (cwd : Int) (c : Cr) (s ar : ByteArray) :
  Calls Tryz.prog 24 #[.pointer (some ⟨t, 0, none⟩), .int .i64 cwd, cred c, .string s, .string ar] w fun e w' => ∃ r, e = .returned (.int .i64 r) ∧ Stp w t S (fun T' => isRename T c cwd (bs s) (bs ar) r T') w' := by
 have H := Hd h
 have HH := Hd hb
 obtain ⟨C, r0, d0, d1, d2, d3, d4, d5, d6, d7, g0, g1, g2, g3, g4, g5, g6, g7, nm, must, is, hC, hc, hE⟩ := wentry_all h cwd c s
 have HCE := Hd hC
 have HC := Hd hc
 have HEE := Hd hE
 have HCS : Hid (C.size = 19) := Hd (by rw [hC]; rfl)
 have HC1 : Hid (C.all (·.oneCell') = true) := Hd (by rw [hC]; exact entG_one)
 obtain ⟨E1, hE1⟩ : ∃ E1, entryT T c cwd (bs s) = E1 := ⟨_, rfl⟩
 rw [hE1] at HEE
 have HE1 := Hd hE1
 clear h hb hC hc hE hE1
 unfold cred
 unfold ask at HC
 have hzE : zeroE = #[.int .i64 0, .int .i64 0, .int .i64 0, .int .i64 0, .int .i64 0, .int .i64 0, .int .i64 0, .int .i64 0, .string ⟨#[]⟩, .bool false, .int .i64 0, .int .i64 0, .int .i64 0, .int .i64 0, .int .i64 0, .int .i64 0, .int .i64 0, .int .i64 0, .bool false] := rfl
 have HZE := Hd hzE
 clear hzE
 by_cases hz : r0 = 0
 case neg =>
  have hz1 : (r0 != 0) = true := by simpa using hz
  have HR0 : Hid (E1 = .error r0) := Hd (by
   cases E1 with
   | error e => rw [HEE.out.1]
   | ok x => exact absurd HEE.out.1 hz)
  clear hz HEE
  go_enter Tryz.func24, Tryz.ntmps24
  go_wp2_with fail
  refine (HC.out _ (bZ (bZ (Below.refl _ _) _) _)).mono ?_
  rintro e w3 ⟨rfl, hb⟩
  have HB := Hd (two_below hb)
  obtain ⟨W5, hW5, s1, s2, hT⟩ := stored_ez (w3 := w3) HCS.out
  have hI : (Tryz.prog.info? 74).map (·.size) = some C.size := by rw [HCS.out]; rfl
  have h1C := HC1.out
  rw [HZE.out] at hW5 hT
  clear hb HC
  go_wp2_with (refine wpList_store_mid rfl 74 _ _ rfl w3.heap.size 0 C rfl rfl hT hI h1C ?_; rw [hW5])
  go_ret
  refine ⟨r0, rfl, Stp.keepB H.out (HB.out.trans (s2.mono HB.out.size)) ?_⟩
  unfold isRename
  rw [HE1.out, HR0.out]
  exact ⟨rfl, rfl⟩
 case pos =>
  subst hz
  cases E1 with
  | error e => exact absurd rfl HEE.out.2
  | ok x =>
    obtain ⟨k, nmx, mustx, tg⟩ := x
    obtain ⟨_, rfl, rfl, his, m, hm, hd0, hmay, htk⟩ := HEE.out
    dsimp only at his hm hd0 hmay htk
    have HM := Hd hm
    have HD0 := Hd hd0
    have HMY := Hd hmay
    have HTKS := Hd htk
    clear HEE hm hd0 hmay htk
    cases tg with
    | none =>
      obtain rfl : is = false := his
      go_enter Tryz.func24, Tryz.ntmps24
      go_wp2_with fail
      refine (HC.out _ (bZ (bZ (Below.refl _ _) _) _)).mono ?_
      rintro e w3 ⟨rfl, hb⟩
      have HB := Hd (two_below hb)
      rw [aZ, aZ] at hb
      obtain ⟨_, ba1, hlt, _⟩ := two_blocks hb
      obtain ⟨W5, hW5, s15, s25, hT5⟩ := stored_ez (w3 := w3) HCS.out
      have hI5 : (Tryz.prog.info? 74).map (·.size) = some C.size := by rw [HCS.out]; rfl
      have h1C5 := HC1.out
      rw [HZE.out] at hW5 hT5
      have x18 : W5.cell? ⟨w3.heap.size, 18, none⟩ = some (.bool false) := (cO s15 18).trans (by rw [HCE.out]; rfl)
      clear hb HC
      go_wp2_with (refine wpList_store_mid rfl 74 _ _ rfl w3.heap.size 0 C rfl rfl hT5 hI5 h1C5 ?_; rw [hW5])
      go_ret
      refine ⟨3, rfl, Stp.keepB H.out (HB.out.trans (s25.mono HB.out.size)) ?_⟩
      unfold isRename
      rw [HE1.out]
      exact ⟨rfl, rfl⟩
    | some j =>
      obtain rfl : is = true := his
      obtain ⟨q, hq, rfl, htk⟩ := HTKS.out j rfl
      have HQ := Hd hq
      have HTK := Hd htk
      clear HTKS hq htk
      obtain ⟨D, r1, a0, a1, a2, a3, a4, a5, a6, a7, b0, b1, b2, b3, b4, b5, b6, b7, nm2, must2, is2, hD, hc2, hEE2⟩ := wentry_all H.out cwd c ar
      have HDE := Hd hD
      have HC2 := Hd hc2
      have HDS : Hid (D.size = 19) := Hd (by rw [hD]; rfl)
      have HD1 : Hid (D.all (·.oneCell') = true) := Hd (by rw [hD]; exact entG_one)
      obtain ⟨E2, hE2⟩ : ∃ E2, entryT T c cwd (bs ar) = E2 := ⟨_, rfl⟩
      rw [hE2] at hEE2
      have HEE2 := Hd hEE2
      have HE2 := Hd hE2
      clear hD hc2 hEE2 hE2
      unfold ask at HC2
      by_cases hz : r1 = 0
      case neg =>
       have hz1 : (r1 != 0) = true := by simpa using hz
       have HR1 : Hid (E2 = .error r1) := Hd (by
        cases E2 with
        | error e => rw [HEE2.out.1]
        | ok x => exact absurd HEE2.out.1 hz)
       clear hz HEE2
       go_enter Tryz.func24, Tryz.ntmps24
       go_wp2_with fail
       refine (HC.out _ (bZ (bZ (Below.refl _ _) _) _)).mono ?_
       rintro e w3 ⟨rfl, hb⟩
       have HB := Hd (two_below hb)
       rw [aZ, aZ] at hb
       obtain ⟨_, ba1, hlt, _⟩ := two_blocks hb
       obtain ⟨W5, hW5, s15, s25, hT5⟩ := stored_ez (w3 := w3) HCS.out
       have hI5 : (Tryz.prog.info? 74).map (·.size) = some C.size := by rw [HCS.out]; rfl
       have h1C5 := HC1.out
       rw [HZE.out] at hW5 hT5
       have HS5 : Hid (RS w W5 t cwd c w3.heap.size C) := Hd ⟨HB.out.trans (s25.mono HB.out.size), (s25.block _ hlt).trans ba1, s15⟩
       have x18 : W5.cell? ⟨w3.heap.size, 18, none⟩ = some (.bool true) := (cO s15 18).trans (by rw [HCE.out]; rfl)
       obtain ⟨al, y0, y1, y2, y3, y4, y5, y6⟩ := ask_cells HS5.out.ask
       clear hb HC ba1 hlt
       go_wp2_with (refine wpList_store_mid rfl 74 _ _ rfl w3.heap.size 0 C rfl rfl hT5 hI5 h1C5 ?_; rw [hW5])
       refine (HC2.out _ HS5.out.bel).mono ?_
       rintro e w6 ⟨rfl, hb6⟩
       have HS6 := Hd (HS5.out.below hb6)
       obtain ⟨W7, hW7, s17, s27, hT7⟩ := stored_ez (w3 := w6) HDS.out
       have hI7 : (Tryz.prog.info? 74).map (·.size) = some D.size := by rw [HDS.out]; rfl
       have h1C7 := HD1.out
       rw [HZE.out] at hW7 hT7
       clear hb6 HC2 y0 y1 y2 y3 y4 y5 y6 al x18 HS5
       go_wp2_with (refine wpList_store_mid rfl 74 _ _ rfl w6.heap.size 0 D rfl rfl hT7 hI7 h1C7 ?_; rw [hW7])
       go_ret
       refine ⟨r1, rfl, Stp.keepB H.out (HS6.out.bel.trans (s27.mono HS6.out.bel.size)) ?_⟩
       unfold isRename
       rw [HE1.out]
       dsimp only
       rw [HE2.out, HR1.out]
       exact ⟨rfl, rfl⟩
      case pos =>
       subst hz
       cases E2 with
       | error e => exact absurd rfl HEE2.out.2
       | ok y =>
         obtain ⟨k2, nmy, musty, tg2⟩ := y
         obtain ⟨_, _, hmu2, his2, n, hn, ha0, hmay2, htk2⟩ := HEE2.out
         dsimp only at his2 hn hmu2
         subst hmu2
         by_cases hkd : q.kind = 1
         · have hmu : (must = true ∧ q.kind = 1) ∨ (must = false ∧ must2 = true ∧ q.kind = 1) ∨ (must = false ∧ must2 = false) := by
            cases must <;> cases must2 <;> simp [hkd]
           cases tg2 with
           | none => exact wren_n H.out HH.out cwd c s ar HE1.out HE2.out HQ.out hmu
           | some j2 => exact wren_s H.out HH.out cwd c s ar HE1.out HE2.out HQ.out hmu
         · by_cases hno : must = false ∧ must2 = false
           · cases tg2 with
             | none => exact wren_n H.out HH.out cwd c s ar HE1.out HE2.out HQ.out (.inr (.inr hno))
             | some j2 => exact wren_s H.out HH.out cwd c s ar HE1.out HE2.out HQ.out (.inr (.inr hno))
           · have HREL : Hid (isRename T c cwd (bs s) (bs ar) 6 T) := Hd (by
              unfold isRename
              rw [HE1.out]
              dsimp only
              rw [HE2.out]
              refine ⟨m, q, n, HM.out, HQ.out, hn, ?_⟩
              rw [if_pos ⟨by cases must <;> cases must2 <;> simp_all, hkd⟩]
              exact ⟨rfl, rfl⟩)
             have kd : (q.kind == 1) = false := by simpa using hkd
             clear HEE2 his2 hn ha0 hmay2 htk2 hkd HM HD0 HMY HTK
             cases must <;> cases must2 <;> first | (exact absurd ⟨rfl, rfl⟩ hno) | skip
             all_goals
              clear hno
              go_enter Tryz.func24, Tryz.ntmps24
              go_wp2_with fail
              refine (HC.out _ (bZ (bZ (Below.refl _ _) _) _)).mono ?_
              rintro e w3 ⟨rfl, hb⟩
              have HB := Hd (two_below hb)
              rw [aZ, aZ] at hb
              obtain ⟨_, ba1, hlt, _⟩ := two_blocks hb
              obtain ⟨W5, hW5, s15, s25, hT5⟩ := stored_ez (w3 := w3) HCS.out
              have hI5 : (Tryz.prog.info? 74).map (·.size) = some C.size := by rw [HCS.out]; rfl
              have h1C5 := HC1.out
              rw [HZE.out] at hW5 hT5
              have HS5 : Hid (RS w W5 t cwd c w3.heap.size C) := Hd ⟨HB.out.trans (s25.mono HB.out.size), (s25.block _ hlt).trans ba1, s15⟩
              have x18 : W5.cell? ⟨w3.heap.size, 18, none⟩ = some (.bool true) := (cO s15 18).trans (by rw [HCE.out]; rfl)
              obtain ⟨al, y0, y1, y2, y3, y4, y5, y6⟩ := ask_cells HS5.out.ask
              clear hb ba1 hlt HC
              go_wp2_with (refine wpList_store_mid rfl 74 _ _ rfl w3.heap.size 0 C rfl rfl hT5 hI5 h1C5 ?_; rw [hW5])
              refine (HC2.out _ HS5.out.bel).mono ?_
              rintro e w6 ⟨rfl, hb6⟩
              have HS6 := Hd (HS5.out.below hb6)
              obtain ⟨W7, hW7, s17, s27, hT7⟩ := stored_ez (w3 := w6) HDS.out
              have hI7 : (Tryz.prog.info? 74).map (·.size) = some D.size := by rw [HDS.out]; rfl
              have h1C7 := HD1.out
              rw [HZE.out] at hW7 hT7
              have HS7 := Hd (HS6.out.below s27)
              clear hb6 y0 y1 y2 y3 y4 y5 y6 al x18 HS5 HC2 hT5 hW5 s15 s25
              obtain ⟨xl, x0, x1, x2, x3, x4, x5, x6, x7, x8, x9, x11, x18⟩ := ent_cells HS7.out.ent HCE.out
              obtain ⟨zl, z0, z1, z2, z3, z4, z5, z6, z7, z8, z9, z11, z18⟩ := ent_cells s17 HDE.out
              go_wp2_with (refine wpList_store_mid rfl 74 _ _ rfl w6.heap.size 0 D rfl rfl hT7 hI7 h1C7 ?_; rw [hW7])
              go_ret
              exact ⟨6, rfl, Stp.keepB H.out HS7.out.bel HREL.out⟩
end Go.Proofs.YtafonmnfeibaiaaGreat
namespace Go.Proofs.YtafonmnfeibaiaaGreat.Md
open Go.RowKit
theorem rmay_any (m owner group : Int) (dir : Bool) (uid gid want : Int) (hm : m < 9223372036854775808) (w : World) :
  Calls Tryz.prog 118 #[.int .i64 m, .int .i64 owner, .int .i64 group, .bool dir, .int .i64 uid, .int .i64 gid, .int .i64 want] w fun e w' => e = .returned (.bool (mayS m owner group dir uid gid want)) ∧ w' = w := by
 unfold mayS
 have HM := Hd hm
 clear hm
 by_cases hr : rightB m = true
 · by_cases h1 : want < 1
   · rw [if_pos (.inr (.inl h1))]
     go_enter Tryz.func118, Tryz.ntmps118
     go_wp2_with fail
     refine (rright_any _ HM.out _).mono ?_
     rintro e w' ⟨he, rfl⟩
     rw [hr] at he
     subst he
     clear hr
     go_wp2
     go_ret
     exact ⟨rfl, rfl⟩
   · by_cases h7 : 7 < want
     · rw [if_pos (.inr (.inr h7))]
       go_enter Tryz.func118, Tryz.ntmps118
       go_wp2_with fail
       refine (rright_any _ HM.out _).mono ?_
       rintro e w' ⟨he, rfl⟩
       rw [hr] at he
       subst he
       clear hr
       go_wp2
       go_ret
       exact ⟨rfl, rfl⟩
     · rw [if_neg (by rw [hr]; simp; omega)]
       obtain ⟨n, rfl, hn⟩ := right_nat hr
       obtain ⟨v, rfl⟩ : ∃ v : Nat, want = v := ⟨want.toNat, by omega⟩
       have a1 : bits .and .i64 (v : Int) 1 = ((v &&& 1 : Nat) : Int) := and_nat (b := 1) (by unfold big; omega) (by decide)
       have a2 : bits .and .i64 (n : Int) 73 = ((n &&& 73 : Nat) : Int) := and_nat (b := 73) (by unfold big; omega) (by decide)
       have a3 : ∀ y : Nat, y < big → (bits .and .i64 (bits .and .i64 (y : Int) 7) (v : Int) == (v : Int)) = ((v &&& y) == v) := fun y hy => by
        have h7 : bits .and .i64 (y : Int) 7 = ((y &&& 7 : Nat) : Int) := and_nat (b := 7) hy (by decide)
        have hle : y &&& 7 ≤ 7 := Nat.and_le_right
        rw [h7, and_nat (by unfold big; omega) (by unfold big; omega), cast_beq]
        have hv : v &&& 7 = v := by
         have := Nat.and_two_pow_sub_one_eq_mod v 3
         rw [show (2 ^ 3 - 1 : Nat) = 7 from rfl] at this
         rw [this]; omega
        rw [show (y &&& 7) &&& v = v &&& y by rw [Nat.and_assoc, Nat.and_comm 7 v, hv, Nat.and_comm]]
       rw [Int.toNat_natCast, Int.toNat_natCast]
       by_cases hu : uid = 0
       · rw [if_pos hu]
         subst hu
         have z1 := zero_beq (v &&& 1)
         have z2 := zero_beq (n &&& 73)
         rw [← z1, ← z2]
         clear a3 hn z1 z2
         generalize ((v &&& 1 : Nat) : Int) = x1 at *
         generalize ((n &&& 73 : Nat) : Int) = x2 at *
         go_enter Tryz.func118, Tryz.ntmps118
         go_wp2_with fail
         refine (rright_any _ HM.out _).mono ?_
         rintro e w' ⟨he, rfl⟩
         rw [hr] at he
         subst he
         clear hr
         go_upto_if 28 with fail
         have hb1 : decide ((v : Int) < 1) = false := decide_eq_false (by omega)
         have hb7 : decide (7 < (v : Int)) = false := decide_eq_false (by omega)
         simp only [hb1, hb7, Bool.or_false]
         clear hb1 hb7 HM h1 h7
         go_wp2
         all_goals go_ret
         all_goals refine ⟨?_, rfl⟩
         all_goals simp [*, bne]
       · rw [if_neg hu]
         have b0 : (bits .and .i64 (bits .and .i64 (n : Int) 7) (v : Int) == (v : Int)) = ((v &&& n) == v) := a3 n (by unfold big; omega)
         have b1 : (bits .and .i64 (bits .and .i64 ((n : Int) / 64) 7) (v : Int) == (v : Int)) = ((v &&& (n / 64)) == v) := by
          rw [show (n : Int) / 64 = ((n / 64 : Nat) : Int) by omega]; exact a3 _ (by unfold big; omega)
         have b2 : (bits .and .i64 (bits .and .i64 ((n : Int) / 8) 7) (v : Int) == (v : Int)) = ((v &&& (n / 8)) == v) := by
          rw [show (n : Int) / 8 = ((n / 8 : Nat) : Int) by omega]; exact a3 _ (by unfold big; omega)
         unfold yS
         by_cases ho : uid = owner
         · rw [if_pos ho, ← b1]
           clear a1 a2 a3 b0 b1 b2 hn
           subst ho
           go_enter Tryz.func118, Tryz.ntmps118
           go_wp2_with fail
           refine (rright_any _ HM.out _).mono ?_
           rintro e w' ⟨he, rfl⟩
           rw [hr] at he
           subst he
           clear hr
           go_upto_if 28 with fail
           have hb1 : decide ((v : Int) < 1) = false := decide_eq_false (by omega)
           have hb7 : decide (7 < (v : Int)) = false := decide_eq_false (by omega)
           simp only [hb1, hb7, Bool.or_false]
           clear hb1 hb7 HM h1 h7
           go_wp2
           go_ret
           exact ⟨rfl, rfl⟩
         · rw [if_neg ho]
           by_cases hg : gid = group
           · rw [if_pos hg, ← b2]
             clear a1 a2 a3 b0 b1 b2 hn
             subst hg
             go_enter Tryz.func118, Tryz.ntmps118
             go_wp2_with fail
             refine (rright_any _ HM.out _).mono ?_
             rintro e w' ⟨he, rfl⟩
             rw [hr] at he
             subst he
             clear hr
             go_upto_if 28 with fail
             have hb1 : decide ((v : Int) < 1) = false := decide_eq_false (by omega)
             have hb7 : decide (7 < (v : Int)) = false := decide_eq_false (by omega)
             simp only [hb1, hb7, Bool.or_false]
             clear hb1 hb7 HM h1 h7
             go_wp2
             go_ret
             exact ⟨rfl, rfl⟩
           · rw [if_neg hg, ← b0]
             clear a1 a2 a3 b0 b1 b2 hn
             go_enter Tryz.func118, Tryz.ntmps118
             go_wp2_with fail
             refine (rright_any _ HM.out _).mono ?_
             rintro e w' ⟨he, rfl⟩
             rw [hr] at he
             subst he
             clear hr
             go_upto_if 28 with fail
             have hb1 : decide ((v : Int) < 1) = false := decide_eq_false (by omega)
             have hb7 : decide (7 < (v : Int)) = false := decide_eq_false (by omega)
             simp only [hb1, hb7, Bool.or_false]
             clear hb1 hb7 HM h1 h7
             go_wp2
             go_ret
             exact ⟨rfl, rfl⟩
 · have hr2 : rightB m = false := by simpa using hr
   rw [if_pos (.inl hr2)]
   go_enter Tryz.func118, Tryz.ntmps118
   go_wp2_with fail
   refine (rright_any _ HM.out _).mono ?_
   rintro e w' ⟨he, rfl⟩
   rw [hr2] at he
   subst he
   clear hr hr2
   go_wp2
   go_ret
   exact ⟨rfl, rfl⟩
end Go.Proofs.YtafonmnfeibaiaaGreat.Md
namespace Go.Proofs.YtafonmnfeibaiaaGreat.Pp
open Go.RowKit
def Sl (w : World) (v : Value) (l : List ByteArray) : Prop :=
 ∃ a cap, v = .slice a l.length cap ∧ ∀ j (h : j < l.length), ∃ b off, a = some ⟨b, off, none⟩ ∧ w.cell? ⟨b, off + j, none⟩ = some (.string l[j])
theorem Sl.of_own {w : World} {base : Nat} {v : Value} {l : List ByteArray} (h : w.ownsRow base 9 1 v l.length (l.map .string)) : Sl w v l := by
 obtain ⟨_, ⟨rfl, h0⟩ | ⟨g, cap, cur, rfl, hb, hh, hn, hc, hs, ht⟩⟩ := h
 · exact ⟨none, 0, by rw [h0], fun j hj => by omega⟩
 · refine ⟨_, cap, rfl, fun j hj => ⟨g, 0, rfl, ?_⟩⟩
   have h1 : (l.map Value.string)[j]? = some (.string l[j]) := by simp [hj]
   rw [← ht, List.getElem?_take] at h1
   rw [if_pos (by omega)] at h1
   simpa [World.cell?, hh] using h1
def PartsAt (s : ByteArray) (k f : Nat) (l : List ByteArray) : Prop :=
 f ≤ k ∧ parts s.data.toList = l.map (fun x => x.data.toList) ++ partsA (s.data.toList.drop k) ((s.data.toList.take k).drop f).reverse
theorem PartsAt.start (s : ByteArray) : PartsAt s 0 0 [] := ⟨Nat.le_refl _, by simp [parts]⟩
theorem PartsAt.piece {s : ByteArray} {k f : Nat} (hf : f ≤ k) (hk : k ≤ s.size) : ((s.data.toList.take k).drop f = [] ↔ f = k) := by
 rw [List.drop_eq_nil_iff, List.length_take, sz]; omega
theorem PartsAt.go {s : ByteArray} {k f : Nat} {l : List ByteArray} (h : PartsAt s k f l) (hk : k < s.size) (hc : s[k] ≠ 47) : PartsAt s (k + 1) f l := by
 obtain ⟨h1, h2⟩ := h
 refine ⟨by omega, ?_⟩
 have hkl : k < s.data.toList.length := by rw [sz]; exact hk
 have hg : s.data.toList[k] = s[k] := by rw [toList_get, data_get s k hk]
 have hfl : f ≤ (s.data.toList.take k).length := by rw [List.length_take, sz]; omega
 rw [h2, List.drop_eq_getElem_cons hkl, hg, List.take_succ_eq_append_getElem hkl, hg, List.drop_append_of_le_length hfl]
 simp [partsA, hc]
theorem PartsAt.skip {s : ByteArray} {k : Nat} {l : List ByteArray} (h : PartsAt s k k l) (hk : k < s.size) (hc : s[k] = 47) : PartsAt s (k + 1) (k + 1) l := by
 obtain ⟨h1, h2⟩ := h
 refine ⟨by omega, ?_⟩
 have hkl : k < s.data.toList.length := by rw [sz]; exact hk
 have hg : s.data.toList[k] = s[k] := by rw [toList_get, data_get s k hk]
 have e1 : (s.data.toList.take k).drop k = [] := (PartsAt.piece (Nat.le_refl _) (by omega)).2 rfl
 have e2 : (s.data.toList.take (k + 1)).drop (k + 1) = [] := (PartsAt.piece (Nat.le_refl _) (by omega)).2 rfl
 rw [h2, List.drop_eq_getElem_cons hkl, hg, hc, e1, e2]
 simp [partsA]
theorem PartsAt.add {s : ByteArray} {k f : Nat} {l : List ByteArray} (h : PartsAt s k f l) (hk : k < s.size) (hc : s[k] = 47) (hf : f < k) : PartsAt s (k + 1) (k + 1) (l ++ [s.extract f k]) := by
 obtain ⟨h1, h2⟩ := h
 refine ⟨by omega, ?_⟩
 have hkl : k < s.data.toList.length := by rw [sz]; exact hk
 have hg : s.data.toList[k] = s[k] := by rw [toList_get, data_get s k hk]
 have e1 : ¬ (s.data.toList.take k).drop f = [] := fun e => by have := (PartsAt.piece h1 (by omega)).1 e; omega
 have e2 : (s.data.toList.take (k + 1)).drop (k + 1) = [] := (PartsAt.piece (Nat.le_refl _) (by omega)).2 rfl
 rw [h2, List.drop_eq_getElem_cons hkl, hg, hc, e2, List.map_append]
 simp only [partsA, if_true, List.reverse_eq_nil_iff, e1, if_false, List.map_cons, List.map_nil, List.reverse_nil, List.reverse_reverse, List.append_assoc, List.cons_append, List.nil_append]
 rw [ex_data]
theorem PartsAt.all {s : ByteArray} {l : List ByteArray} (h : PartsAt s s.size s.size l) : parts s.data.toList = l.map (fun x => x.data.toList) := by
 have e : (s.data.toList.take s.size).drop s.size = [] := (PartsAt.piece (Nat.le_refl _) (Nat.le_refl _)).2 rfl
 rw [h.2, e, List.drop_of_length_le (by rw [sz]; exact Nat.le_refl _)]
 simp [partsA]
theorem PartsAt.end {s : ByteArray} {f : Nat} {l : List ByteArray} (h : PartsAt s s.size f l) (hf : f < s.size) : parts s.data.toList = (l ++ [s.extract f s.size]).map (fun x => x.data.toList) := by
 have e : ¬ (s.data.toList.take s.size).drop f = [] := fun e => by have := (PartsAt.piece h.1 (Nat.le_refl _)).1 e; omega
 rw [h.2, List.drop_of_length_le (by rw [sz]; exact Nat.le_refl _)]
 simp only [partsA, List.reverse_eq_nil_iff, e, if_false, List.map_append, List.map_cons, List.map_nil, List.reverse_reverse]
 rw [ex_data]
def NewStrs (w : World) (l : List ByteArray) (e : Ending) (w' : World) : Prop :=
 ∃ v, e = .returned v ∧ w'.ownsRow w.heap.size 9 1 v l.length (l.map .string) ∧ Below w.heap.size w w'
def partsPost (s : ByteArray) (w : World) (e : Ending) (w' : World) : Prop := ∃ l, parts s.data.toList = l.map (fun x => x.data.toList) ∧ NewStrs w l e w'
theorem parts_any (s : ByteArray) (w : World) (hs : s.size ≤ 1048576) : Calls Tryz.prog 117 #[.string s] w (partsPost s w) := by
 obtain ⟨i0, hi, hz0, hz1, hz2⟩ := info_parts info9
 have hs1 : (s.size : Int) ≤ 1048576 := by omega
 go_enter Tryz.func117, Tryz.ntmps117
 go_wp2
 go_loopw [3, 4, 5] (fun o f i wr => ∃ (k f' : Nat) (l : List ByteArray), i = .int .i64 k ∧ f = .int .i64 f' ∧ l.length ≤ k ∧ Below w.heap.size w wr ∧ wr.ownsRow w.heap.size 9 1 o l.length (l.map .string) ∧ ((k ≤ s.size ∧ f' ≤ k ∧ PartsAt s k f' l) ∨ (k = s.size + 1 ∧ f' ≤ k ∧ parts s.data.toList = l.map (fun x => x.data.toList)))) (fun _ _ i _ => s.size + 1 - (intOf i).toNat)
 case atStart => exact ⟨0, 0, [], rfl, rfl, Nat.zero_le _, Below.refl _ _, ⟨rfl, .inl ⟨rfl, rfl⟩⟩, .inl ⟨Nat.zero_le _, Nat.le_refl _, PartsAt.start s⟩⟩
 case round =>
  obtain ⟨k, f, l, rfl, rfl, hl, hb, ho, hr⟩ := hrel
  have HB := Hd hb
  have HO := Hd ho
  clear hb ho
  rcases hr with ⟨hk, hf, hp⟩ | ⟨hk, hf, hp⟩
  · have HP := Hd hp
    clear hp
    by_cases hlt : k < s.size
    · by_cases hc : s[k] = 47
      · have hcb : ((s[k].toNat : Int) == 47) = true := by rw [hc]; rfl
        have HC := Hd hc
        clear hc
        by_cases hfk : f < k
        · have hfk1 : (f : Int) < k := by omega
          go_wp2_with (at_builtin; refine wpList_append_own _ rfl _ _ 52 rfl w.heap.size 9 i0 (.string ByteArray.empty) 1 16 Tryz.underlying52 hi hz0 hz1 hz2 rfl (by decide) _ _ _ rfl (HO.out.alloc _) ⟨wr.heap.size, 0, none⟩ 1 1 [.string (s.extract f k)] rfl rfl (cell_one_new _ _ _) (by simp [Value.oneCell']) (by unfold maxLen; omega) (by omega) (by have := HB.out.size; simp; omega) ?_; intro v' w1 hown' hgrow _)
          have HB1 := Hd (app_below HB.out HO.out _ hgrow)
          have HO1 := Hd hown'
          clear hgrow hown'
          go_wp2
          go_roundw
          case rel => exact ⟨k + 1, k + 1, l ++ [s.extract f k], by go_num, by go_num, by simp; omega, HB1.out, by simpa using HO1.out, .inl ⟨by omega, Nat.le_refl _, HP.out.add hlt HC.out hfk⟩⟩
          case measure => simp [intOf]; omega
        · obtain rfl : f = k := by omega
          go_wp2
          go_roundw
          case rel => exact ⟨f + 1, f + 1, l, by go_num, by go_num, by omega, HB.out, HO.out, .inl ⟨by omega, Nat.le_refl _, HP.out.skip hlt HC.out⟩⟩
          case measure => simp [intOf]; omega
      · have hcb : ((s[k].toNat : Int) == 47) = false := by
         simp; exact fun h => hc (UInt8.toNat_inj.1 (by have e : (47 : UInt8).toNat = 47 := rfl; omega))
        have HC := Hd hc
        clear hc
        go_wp2
        go_roundw
        case rel => exact ⟨k + 1, f, l, by go_num, rfl, by omega, HB.out, HO.out, .inl ⟨by omega, by omega, HP.out.go hlt HC.out⟩⟩
        case measure => simp [intOf]; omega
    · obtain rfl : k = s.size := by omega
      by_cases hfk : f < s.size
      · have hfk1 : (f : Int) < s.size := by omega
        go_wp2_with (at_builtin; refine wpList_append_own _ rfl _ _ 52 rfl w.heap.size 9 i0 (.string ByteArray.empty) 1 16 Tryz.underlying52 hi hz0 hz1 hz2 rfl (by decide) _ _ _ rfl (HO.out.alloc _) ⟨wr.heap.size, 0, none⟩ 1 1 [.string (s.extract f s.size)] rfl rfl (cell_one_new _ _ _) (by simp [Value.oneCell']) (by unfold maxLen; omega) (by omega) (by have := HB.out.size; simp; omega) ?_; intro v' w1 hown' hgrow _)
        have HB1 := Hd (app_below HB.out HO.out _ hgrow)
        have HO1 := Hd hown'
        clear hgrow hown'
        go_wp2
        go_roundw
        case rel => exact ⟨s.size + 1, s.size + 1, l ++ [s.extract f s.size], by go_num, by go_num, by simp; omega, HB1.out, by simpa using HO1.out, .inr ⟨rfl, Nat.le_refl _, HP.out.end hfk⟩⟩
        case measure => simp [intOf]
      · obtain rfl : f = s.size := by omega
        go_wp2
        go_roundw
        case rel => exact ⟨s.size + 1, s.size + 1, l, by go_num, by go_num, by omega, HB.out, HO.out, .inr ⟨rfl, Nat.le_refl _, HP.out.all⟩⟩
        case measure => simp [intOf]
  · subst hk
    have HP := Hd hp
    clear hp
    go_wp2
    go_ret
    exact ⟨l, HP.out, _, rfl, HO.out, HB.out⟩
theorem belowN {n : Nat} {w W : World} (h : Below n w W) (k : Nat) : Below n w (W.drewN k) := h.trans ⟨rfl, rfl, rfl, Nat.le_refl _, fun _ _ => rfl⟩
theorem at_new (w : World) (o : Obj) : (w.alloc o).heap[w.heap.size]? = some o := by
 show (w.heap.push o)[w.heap.size]? = some o
 simp
theorem own_new (w : World) (cs : Array Value) (base n B : Nat) (hB : w.heap.size = B) (hb : base ≤ w.heap.size) (hn : cs.size = n) (hm : n ≤ maxLen) :
  (w.alloc (.cells cs 9)).ownsRow base 9 1 (.slice (some ⟨B, 0, none⟩) n n) n cs.toList :=
 hB ▸ ⟨by simp [hn], .inr ⟨w.heap.size, n, cs, rfl, hb, at_new _ _, Nat.le_refl _, hm, by omega, by rw [List.take_of_length_le (by simp [hn])]⟩⟩
theorem own_drew {w : World} {base n : Nat} {v : Value} {xs : List Value} (h : w.ownsRow base 9 1 v n xs) : w.drew.ownsRow base 9 1 v n xs := own_same h fun _ _ _ h => h
theorem partsA_len : ∀ (l acc : Bytes), (partsA l acc).length ≤ l.length + 1
 | [], acc => by by_cases e : acc = [] <;> simp [partsA, e]
 | c :: l, acc => by
   by_cases hc : c = 47
   · have := partsA_len l []
     by_cases e : acc = []
     · simp only [partsA, hc, e, if_true, List.length_cons]; omega
     · simp only [partsA, hc, e, if_true, if_false, List.length_cons]; omega
   · have := partsA_len l (c :: acc)
     simp only [partsA, hc, if_false, List.length_cons]; omega
theorem run_app_row {P : Program} (w : World) (t ty : TypeId) (base : Nat) (e : TypeId) (i : TypeInfo) (z : Value) (bytes : Nat) (ht : P.underlying t = some (.slice e)) (hi : P.info? e = some i) (hz : i.zero = some z)
  (hsize : i.size = 1) (hby : i.bytes = bytes) (hzs : z.cells.size = 1)
  (v : Value) (n : Nat) (xs : List Value) (hown : w.ownsRow base e 1 v n xs)
  (bu : Nat) (u : Value) (m : Nat) (news : List Value) (hu : w.ownsRow bu e 1 u m news) (h1 : ∀ u ∈ news, u.oneCell' = true)
  (h63 : n + m ≤ maxLen) (hbytes : (n + m) * bytes ≤ 140737488355328) (hbase : base ≤ w.heap.size) :
  ∃ v' w', (Builtin.append_ #[t, t] ty #[v, u]).run P w = .ok v' w' ∧ w'.ownsRow base e 1 v' (n + m) (xs ++ news) ∧ w.grownBy w' v.ownBlock := by
 rcases hu.2 with ⟨rfl, h0⟩ | ⟨g, cap, cur, rfl, hb, hh, hn, hc, hs, htk⟩
 · subst h0
   have hnil : news = [] := List.eq_nil_of_length_eq_zero (by rw [hu.1])
   subst hnil
   exact ⟨v, w, run_append_owned_none (P := P) w base t ty e i 1 ht hi v n xs hown, by simpa using hown, World.grownBy.refl _ _⟩
 · obtain ⟨v', w', hr, h2, h3, _, _⟩ := run_append_own_at (P := P) w base t ty e i z 1 bytes ht hi hz hsize hby hzs (by decide) v n xs hown ⟨g, 0, none⟩ m cap news hu.1 (hu.cells rfl) h1 h63 hbytes hbase
   exact ⟨v', w', hr, h2, h3⟩
theorem step_app_row {P : Program} {w : World} {ops : Array Oper} {o : Oper} {a : Act} {K : Act → World → Prop} {Q : Exit → Act → World → Prop} {E : Prop} (hgd : o.guard = none) (s x : Operand) (t : TypeId)
  (ho : o.op = .call { callee := .builtin .append, args := #[s, x], argTypes := #[t, t] })
  (base : Nat) (e : TypeId) (i : TypeInfo) (z : Value) (bytes : Nat) (ht : P.underlying t = some (.slice e)) (hi : P.info? e = some i) (hz : i.zero = some z)
  (hsize : i.size = 1) (hby : i.bytes = bytes) (hzs : z.cells.size = 1)
  (v : Value) (n : Nat) (xs : List Value) (hs : a.eval s = v) (hown : w.ownsRow base e 1 v n xs)
  (bu : Nat) (u : Value) (m : Nat) (news : List Value) (hx : a.eval x = u) (hu : w.ownsRow bu e 1 u m news) (h1 : ∀ u ∈ news, u.oneCell' = true)
  (h63 : n + m ≤ maxLen) (hbytes : (n + m) * bytes ≤ 140737488355328) (hbase : base ≤ w.heap.size)
  (h : ∀ v' w', w'.ownsRow base e 1 v' (n + m) (xs ++ news) → w.grownBy w' v.ownBlock → Below base w w' → K (a.put o.dst v') w') :
  if Region.wanted o (yielded ops a.tmps) = true then Oper.wp P o a w K Q else E := by
 have hw : Region.wanted o (yielded ops a.tmps) = true := by simp [Region.wanted, hgd]
 rw [if_pos hw]
 obtain ⟨v', w', hr, h2, h3⟩ := run_app_row (P := P) w t o.type base e i z bytes ht hi hz hsize hby hzs v n xs hown bu u m news hu h1 h63 hbytes hbase
 unfold Oper.wp execOp
 simp only [ho, resolve, invoke, builtin, Sem.run_bind, Sem.run_pure, Result.andThen_ok, List.map_toArray, List.map_cons, List.map_nil, hs, hx, hr]
 exact h v' w' h2 h3 ((Below.refl _ _).grown h3 hbase (own_ge hown))
theorem suffix_last (d : ByteArray) (h0 : ¬ d.data.toList = []) : Lib.hasSuffix d.data.toList [47] = decide (d.data[d.size - 1]! = 47) := by
 have hz : 0 < d.size := by rw [← sz]; exact List.length_pos_iff.2 h0
 have hlast : d.data.toList.getLast h0 = d.data[d.size - 1]! := by
  rw [List.getLast_eq_getElem, toList_get]; simp
 rw [Bool.eq_iff_iff, decide_eq_true_eq, ← hlast]
 show List.isSuffixOf [47] d.data.toList = true ↔ _
 rw [List.isSuffixOf_iff_suffix]
 constructor
 · rintro ⟨t, ht⟩
   simp only [← ht, List.getLast_append, List.getLast_singleton]
   simp
 · intro h
   exact ⟨d.data.toList.dropLast, by rw [← h]; exact List.dropLast_concat_getLast h0⟩
abbrev Z25 : Obj := .cells #[.bool false, .slice none 0 0, .bool false] 138
theorem rsplit_zero {s : ByteArray} {w W : World} {err : Int} (hb : Below w.heap.size w W) (hs : splitS s.data.toList = (false, false, [], err)) : splitPost s w (.returned (.tuple #[.agg #[.bool false, .slice none 0 0, .bool false], .int .i64 err])) W :=
 ⟨false, false, .slice none 0 0, [], err, rfl, ⟨rfl, .inl ⟨rfl, rfl⟩⟩, hb, hs⟩
theorem leave11 {T : Array Value} {W : World} (n0 : Nat) {A D : Bool} {V : Value} {E : Int} (hT2 : T[2]? = some (.pointer (some ⟨n0, 0, none⟩))) (hT3 : T[3]? = some (.int .i64 E))
  (hres : W.heap[n0]? = some (.cells #[.bool A, V, .bool D] 138 (0, 0))) {R : Ending → World → Prop} (hV : ∃ a n c, V = .slice a n c)
  (hR : R (.returned (.tuple #[.agg #[.bool A, V, .bool D], .int .i64 E])) W) : bodyPost Tryz.prog Tryz.f89 R .ret { tmps := T, defers := [] } W := by
 obtain ⟨a, n, c, rfl⟩ := hV
 have c0 : W.cell? ⟨n0, 0, none⟩ = some (.bool A) := hZ hres 0
 have c1 : W.cell? ⟨n0, 1, none⟩ = some (.slice a n c) := hZ hres 1
 have c2 : W.cell? ⟨n0, 2, none⟩ = some (.bool D) := hZ hres 2
 exact bodyPost_ret (by simp [results, Tryz.results89, go_sem, hT2, hT3, c0, c1, c2]) rfl hR
theorem leave_zero {T : Array Value} {s : ByteArray} {w W : World} {E : Int} (hT2 : T[2]? = some (.pointer (some ⟨w.heap.size, 0, none⟩))) (hT3 : T[3]? = some (.int .i64 E))
  (h : W.heap[w.heap.size]? = some Z25) (hb : Below w.heap.size w W) (hs : splitS s.data.toList = (false, false, [], E)) :
  bodyPost Tryz.prog Tryz.f89 (splitPost s w) .ret { tmps := T, defers := [] }
   (((W.setCell ⟨w.heap.size, 0, none⟩ (.bool false)).setCell ⟨w.heap.size, 1, none⟩ (.slice none 0 0)).setCell ⟨w.heap.size, 2, none⟩ (.bool false)) :=
 leave11 w.heap.size (A := false) (D := false) (V := .slice none 0 0) hT2 hT3 (set_same (set_same (set_same h _) _) _) ⟨none, 0, 0, rfl⟩
  (rsplit_zero (((hb.setCell (Nat.le_refl _) _).setCell (Nat.le_refl _) _).setCell (Nat.le_refl _) _) hs)
structure PI (w1 : World) (A D : Bool) (v : Value) (xs : List ByteArray) (W : World) : Prop where
 b : Below w1.heap.size w1 W
 p : W.heap[w1.heap.size]? = some (.cells #[.bool A, v, .bool D] 138 (0, 0))
 n : W.ownsRow (w1.heap.size + 1) 9 1 v xs.length (xs.map .string)
theorem PI.lt {w1 W : World} {A D : Bool} {v : Value} {xs : List ByteArray} (h : PI w1 A D v xs W) : w1.heap.size < W.heap.size := by
 rcases Nat.lt_or_ge w1.heap.size W.heap.size with h1 | h1
 · exact h1
 · have := h.p; rw [Array.getElem?_eq_none h1] at this; cases this
theorem PI.drewN {w1 W : World} {A D : Bool} {v : Value} {xs : List ByteArray} (h : PI w1 A D v xs W) (z : Nat) : PI w1 A D v xs (W.drewN z) :=
 ⟨belowN h.b z, h.p, own_same h.n fun _ _ _ h => h⟩
theorem PI.start (w1 : World) (z : Nat) (A D : Bool) : PI w1 A D (.slice none 0 0) []
  (((((w1.drewN z).alloc (.cells #[.bool false, .slice none 0 0, .bool false] 138)).setCell ⟨w1.heap.size, 0, none⟩ (.bool A)).setCell ⟨w1.heap.size, 1, none⟩ (.slice none 0 0)).setCell ⟨w1.heap.size, 2, none⟩ (.bool D)) where
 b := ((((belowN (Below.refl _ _) z).alloc (Nat.le_refl _) _).setCell (Nat.le_refl _) _).setCell (Nat.le_refl _) _).setCell (Nat.le_refl _) _
 p := set_same (set_same (set_same (at_new (w1.drewN z) Z25) _) _) _
 n := ⟨rfl, .inl ⟨rfl, rfl⟩⟩
theorem PI.setD {w1 W : World} {A D : Bool} {v : Value} {xs : List ByteArray} (h : PI w1 A D v xs W) (D' : Bool) : PI w1 A D' v xs (W.setCell ⟨w1.heap.size, 2, none⟩ (.bool D')) where
 b := h.b.setCell (Nat.le_refl _) _
 p := set_same h.p _
 n := own_same h.n fun g o hg hh => sX hh _ (by omega)
theorem eq47 (x : UInt8) : ((x.toNat : Int) == 47) = decide (x = 47) := by
 by_cases h : x = 47
 · subst h; rfl
 · have : ¬ (x.toNat : Int) = 47 := fun e => h (by apply UInt8.toNat_inj.1; show x.toNat = 47; omega)
   simp [h, this]
theorem pre_first (s : ByteArray) (h : 0 < s.size) : Lib.hasPrefix s.data.toList [47] = ((s[0].toNat : Int) == 47) := by
 obtain ⟨⟨L⟩⟩ := s
 cases L with
 | nil => cases h
 | cons x r =>
   rw [eq47]
   show ((47 == x) && true) = decide (x = 47)
   by_cases e : x = 47
   · subst e; rfl
   · have : (47 == x) = false := by simpa using fun h => e h.symm
     simp [e, this]
theorem own_set {w : World} {n i : Nat} {v u : Value} {m : Nat} {xs : List Value} (h : w.ownsRow (n + 1) 9 1 v m xs) : (w.setCell ⟨n, i, none⟩ u).ownsRow (n + 1) 9 1 v m xs :=
 own_same h fun _ _ _ hh => sX hh _ (by omega)
theorem own_form {w : World} {base n : Nat} {v : Value} {xs : List Value} (h : w.ownsRow base 9 1 v n xs) : ∃ a c, v = .slice a n c := by
 rcases h.2 with ⟨rfl, h0⟩ | ⟨g, cap, cur, rfl, _⟩
 · subst h0; exact ⟨_, _, rfl⟩
 · exact ⟨_, _, rfl⟩
theorem blk5 {n : Nat} {wr w5 : World} {X : Obj} {o : Obj} (hb : Below (n + 1) (wr.alloc X).drew w5) (hn : n < wr.heap.size) (h : wr.heap[n]? = some o) : w5.heap[n]? = some o := by
 rw [hb.block n (by omega)]
 show (wr.alloc X).heap[n]? = _
 rw [Below.heap_alloc _ _ _ hn]; exact h
theorem rsplit_any (s : ByteArray) (w : World) (hs : s.size ≤ 1048576) : Calls Tryz.prog 89 #[.string s] w (splitPost s w) := by
 by_cases h0 : s.data.toList = []
 · have h1 : s.toList = [] := by rw [tQ]; exact h0
   have HF : Hid (splitS s.data.toList = (false, false, [], 3)) := Hd (by rw [splitS, if_pos h0])
   clear h0
   go_enter Tryz.func89, Tryz.ntmps89
   go_wp2
   exact bodyPost_ret (v := .tuple #[.agg #[.bool false, .slice none 0 0, .bool false], .int .i64 3]) (by simp [results, Tryz.results89, go_sem]) rfl (rsplit_zero ((Below.refl _ _).alloc (Nat.le_refl _) _) HF.out)
 have h1 : s.toList.isEmpty = false := by rw [tQ]; cases hh : s.data.toList with | nil => exact absurd hh h0 | cons => rfl
 have HN := Hd h0
 clear h0
 go_enter Tryz.func89, Tryz.ntmps89
 go_wp2_with fail
 refine (parts_any s _ hs).mono ?_
 rintro e w1 ⟨l, hp, v, rfl, ho, hb⟩
 have HP := Hd hp
 have HO := Hd ho
 obtain ⟨a, cap, rfl, hcells⟩ := Sl.of_own ho
 have hz : (w.alloc Z25).heap.size = w.heap.size + 1 := by simp
 have hsz1 : w.heap.size + 1 ≤ w1.heap.size := by have := hb.size; rw [hz] at this; exact this
 have hcell : w1.heap[w.heap.size]? = some Z25 := by rw [hb.block w.heap.size (by rw [hz]; omega)]; exact at_new _ _
 have HC := Hd hcell
 have HB := Hd (((Below.refl _ _).alloc (Nat.le_refl _) Z25).trans (hb.mono (by rw [hz]; omega)))
 have HS := Hd hcells
 have hs1 : (s.size : Int) ≤ 1048576 := by omega
 have hll : l.length ≤ 1048577 := by
  have h := congrArg List.length hp
  rw [List.length_map] at h
  have h2 := partsA_len s.data.toList []
  unfold parts at h
  rw [sz] at h2; omega
 have hll1 : (l.length : Int) ≤ 1048577 := by omega
 clear hp ho hb hcell hcells hz
 go_wp2
 go_loopw [5, 6] (fun u i wr => ∃ (k q : Nat) (B : Bool), k ≤ l.length ∧ i = .int .i64 k ∧ u = .bool B ∧ (B = true ↔ (128 < s.size ∨ ∃ x ∈ l.take k, 14 < x.size)) ∧ wr = w1.drewN q) (fun u i _ => l.length - (intOf i).toNat)
 case atStart => exact ⟨0, 0, decide ((128 : Int) < s.size), Nat.zero_le _, rfl, rfl, by simp; omega, rfl⟩
 case round =>
  obtain ⟨k, q, B, hk, rfl, rfl, hB, rfl⟩ := hrel
  have HBB := Hd hB
  clear hB
  by_cases hlt : k < l.length
  · have hlt1 : (k : Int) < l.length := by omega
    obtain ⟨b, off, rfl, hc⟩ := HS.out k hlt
    have HX := Hd (show l.take (k + 1) = l.take k ++ [l[k]] by simp)
    generalize l[k] = x at hc HX
    cases B with
    | true =>
      go_wp2
      go_roundw
      case rel => exact ⟨k + 1, q, true, by omega, by go_num, rfl, ⟨fun _ => by
       rcases HBB.out.1 rfl with h | ⟨y, hy, h⟩
       · exact .inl h
       · exact .inr ⟨y, by rw [HX.out]; exact List.mem_append_left _ hy, h⟩, fun _ => rfl⟩, rfl⟩
      case measure => simp [intOf]; omega
    | false =>
      go_wp2
      go_roundw
      case rel =>
       refine ⟨k + 1, q, decide ((14 : Int) < x.size), by omega, by go_num, rfl, ?_, rfl⟩
       have hn : ¬ (128 < s.size ∨ ∃ y ∈ l.take k, 14 < y.size) := fun h => by have := HBB.out.2 h; cases this
       rw [HX.out]
       simp only [decide_eq_true_eq, List.mem_append, List.mem_singleton]
       constructor
       · intro h; exact .inr ⟨x, .inr rfl, by omega⟩
       · rintro (h | ⟨y, hy | rfl, h⟩)
         · exact absurd (.inl h) hn
         · exact absurd (.inr ⟨y, hy, h⟩) hn
         · omega
      case measure => simp [intOf]; omega
  · have hlt1 : ¬ (k : Int) < l.length := by omega
    obtain rfl : k = l.length := by omega
    cases B with
    | true =>
      have HF := Hd (split_long HN.out (by
       rcases HBB.out.1 rfl with h | ⟨y, hy, h⟩
       · exact .inl (by rw [sz]; exact h)
       · refine .inr ⟨y.data.toList, ?_, by rw [sz]; exact h⟩
         rw [HP.out]
         exact List.mem_map_of_mem (List.mem_of_mem_take hy)))
      have hc0 : w1.cell? ⟨w.heap.size, 0, none⟩ = some (.bool false) := hZ HC.out 0
      have hc1 : w1.cell? ⟨w.heap.size, 1, none⟩ = some (.slice none 0 0) := hZ HC.out 1
      have hc2 : w1.cell? ⟨w.heap.size, 2, none⟩ = some (.bool false) := hZ HC.out 2
      have hf0 : w1.frozen? ⟨w.heap.size, 0, none⟩ = false := heap_free HC.out 0
      have hf1 : w1.frozen? ⟨w.heap.size, 1, none⟩ = false := heap_free HC.out 1
      have hf2 : w1.frozen? ⟨w.heap.size, 2, none⟩ = false := heap_free HC.out 2
      go_wp2
      exact leave_zero rfl rfl (show (w1.drewN q).heap[w.heap.size]? = some Z25 from HC.out) (belowN HB.out q) HF.out
    | false =>
      have hnl : ¬ (128 < s.size ∨ ∃ y ∈ l, 14 < y.size) := fun h => by
       have := HBB.out.2 (by rw [List.take_length]; exact h)
       cases this
      have hsh : Short l := fun y hy => by
       have : ¬ 14 < y.size := fun h => hnl (.inr ⟨y, hy, h⟩)
       omega
      have hs8 : s.size ≤ 128 := by
       have : ¬ 128 < s.size := fun h => hnl (.inl h)
       omega
      have HSH := Hd hsh
      clear hnl hsh
      go_wp2
      go_loopw [7] (fun i wr => ∃ (k z : Nat), k ≤ s.size ∧ i = .int .i64 k ∧ plainB (s.data.toList.take k) = true ∧ wr = w1.drewN z) (fun i _ => s.size - (intOf i).toNat)
      case atStart => exact ⟨0, q, Nat.zero_le _, rfl, rfl, rfl⟩
      case round =>
       obtain ⟨k, z, hk, rfl, hpl, rfl⟩ := hrel
       have HPL := Hd hpl
       clear hpl
       by_cases hlt : k < s.size
       · have hlt1 : (k : Int) < s.size := by omega
         by_cases hok : okc s[k] = true
         · have hb1 : ¬ ((s[k].toNat : Int) < 32) := by simp [okc] at hok; omega
           have hb2 : ((s[k].toNat : Int) == 127) = false := by simp [okc] at hok; simp; omega
           have HK := Hd hok
           clear hok
           go_wp2
           go_roundw
           case rel => exact ⟨k + 1, z, by omega, by go_num, by rw [plain_take s k hlt, HPL.out, HK.out]; rfl, rfl⟩
           case measure => simp [intOf]; omega
         · have HF := Hd (split_bad HN.out hs8 HP.out.symm HSH.out (plain_bad s k hlt (by simpa using hok)))
           have hc0 : w1.cell? ⟨w.heap.size, 0, none⟩ = some (.bool false) := hZ HC.out 0
           have hc1 : w1.cell? ⟨w.heap.size, 1, none⟩ = some (.slice none 0 0) := hZ HC.out 1
           have hc2 : w1.cell? ⟨w.heap.size, 2, none⟩ = some (.bool false) := hZ HC.out 2
           have hf0 : w1.frozen? ⟨w.heap.size, 0, none⟩ = false := heap_free HC.out 0
           have hf1 : w1.frozen? ⟨w.heap.size, 1, none⟩ = false := heap_free HC.out 1
           have hf2 : w1.frozen? ⟨w.heap.size, 2, none⟩ = false := heap_free HC.out 2
           by_cases h32 : (s[k].toNat : Int) < 32
           · clear hok
             go_wp2
             exact leave_zero rfl rfl (show (w1.drewN z).heap[w.heap.size]? = some Z25 from HC.out) (belowN HB.out z) HF.out
           · have hb2 : ((s[k].toNat : Int) == 127) = true := by
              simp [okc] at hok
              have : s[k].toNat = 127 := by
               by_cases h : s[k].toNat = 127
               · exact h
               · exact absurd h (by simpa using hok (by omega))
              simp [this]
             clear hok
             go_wp2
             exact leave_zero rfl rfl (show (w1.drewN z).heap[w.heap.size]? = some Z25 from HC.out) (belowN HB.out z) HF.out
       · have hlt1 : ¬ (k : Int) < s.size := by omega
         have hlen0 : 0 < s.size := by
          rcases Nat.eq_zero_or_pos s.size with h | h
          · exact absurd (List.eq_nil_of_length_eq_zero (by rw [sz]; exact h)) HN.out
          · exact h
         have hpa : plainB s.data.toList = true := by rw [← plain_all s k (by omega)]; exact HPL.out
         have HOK := Hd (split_ok HN.out hs8 HP.out.symm HSH.out hpa)
         clear hpa
         have i1 : ((s.size : Int) - 1).toNat = s.size - 1 := by omega
         have i2 : (0 : Int) < s.size := by omega
         have i3 : s.size - 1 < s.size := by omega
         have i4 : IntKind.i64.wrap ((s.size : Int) - 1) = (s.size : Int) - 1 := by rw [IntKind.wrap_i64]; omega
         have i5 : (1 : Int) ≤ s.size := by omega
         have i6 : (s.size : Int) - 1 < s.size := by omega
         have g0 : ∀ i, ((w1.drewN i).alloc (.cells #[.bool false, .slice none 0 0, .bool false] 138)).cell? ⟨w1.heap.size, 0, none⟩ = some (.bool false) := fun i => hZ (at_new (w1.drewN i) Z25) 0
         have g1 : ∀ i, ((w1.drewN i).alloc (.cells #[.bool false, .slice none 0 0, .bool false] 138)).cell? ⟨w1.heap.size, 1, none⟩ = some (.slice none 0 0) := fun i => hZ (at_new (w1.drewN i) Z25) 1
         have g2 : ∀ i, ((w1.drewN i).alloc (.cells #[.bool false, .slice none 0 0, .bool false] 138)).cell? ⟨w1.heap.size, 2, none⟩ = some (.bool false) := fun i => hZ (at_new (w1.drewN i) Z25) 2
         have f0 : ∀ i, ((w1.drewN i).alloc (.cells #[.bool false, .slice none 0 0, .bool false] 138)).frozen? ⟨w1.heap.size, 0, none⟩ = false := fun i => heap_free (at_new (w1.drewN i) Z25) 0
         have f1 : ∀ i, ((w1.drewN i).alloc (.cells #[.bool false, .slice none 0 0, .bool false] 138)).frozen? ⟨w1.heap.size, 1, none⟩ = false := fun i => heap_free (at_new (w1.drewN i) Z25) 1
         have f2 : ∀ i, ((w1.drewN i).alloc (.cells #[.bool false, .slice none 0 0, .bool false] 138)).frozen? ⟨w1.heap.size, 2, none⟩ = false := fun i => heap_free (at_new (w1.drewN i) Z25) 2
         go_wp2_with fail
         go_region
         have HPI := Hd (PI.start w1 (z + 1) ((s[0].toNat : Int) == 47) ((s[s.size - 1].toNat : Int) == 47))
         generalize (((((w1.drewN (z + 1)).alloc (.cells #[.bool false, .slice none 0 0, .bool false] 138)).setCell ⟨w1.heap.size, 0, none⟩ (.bool ((s[0].toNat : Int) == 47))).setCell ⟨w1.heap.size, 1, none⟩ (.slice none 0 0)).setCell ⟨w1.heap.size, 2, none⟩ (.bool ((s[s.size - 1].toNat : Int) == 47))) = W2 at *
         clear g0 g1 g2 f0 f1 f2
         generalize hA : ((s[0].toNat : Int) == 47) = A at *
         generalize hD : ((s[s.size - 1].toNat : Int) == 47) = D at *
         have HA := Hd hA
         have HD := Hd hD
         clear hA hD
         go_upto_if 65 with fail
         go_cut [9] from 53 to 82 (fun u wx => ∃ D' : Bool, D' = (D || (((lastOf l).data.toList == [46]) || ((lastOf l).data.toList == [46, 46]))) ∧ PI w1 A D' (.slice none 0 0) [] wx)
         case first =>
          by_cases hl0 : l = []
          · have hl1 : ¬ ((0 : Int) < l.length) := by rw [hl0]; decide
            have HL0 := Hd hl0
            clear hl0
            go_wp2_with fail
            go_meet
            exact ⟨D, by rw [HL0.out]; simp [lastOf], HPI.out⟩
          · have hl2 : 0 < l.length := List.length_pos_iff.2 hl0
            have hl1 : (0 : Int) < l.length := by omega
            obtain ⟨b, off, rfl, hc⟩ := HS.out (l.length - 1) (by omega)
            have hbl := World.block_lt_of_cell? w1 ⟨b, off + (l.length - 1), none⟩ hc
            have hcw : W2.cell? ⟨b, off + (l.length - 1), none⟩ = some (.string l[l.length - 1]) := by rw [HPI.out.b.cell (p := ⟨b, off + (l.length - 1), none⟩) hbl]; exact hc
            have HL := Hd (show lastOf l = l[l.length - 1] by simp [lastOf, List.getLast?_eq_getElem?, List.getElem?_eq_getElem (show l.length - 1 < l.length by omega)])
            clear hc
            generalize l[l.length - 1] = x at hcw HL
            have i1 : ((l.length : Int) - 1).toNat = l.length - 1 := by omega
            have i4 : IntKind.i64.wrap ((l.length : Int) - 1) = (l.length : Int) - 1 := by rw [IntKind.wrap_i64]; omega
            have i5 : (1 : Int) ≤ l.length := by omega
            have i6 : (l.length : Int) - 1 < l.length := by omega
            have p2 : W2.cell? ⟨w1.heap.size, 2, none⟩ = some (.bool D) := hZ HPI.out.p 2
            have q2 : W2.frozen? ⟨w1.heap.size, 2, none⟩ = false := heap_free HPI.out.p 2
            have HX := Hd (tQ x)
            go_wp2_with fail
            all_goals go_meet
            all_goals refine ⟨_, ?_, HPI.out.setD _⟩
            all_goals (rw [HL.out]; simp only [HX.out] at *; cases D <;> simp_all)
         case rest =>
          obtain ⟨D', hD', hpi⟩ := hcut
          have HD' := Hd hD'
          have HPJ := Hd hpi
          clear hD' hpi
          go_wp2
          go_loopw [10] (fun i wr => ∃ (k : Nat) (v : Value), k ≤ l.length ∧ i = .int .i64 k ∧ PI w1 A D' v (kept (l.take k)) wr) (fun i _ => l.length - (intOf i).toNat)
          case atStart => exact ⟨0, _, Nat.zero_le _, rfl, HPJ.out⟩
          case round =>
           obtain ⟨k2, v2, hk2, rfl, hpk⟩ := hrel
           obtain ⟨a2, c2, rfl, -⟩ := Sl.of_own hpk.n
           have HPK := Hd hpk
           clear hpk
           generalize hkn : (kept (l.take k2)).length = n2 at *
           by_cases hlt2 : k2 < l.length
           · have hlt3 : (k2 : Int) < l.length := by omega
             obtain ⟨b, off, rfl, hc⟩ := HS.out k2 hlt2
             have hbl := World.block_lt_of_cell? w1 ⟨b, off + k2, none⟩ hc
             have hcw : wr.cell? ⟨b, off + k2, none⟩ = some (.string l[k2]) := by rw [HPK.out.b.cell (p := ⟨b, off + k2, none⟩) hbl]; exact hc
             have HX := Hd (show l.take (k2 + 1) = l.take k2 ++ [l[k2]] by simp)
             clear hc
             generalize l[k2] = x at hcw HX
             by_cases hdot : x.data.toList = [46]
             · have e1 : x.toList = [46] := by rw [tQ]; exact hdot
               have HK := Hd (kept_no (l.take k2) x hdot)
               clear hdot
               go_wp2
               go_roundw
               case rel => exact ⟨k2 + 1, _, by omega, by go_num, by rw [HX.out, HK.out]; exact HPK.out⟩
               case measure => simp [intOf]; omega
             · have e1 : (x.toList == [46]) = false := by rw [tQ]; simpa using hdot
               have HK := Hd (kept_yes (l.take k2) x hdot)
               clear hdot
               obtain ⟨i0, hi, hz0, hz1, hz4⟩ : ∃ i0, Tryz.prog.info? 9 = some i0 ∧ i0.zero = some (.string ByteArray.empty) ∧ i0.size = 1 ∧ i0.bytes = 16 := by
                have h := info9
                cases hh : Tryz.prog.info? 9 with
                | none => rw [hh] at h; cases h
                | some i => rw [hh] at h; simp at h; exact ⟨i, rfl, h.1, h.2.1, h.2.2⟩
               have hplt := HPK.out.lt
               have hn2 : n2 ≤ 1048577 := by
                rw [← hkn]
                have h1 : (kept (l.take k2)).length ≤ (l.take k2).length := List.length_filter_le _ _
                have h2 : (l.take k2).length ≤ l.length := by rw [List.length_take]; omega
                omega
               have e1' : wr.drew.cell? ⟨w1.heap.size, 1, none⟩ = some (.slice a2 n2 c2) := hZ (w := wr.drew) HPK.out.p 1
               have e2' : ∀ X, (wr.alloc X).drew.cell? ⟨w1.heap.size, 1, none⟩ = some (.slice a2 n2 c2) := fun X => hZ (w := (wr.alloc X).drew) (by show (wr.alloc X).heap[w1.heap.size]? = _; rw [Below.heap_alloc _ _ _ hplt]; exact HPK.out.p) 1
               have e3' : wr.drew.cell? ⟨b, off + k2, none⟩ = some (.string x) := hcw
               have hn9 := HPK.out.n
               rw [hkn] at hn9
               have HN9 := Hd hn9
               clear hn9
               have HP9 := Hd HPK.out.p
               have HB9 := Hd HPK.out.b
               go_wp2_with fail
               go_region_law (refine step_app_row rfl (.tmp 95) (.tmp 100) 52 rfl (w1.heap.size + 1) 9 i0 (.string ByteArray.empty) 16 Tryz.underlying52 hi hz0 hz1 hz4 rfl (.slice a2 n2 c2) n2 ((kept (l.take k2)).map .string) (by simp [Act.eval, Act.put]) (own_drew (HN9.out.alloc _)) 0 (.slice (some ⟨wr.heap.size, 0, none⟩) 1 1) 1 [.string x] (by simp [Act.eval, Act.put]) (own_drew (own_new wr #[.string x] 0 1 _ rfl (Nat.zero_le _) rfl (by unfold maxLen; omega))) (by simp [Value.oneCell']) (by unfold maxLen; omega) (by omega) (by show w1.heap.size + 1 ≤ (wr.alloc _).heap.size; rw [World.size_alloc]; omega) ?_; intro v5 w5 hown5 hgrow5 hbel5; obtain ⟨a5, c5, rfl⟩ := own_form hown5; have hp5 := blk5 hbel5 hplt HP9.out; have hc5 : w5.cell? ⟨w1.heap.size, 1, none⟩ = some (.slice a2 n2 c2) := hZ hp5 1; have hf5 : w5.frozen? ⟨w1.heap.size, 1, none⟩ = false := heap_free hp5 1)
               all_goals
                have hPI : PI w1 A D' (.slice a5 (n2 + 1) c5) (kept (l.take k2) ++ [x]) (w5.setCell ⟨w1.heap.size, 1, none⟩ (.slice a5 (n2 + 1) c5)) := {
                 b := (((HB9.out.alloc HB9.out.size _).drew).trans (hbel5.mono (by omega))).setCell (Nat.le_refl _) _
                 p := set_same hp5 _
                 n := by
                  have hl : (kept (l.take k2) ++ [x]).length = n2 + 1 := by rw [List.length_append, hkn]; rfl
                  have hm : (kept (l.take k2) ++ [x]).map Value.string = (kept (l.take k2)).map .string ++ [.string x] := by rw [List.map_append]; rfl
                  rw [hl, hm]; exact own_set hown5 }
                have HF9 := Hd hPI
                clear hPI hown5 hgrow5 hbel5 hp5 hc5 hf5
                go_wp2
                go_roundw
                case rel => exact ⟨k2 + 1, _, by omega, by go_num, by rw [HX.out, HK.out]; exact HF9.out⟩
                case measure => simp [intOf]; omega
           · have hlt3 : ¬ (k2 : Int) < l.length := by omega
             have r0 : wr.cell? ⟨w1.heap.size, 0, none⟩ = some (.bool A) := hZ HPK.out.p 0
             have r1 : wr.cell? ⟨w1.heap.size, 1, none⟩ = some (.slice a2 n2 c2) := hZ HPK.out.p 1
             have r2 : wr.cell? ⟨w1.heap.size, 2, none⟩ = some (.bool D') := hZ HPK.out.p 2
             have hzw : wr.heap[w.heap.size]? = some Z25 := by rw [HPK.out.b.block w.heap.size (by omega)]; exact HC.out
             have hc0 : wr.cell? ⟨w.heap.size, 0, none⟩ = some (.bool false) := hZ hzw 0
             have hc1 : wr.cell? ⟨w.heap.size, 1, none⟩ = some (.slice none 0 0) := hZ hzw 1
             have hc2 : wr.cell? ⟨w.heap.size, 2, none⟩ = some (.bool false) := hZ hzw 2
             have hf0 : wr.frozen? ⟨w.heap.size, 0, none⟩ = false := heap_free hzw 0
             have hf1 : wr.frozen? ⟨w.heap.size, 1, none⟩ = false := heap_free hzw 1
             have hf2 : wr.frozen? ⟨w.heap.size, 2, none⟩ = false := heap_free hzw 2
             have HZ := Hd hzw
             clear hzw
             go_wp2_with fail
             exact leave11 w.heap.size rfl rfl (set_same (set_same (set_same HZ.out _) _) _) ⟨a2, n2, c2, rfl⟩ (by
              have hkl : l.take k2 = l := List.take_of_length_le (by omega)
              have hn := HPK.out.n
              rw [hkl] at hn hkn
              refine ⟨A, D', _, kept l, 0, rfl, ?_, ?_, ?_⟩
              · rw [hkn] at hn ⊢
                exact own_base (own_set (own_set (own_set (own_base (b' := w.heap.size + 1) hn (by omega))))) (by omega)
              · exact (((HB.out.trans (HPK.out.b.mono (by omega))).setCell (Nat.le_refl _) _).setCell (Nat.le_refl _) _).setCell (Nat.le_refl _) _
              · rw [HOK.out, HD'.out, ← HA.out, ← HD.out, pre_first s (by omega), suffix_last s HN.out, eq47, eq47, data_get s _ (by omega)])
end Go.Proofs.YtafonmnfeibaiaaGreat.Pp
namespace Go.Proofs.YtafonmnfeibaiaaGreat.RF
open Go.RowKit
theorem dmay_any {w : World} {t B : Nat} {G : Gt} {T : IT.Tr} (h : Trf w t B G T) (hm : MR T) (c : Cr) {k : Nat} {m : IT.Nd} (hk : T k = some m) (want : Int) :
  Calls Tryz.prog 92 #[.pointer (some ⟨t, 0, none⟩), cred c, .int .i64 (k : Int), .int .i64 want] w fun e w' => e = .returned (.bool (mayN m c want)) ∧ Below w.heap.size w w' := by
 have hrng := h.snd.1.rng k m hk
 have hk2 : k ≤ 200 := hrng.2
 have c0 := h.rep.cellT
 have hltT := h.rep.ltT
 have hltB := h.rep.ltB
 have b0 := h.rep.c0 k hk2
 have b1 := h.rep.c1 k hk2
 have b2 := h.rep.c2 k hk2
 have b3 := h.rep.c3 k hk2
 have b4 := h.rep.c4 k hk2
 have b5 := h.rep.c5 k hk2
 have b6 := h.rep.c6 k hk2
 have b7 := h.rep.c7 k hk2
 have b8 := h.rep.c8 k hk2
 have b9 := h.rep.c9 k hk2
 have hKp := h.ties.sok k m hk
 rw [hKp.kind] at b1
 rw [hKp.mode] at b2
 rw [hKp.owner] at b3
 rw [hKp.group] at b4
 obtain ⟨a9, cap9, e9, _, _, _⟩ := (h.rep.ents k hk2).lit
 rw [e9] at b9
 have hm2 := hm.lt hk
 have hkn : k < 201 := by omega
 have hkz : (k : Int) < 201 := by omega
 obtain ⟨real, eff, saved, group, eg⟩ := c
 have HMY := fun w => Hd (Md.rmay_any m.mode m.owner m.group (m.kind == 1) eff eg want hm2 w)
 unfold mayN
 show Calls _ _ _ _ (fun e w' => e = .returned (.bool (Md.mayS m.mode m.owner m.group (m.kind == 1) eff eg want)) ∧ Below w.heap.size w w')
 unfold cred
 clear h hKp e9 hm hk hm2 hrng
 generalize (G k).is = x0 at *
 generalize (G k).tty = x5 at *
 generalize (G k).holds = x6 at *
 generalize (G k).parent = x7 at *
 generalize (G k).data = x8 at *
 go_enter Tryz.func92, Tryz.ntmps92
 go_wp2_with fail
 refine (HMY _).out.mono ?_
 rintro e w' ⟨rfl, rfl⟩
 go_wp2
 go_ret
 exact ⟨rfl, ((Below.refl _ _).alloc (Nat.le_refl _) _).alloc (by rw [aZ]; omega) _⟩
def credC (c : Cr) : Array Value := #[.int .i64 c.real, .int .i64 c.eff, .int .i64 c.saved, .int .i64 c.group, .int .i64 c.eg]
structure DV (w : World) (t B : Nat) (G : Gt) (T : IT.Tr) (c : Cr) (b : Nat) (wr : World) : Prop where
 bel : Below w.heap.size w wr
 trf : Trf wr t B G T
 cr : wr.heap[b]? = some (.cells (credC c) 36 (0, 0))
theorem Trf.below {w w' : World} {t B : Nat} {G : Gt} {T : IT.Tr} (h : Trf w t B G T) (hb : Below w.heap.size w w') : Trf w' t B G T := ⟨h.rep.below hb, h.ties, h.snd⟩
theorem DV.below {w wr w' : World} {t B b : Nat} {G : Gt} {T : IT.Tr} {c : Cr} (h : DV w t B G T c b wr) (hb : Below wr.heap.size wr w') : DV w t B G T c b w' :=
 ⟨h.bel.trans (hb.mono h.bel.size), h.trf.below hb, (hb.block b (lH h.cr)).trans h.cr⟩
theorem DV.start {w : World} {t B : Nat} {G : Gt} {T : IT.Tr} (h : Trf w t B G T) (c : Cr) : DV w t B G T c w.heap.size (w.alloc (.cells (credC c) 36)) :=
 ⟨(Below.refl _ _).alloc (Nat.le_refl _) _, h.below ((Below.refl _ _).alloc (Nat.le_refl _) _), aQ w _⟩
theorem DV.alloc {w wr : World} {t B b : Nat} {G : Gt} {T : IT.Tr} {c : Cr} (h : DV w t B G T c b wr) (o : Obj) : DV w t B G T c b (wr.alloc o) := h.below ((Below.refl _ _).alloc (Nat.le_refl _) o)
theorem ddown_any {w : World} {t B : Nat} {G : Gt} {T : IT.Tr} (h : Trf w t B G T) (hm : MR T) (cwd : Int) (c : Cr) (abs : Bool) (a : Option Addr) (cap : Nat) (l : List ByteArray) (hrow : Row w a l) (hl : l.length ≤ maxLen) :
  Calls Tryz.prog 90 #[.pointer (some ⟨t, 0, none⟩), .int .i64 cwd, cred c, .bool abs, .slice a l.length cap] w fun e w' => e = .returned (.tuple #[.int .i64 ((goT T c cwd abs (l.map bs)).1 : Nat), .int .i64 (goT T c cwd abs (l.map bs)).2]) ∧ Below w.heap.size w w' := by
 have HR := Hd hrow
 have HM := Hd hm
 have HS := Hd h.snd
 have HV := Hd (DV.start h c)
 unfold maxLen at hl
 have hDW : ∀ D, goT T c cwd abs (l.map bs) = D → ∀ st : Int, startT cwd abs = st.toNat → (T st.toNat = none → D = (0, 3)) ∧ ∀ m, T st.toNat = some m → ∃ k : Nat, st = (k : Int) ∧ T k = some m ∧ D = downT T c k (l.map bs) := fun D hD st e => by
  subst hD
  refine ⟨fun hn => by unfold goT; rw [e, if_pos hn], fun m hn => ⟨st.toNat, by have := h.snd.1.rng _ m hn; omega, hn, by unfold goT; rw [e, if_neg (by rw [hn]; simp)]⟩⟩
 have HDW := Hd hDW
 have HIS : Hid (∀ st : Int, Calls Tryz.prog 105 #[.pointer (some ⟨t, 0, none⟩), .int .i64 st] (w.alloc (.cells (credC c) 36)) fun e w' => e = .returned (.bool (T st.toNat).isSome) ∧ w.alloc (.cells (credC c) 36) = w') := Hd (fun st => by have := rf_is (HV.out.trf.rep) st; rw [HV.out.trf.isB] at this; exact this)
 have hln : l.length = l.length := rfl
 obtain ⟨ll, hll⟩ : ∃ ll, l.length = ll := ⟨_, rfl⟩
 rw [hll] at hl ⊢
 have HLL := Hd hll
 clear h hm hrow hll hDW hln
 unfold cred
 unfold credC at HIS
 have HX : Hid (credC c = #[.int .i64 c.real, .int .i64 c.eff, .int .i64 c.saved, .int .i64 c.group, .int .i64 c.eg]) := Hd rfl
 cases abs
 case' false =>
  obtain ⟨HG0, HG1⟩ := HDW.out _ rfl cwd rfl
  have HI := Hd (HIS.out cwd)
  generalize goT T c cwd false (l.map bs) = D at *
  generalize T cwd.toNat = o at *
 case' true =>
  obtain ⟨HG0, HG1⟩ := HDW.out _ rfl 1 rfl
  have HI := Hd (HIS.out 1)
  generalize goT T c cwd true (l.map bs) = D at *
  generalize T (1 : Int).toNat = o at *
 all_goals
  clear HIS HDW
  cases o with
  | none =>
    obtain rfl := HG0 rfl
    clear HG0 HG1
    go_enter Tryz.func90, Tryz.ntmps90
    go_wp2_with fail
    refine HI.out.mono ?_
    rintro e w' ⟨rfl, rfl⟩
    go_wp2
    exact bodyPost_ret (v := .tuple #[.int .i64 0, .int .i64 3]) (by simp [results, Tryz.results90, go_sem]) rfl ⟨rfl, HV.out.bel⟩
  | some m0 =>
    obtain ⟨k0, hk0, hm0, hD⟩ := HG1 m0 rfl
    have HK0 := Hd (And.intro hk0 (And.intro hm0 hD))
    clear HG0 HG1 hk0 hm0 hD
    go_enter Tryz.func90, Tryz.ntmps90
    go_wp2_with fail
    refine HI.out.mono ?_
    rintro e w' ⟨rfl, rfl⟩
    clear HI
    rw [← HX.out]
    generalize w.alloc (.cells (credC c) 36) = W1 at *
    have HIN : Hid ((∃ m, T k0 = some m) ∧ downT T c k0 ((l.drop 0).map bs) = D ∧ DV w t B G T c w.heap.size W1) := Hd ⟨⟨m0, HK0.out.2.1⟩, by rw [List.drop_zero]; exact HK0.out.2.2.symm, HV.out⟩
    clear HV
    go_wp2_with fail
    go_loopg [12, 14] ll (fun g av iv wr => ∃ k i : Nat, av = .int .i64 (k : Int) ∧ iv = .int .i64 (i : Int) ∧ i + g = ll ∧ Hid ((∃ m, T k = some m) ∧ downT T c k ((l.drop i).map bs) = D ∧ DV w t B G T c w.heap.size wr))
    case atStart => exact ⟨k0, 0, by rw [HK0.out.1], rfl, by omega, HIN⟩
    case round =>
     clear HIN
     obtain ⟨k, i, rfl, rfl, hig, HI⟩ := hrel
     by_cases hi : i < ll
     · obtain ⟨og, rfl⟩ : ∃ og, gk = og + 1 := ⟨gk - 1, by omega⟩
       have hi2 : (i : Int) < ll := by omega
       obtain ⟨m, hm⟩ := HI.out.1
       have HMM := Hd hm
       have HDR := Hd (drop_map (l := l) (j := i) (by rw [HLL.out]; exact hi))
       obtain ⟨b, off, rfl, hbb, hcell⟩ := HR.out i (by rw [HLL.out]; exact hi)
       have hcw : wr.cell? ⟨b, off + i, none⟩ = some (.string (l[i]'(by rw [HLL.out]; exact hi))) := by rw [HI.out.2.2.bel.cell (p := ⟨b, off + i, none⟩) hbb]; exact hcell
       have HD0 : Hid (Calls Tryz.prog 91 #[.pointer (some ⟨t, 0, none⟩), .int .i64 (k : Int)] wr fun e w' => e = .returned (.bool (m.kind == 1)) ∧ wr = w') := Hd (by have := rf_dir HI.out.2.2.trf (k : Int); rw [Int.toNat_natCast, hm] at this; exact this)
       have HMY : Hid (Calls Tryz.prog 92 #[.pointer (some ⟨t, 0, none⟩), cred c, .int .i64 (k : Int), .int .i64 1] wr fun e w' => e = .returned (.bool (mayN m c 1)) ∧ Below wr.heap.size wr w') := Hd (dmay_any HI.out.2.2.trf HM.out c hm 1)
       generalize l[i]'(by rw [HLL.out]; exact hi) = nm at *
       have e0 : wr.cell? ⟨w.heap.size, 0, none⟩ = some (.int .i64 c.real) := cO HI.out.2.2.cr 0
       have e1 : wr.cell? ⟨w.heap.size, 1, none⟩ = some (.int .i64 c.eff) := cO HI.out.2.2.cr 1
       have e2 : wr.cell? ⟨w.heap.size, 2, none⟩ = some (.int .i64 c.saved) := cO HI.out.2.2.cr 2
       have e3 : wr.cell? ⟨w.heap.size, 3, none⟩ = some (.int .i64 c.group) := cO HI.out.2.2.cr 3
       have e4 : wr.cell? ⟨w.heap.size, 4, none⟩ = some (.int .i64 c.eg) := cO HI.out.2.2.cr 4
       unfold cred at HMY
       clear hm hcell
       by_cases hk : m.kind = 1
       · rw [show (m.kind == 1) = true by simpa using hk] at HD0
         have HKD := Hd hk
         clear hk
         cases hy : mayN m c 1 with
         | false =>
           rw [hy] at HMY
           have hee : entersE m c = 4 := by unfold entersE; rw [if_neg (fun h => h HKD.out), if_pos hy]
           have HE : Hid (D = (0, 4)) := Hd (by rw [← HI.out.2.1, HDR.out]; unfold downT; rw [HMM.out]; dsimp only; rw [hee]; rfl)
           clear hee
           clear hy
           go_wp2_with fail
           refine HD0.out.mono ?_
           rintro e w5 ⟨rfl, rfl⟩
           go_wp2_with fail
           refine HMY.out.mono ?_
           rintro e w5 ⟨rfl, hb5⟩
           have HB5 := Hd (HI.out.2.2.below hb5)
           clear hb5
           obtain rfl := HE.out
           go_wp2
           exact bodyPost_ret (v := .tuple #[.int .i64 0, .int .i64 4]) (by simp [results, Tryz.results90, go_sem]) rfl ⟨rfl, HB5.out.bel⟩
         | true =>
           rw [hy] at HMY
           have HE : Hid (∀ L, downT T c k (bs nm :: L) = match lookT T k (bs nm) with | none => (0, 3) | some j => downT T c j L) := Hd (fun L => down_step HMM.out (by unfold entersE; rw [if_neg (fun h => h HKD.out), hy]; rfl) L)
           clear hy
           go_wp2_with fail
           refine HD0.out.mono ?_
           rintro e w5 ⟨rfl, rfl⟩
           go_wp2_with fail
           refine HMY.out.mono ?_
           rintro e w5 ⟨rfl, hb5⟩
           have HB5 := Hd (HI.out.2.2.below hb5)
           have hcw5 : w5.cell? ⟨b, off + i, none⟩ = some (.string nm) := by rw [hb5.cell (p := ⟨b, off + i, none⟩) (by have := HI.out.2.2.bel.size; simp; omega)]; exact hcw
           have HLO := Hd (rf_look HB5.out.trf (k : Int) nm)
           rw [Int.toNat_natCast] at HLO
           clear hb5 hcw e0 e1 e2 e3 e4 HMY HD0
           cases hlk : lookT T k (bs nm) with
           | none =>
             rw [hlk] at HLO
             have HEE : Hid (D = (0, 3)) := Hd (by rw [← HI.out.2.1, HDR.out, HE.out, hlk])
             unfold lookV at HLO
             clear hlk
             go_wp2_with fail
             refine HLO.out.mono ?_
             rintro e w6 ⟨rfl, rfl⟩
             obtain rfl := HEE.out
             go_wp2
             exact bodyPost_ret (v := .tuple #[.int .i64 0, .int .i64 3]) (by simp [results, Tryz.results90, go_sem]) rfl ⟨rfl, HB5.out.bel⟩
           | some j =>
             rw [hlk] at HLO
             have HNX : Hid ((∃ m, T j = some m) ∧ downT T c j ((l.drop (i + 1)).map bs) = D ∧ DV w t B G T c w.heap.size w5) := Hd ⟨look_there HS.out hlk, by rw [← HI.out.2.1, HDR.out, HE.out, hlk], HB5.out⟩
             unfold lookV at HLO
             clear hlk
             go_wp2_with fail
             refine HLO.out.mono ?_
             rintro e w6 ⟨rfl, rfl⟩
             go_wp2
             go_roundg og
             case measure => omega
             case rel => exact ⟨j, i + 1, rfl, by go_num, by omega, HNX⟩
       · rw [show (m.kind == 1) = false by simpa using hk] at HD0
         have hee : entersE m c = 6 := by unfold entersE; rw [if_pos hk]
         have HE : Hid (D = (0, 6)) := Hd (by rw [← HI.out.2.1, HDR.out]; unfold downT; rw [HMM.out]; dsimp only; rw [hee]; rfl)
         clear hee
         clear hk
         go_wp2_with fail
         refine HD0.out.mono ?_
         rintro e w5 ⟨rfl, rfl⟩
         obtain rfl := HE.out
         go_wp2
         exact bodyPost_ret (v := .tuple #[.int .i64 0, .int .i64 6]) (by simp [results, Tryz.results90, go_sem]) rfl ⟨rfl, HI.out.2.2.bel⟩
     · have hi2 : ¬ (i : Int) < ll := by omega
       obtain rfl : i = ll := by omega
       have HE : Hid (D = (k, 0)) := Hd (by rw [← HI.out.2.1, List.drop_of_length_le (by rw [HLL.out]; omega)]; rfl)
       obtain rfl := HE.out
       go_wp2
       exact bodyPost_ret (v := .tuple #[.int .i64 (k : Int), .int .i64 0]) (by simp [results, Tryz.results90, go_sem]) rfl ⟨rfl, HI.out.2.2.bel⟩
end Go.Proofs.YtafonmnfeibaiaaGreat.RF
