import Derived.Test.YtafonmnfeibaiaaInD
namespace Go.Proofs.Ytafonmnfeibaiaa
open Go.RowKit

theorem lnk_steps {S A : IT.Tr} (h : IT.Steps S A) (x : Nat) : IT.lnk A x ≤ IT.lnk S x := by
  induction h with
  | refl => exact Nat.le_refl _
  | step _ _ ih => exact Nat.le_trans ih (IT.lnk_rem_le _ _ x)
/-- What is pending besides some entries that are still to be lost. -/
def pt (pend : Nat → Nat) (todo : List (ByteArray × Nat)) : Nat → Nat := fun x => pend x + IT.pendL (ents todo) x
theorem pt_perm {pend : Nat → Nat} {a b : List (ByteArray × Nat)} (h : a.Perm b) : pt pend a = pt pend b := by
  funext x
  show pend x + IT.pendL (ents a) x = pend x + IT.pendL (ents b) x
  have e : (ents a).Perm (ents b) := h.map _
  rw [IT.pendL_perm e]
theorem pt_less (pend : Nat → Nat) (p : ByteArray × Nat) (l : List (ByteArray × Nat)) : IT.less (pt pend (p :: l)) p.2 = pt pend l := IT.less_cons pend (bs p.1, p.2) (ents l)
theorem pt_nil (pend : Nat → Nat) : pt pend [] = pend := by funext x; rfl
theorem pt_mem {pend : Nat → Nat} {p : ByteArray × Nat} {l : List (ByteArray × Nat)} (h : p ∈ l) : pt pend l p.2 ≠ 0 := by
  unfold pt IT.pendL
  have hm : (bs p.1, p.2) ∈ (ents l).filter fun q => decide (q.2 = p.2) := List.mem_filter.2 ⟨List.mem_map.2 ⟨p, h, rfl⟩, by simp⟩
  have : ((ents l).filter fun q => decide (q.2 = p.2)).length ≠ 0 := fun e => by rw [List.eq_nil_of_length_eq_zero e] at hm; cases hm
  omega
theorem foot_upd_none {S : Tab} {t k b : Nat} (h : foot (upd S k none) t b) : b = t ∨ ∃ j c n, j ≠ k ∧ S j = some (c, n) ∧ (b = c ∨ n.mp = some b) := by
  rcases h with e | ⟨j, c, n, hj, h⟩
  · exact .inl e
  · by_cases e : j = k
    · subst e; rw [upd_same] at hj; cases hj
    · rw [upd_other _ _ e] at hj; exact .inr ⟨j, c, n, e, hj, h⟩
/-- The loop over what a node that is gone led to. -/
def GL (w0 : World) (t r m : Nat) (S0 : Tab) (l : List (ByteArray × Nat)) (pend : Nat → Nat) (R : IT.Tr) (wr : World) : Prop :=
  ∃ (S1 : Tab) (T1 : IT.Tr) (todo : List (ByteArray × Nat)), Mv w0 t S0 wr S1 ∧ ¬ foot S1 t m ∧ ¬ foot S1 t r ∧ w0.heap.size ≤ r ∧ Iter wr r m l todo ∧ IT.Sound0 okN T1 ∧ IT.Ties (kpOf S1) T1 (pt pend todo) ∧ IT.StepsP pend R T1 ∧ IT.Only T1 (pt pend todo) ∧ (∀ p ∈ todo, ∃ q, T1 p.2 = some q) ∧ ∀ x, IT.lnk T1 x + pt pend todo x ≤ 8

theorem pl_lead {n : Nd} {m : IT.Nd} (h : (ents n.names).Perm m.names) (pend : Nat → Nat) : (fun x => pend x + IT.lead x m) = pt pend n.names := by
  funext x
  show pend x + IT.lead x m = pend x + IT.pendL (ents n.names) x
  rw [IT.pendL_perm h]; rfl

section
variable {w : World} {t b k : Nat} {S : Tab} {n : Nd} {T : IT.Tr} {pend : Nat → Nat}
theorem can_of (h : Rep w t S) (hties : IT.Ties (kpOf S) T pend) (hk : S k = some (b, n)) (hl : n.links ≤ 0) (hh : n.holds ≤ 0) (hi : n.ino ≠ 1) : IT.can T k ∧ pend k = 0 ∧ ∃ m, T k = some m ∧ (ents n.names).Perm m.names := by
  obtain ⟨m, hm⟩ := hties.get (kpOf_some hk)
  obtain ⟨_, _, _, _, _, a6, _, a8, a9, _⟩ := hties.some k _ m (kpOf_some hk) hm
  have a6 : n.holds = (m.holds : Int) := a6
  have a9 : n.links = ((IT.lnk T k + pend k : Nat) : Int) := a9
  have hr := h.rng k _ hk
  have hino := h.ino k b n hk
  refine ⟨⟨by omega, hr.2, ⟨m, hm, by omega⟩, by omega⟩, by omega, m, hm, a8⟩
theorem gl_start (h : Rep w t S) (hsd : IT.Sound0 okN T) (hties : IT.Ties (kpOf S) T pend) (hbd : ∀ x, IT.lnk T x + pend x ≤ 8) (hcan : ∀ j, IT.can T j → pend j ≠ 0 ∨ j = k) (hk : S k = some (b, n)) (hc : IT.can T k) {m : IT.Nd} (hm : T k = some m) (hp : (ents n.names).Perm m.names)
    {mb : Nat} (hmp : n.mp = some mb) {w1 : World} (hmv : Mv w t S w1 (upd S k none)) {r : Nat} (hr : w.heap.size ≤ r) (hit : Iter w1 r mb n.names n.names) : GL w t r mb S n.names pend (IT.rem T k) w1 := by
  have hk2 := (h.rng k _ hk).2
  have hb := h.map k b n mb hk hmp
  refine ⟨upd S k none, IT.rem T k, n.names, hmv, fun hf => ?_, fun hf => ?_, hr, hit, hsd.rem hc, ?_, .refl, ?_, fun p hpm => ?_, fun x => ?_⟩
  · rcases foot_upd_none hf with e | ⟨j, c, n', hj, hS, e | e⟩
    · exact absurd e (hb.ne_cells h.tree)
    · exact absurd e (hb.ne_cells (h.node j c n' hS))
    · exact hj (h.injm j k c n' b n mb hS hk e hmp)
  · rcases foot_upd_none hf with e | ⟨j, c, n', hj, hS, e | e⟩
    · have := h.ltT; omega
    · have := h.ltN hS; omega
    · have := (h.map j c n' r hS e).lt; omega
  · rw [kpOf_del, ← pl_lead hp]; exact hties.rem hm hk2
  · rw [← pl_lead hp]; exact IT.Only.rem hcan hm hk2
  · have hpm2 : (bs p.1, p.2) ∈ m.names := hp.mem_iff.1 (List.mem_map.2 ⟨p, hpm, rfl⟩)
    obtain ⟨q, hq⟩ := hsd.lead k m _ hm hpm2
    have hne : p.2 ≠ k := fun e => by
      have h1 : IT.leadO k (T k) ≠ 0 := by rw [hm]; exact IT.mem_lead hpm2 e
      exact h1 (IT.none_lead hc.2.2.2 hk2)
    obtain ⟨q1, hq1, _⟩ := IT.rem_some (i := k) hq hne
    exact ⟨q1, hq1⟩
  · rw [← pl_lead hp, IT.pend_rem hm hk2]; exact hbd x
end
/-- A round. -/
theorem gl_next {f : Nat} (L : LosesOk f) {w0 wr : World} {t r m : Nat} {S0 : Tab} {l} {pend : Nat → Nat} {R : IT.Tr} (hR : IT.cnt R ≤ f) (h : GL w0 t r m S0 l pend R wr) :
    ((∀ ty, (Instr.next (.pointer (some ⟨r, 0, none⟩)) false ty).run Try.prog wr = .ok (.tuple #[.bool false]) wr) ∧ ∃ S1 T1, Mv w0 t S0 wr S1 ∧ IT.Ties (kpOf S1) T1 pend ∧ IT.StepsP pend R T1 ∧ IT.Only T1 pend) ∨
    ∃ (p : ByteArray × Nat) (w' : World) (b : Nat), (∀ ty, (Instr.next (.pointer (some ⟨r, 0, none⟩)) false ty).run Try.prog wr = .ok (.tuple #[.bool true, .string p.1, .int .i64 (p.2 : Int)]) w') ∧
      (Instr.entry (.pointer (some ⟨r, 0, none⟩))).run Try.prog w' = .ok (.tuple #[.string p.1, .int .i64 (p.2 : Int)]) w' ∧ 1 ≤ (p.2 : Int) ∧ (p.2 : Int) ≤ 200 ∧ w'.cell? ⟨t, p.2, none⟩ = some (.pointer (some ⟨b, 0, none⟩)) ∧
      Calls Try.prog 53 #[.pointer (some ⟨t, 0, none⟩), .pointer (some ⟨b, 0, none⟩)] w' fun e w'' => e = .returned (.tuple #[]) ∧ GL w0 t r m S0 l pend R w'' ∧ w''.rangeLeft m r < wr.rangeLeft m r := by
  obtain ⟨S1, T1, todo, hmv, hfm, hfr, hrs, hit, hsd, hties, hst, hon, hall, hbd⟩ := h
  rcases Iter.next (P := Try.prog) hit with ⟨rfl, hn⟩ | ⟨p, rest, w', hperm, hn, hen, hit', ho, htp, hou, hsz, hbl⟩
  · rw [pt_nil] at hties hon
    exact .inl ⟨hn, S1, T1, hmv, hties, hst, hon⟩
  · obtain ⟨q, hq⟩ := hall p (hperm.mem_iff.2 (by simp))
    have hmv' := hmv.other r hrs hfr ho htp hou hsz hbl
    obtain ⟨b, nn, hS⟩ : ∃ b nn, S1 p.2 = some (b, nn) := by
      cases hk : S1 p.2 with
      | none => rw [(hties.none p.2).1 (kpOf_none hk)] at hq; cases hq
      | some x => exact ⟨x.1, x.2, rfl⟩
    have hrg := hmv'.rep.rng p.2 _ hS
    refine .inr ⟨p, w', b, hn, hen, by omega, by omega, ?_, ?_⟩
    · rw [hmv'.rep.cellT _ (by omega), hS]; rfl
    · rw [pt_perm hperm] at hties hon hbd
      have hcnt : IT.cnt T1 ≤ f := Nat.le_trans hst.steps.cnt hR
      refine (L w' t S1 T1 (pt pend (p :: rest)) p.2 b nn hmv'.rep hsd hties hbd hon (pt_mem (by simp)) hS hcnt).mono ?_
      rintro e w'' ⟨rfl, S2, T2, g1, g2, g3⟩
      rw [pt_less] at g2 g3
      have hlt := hit'.lt
      have nf : ∀ c, ¬ foot S1 t c → c < w'.heap.size → ¬ foot S2 t c := fun c hc hl hf => by
        rcases g1.grow c hf with e | e
        · exact hc e
        · omega
      have hit'' : Iter w'' r m l rest := hit'.same (g1.block m hlt.1 hfm) (g1.block r hlt.2 hfr)
      refine ⟨rfl, ⟨S2, T2, rest, hmv'.trans g1, nf m hfm hlt.1, nf r hfr hlt.2, hrs, hit'', g3.1.steps.sound hsd, g2, hst.trans (g3.1.mono fun i hi => ?_), g3.2, fun p' hp' => ?_, fun x => ?_⟩, ?_⟩
      · have : pend i + IT.pendL (ents rest) i = 0 := hi
        omega
      · obtain ⟨q', hq'⟩ := hall p' (hperm.mem_iff.2 (by simp [hp']))
        exact g3.1.keep (pt_mem hp') hq'
      · have h1 := lnk_steps g3.1.steps x
        have h2 := hbd x
        have h3 := less_le (pt pend (p :: rest)) p.2 x
        rw [pt_less] at h3
        omega
      · rw [hit''.left_eq, hit.left_eq, hperm.length_eq]; simp

set_option maxHeartbeats 800000 in
theorem gone_of {f : Nat} (L : LosesOk f) : GoneOk (f + 1) := by
  intro w t S T pend k b n h hsd hties hbd hcan hk hcnt
  by_cases hstay : 0 < n.links ∨ 0 < n.holds ∨ n.ino = 1
  · refine (gone_keep h hk hstay).mono ?_
    rintro e w' ⟨rfl, rfl⟩
    refine ⟨rfl, S, T, Mv.refl h, hties, IT.gone_stay hcan ?_⟩
    obtain ⟨m, hm⟩ := hties.get (kpOf_some hk)
    obtain ⟨_, _, _, _, _, a6, _, _, a9, _⟩ := hties.some k _ m (kpOf_some hk) hm
    have a6 : n.holds = (m.holds : Int) := a6
    have a9 : n.links = ((IT.lnk T k + pend k : Nat) : Int) := a9
    have hino := h.ino k b n hk
    by_cases hp : pend k = 0
    · refine .inl fun hc => ?_
      obtain ⟨c1, _, ⟨m', hm', c3⟩, c4⟩ := hc
      rw [hm] at hm'; obtain rfl := Option.some.inj hm'
      omega
    · exact .inr hp
  · have hl : n.links ≤ 0 := by omega
    have hh : n.holds ≤ 0 := by omega
    have hi : n.ino ≠ 1 := by omega
    obtain ⟨hc, hz, m, hm, hp⟩ := can_of h hties hk hl hh hi
    have hr := h.rng k _ hk
    have hcr : IT.cnt (IT.rem T k) ≤ f := by
      have := IT.cnt_rem (S := T) hr.2 (by rw [hm]; intro e; cases e)
      omega
    have c0 := h.c0 hk
    have c5 := h.c5 hk
    have c8 := h.c8 hk
    have c10 := h.c10 hk
    have hino := h.ino k b n hk
    obtain ⟨x, hx⟩ : ∃ x, w.cell? ⟨t, k, none⟩ = some x := ⟨_, h.cellT k (by omega)⟩
    have hf := h.frozenT k
    have htb : b ≠ t := h.neT hk
    rw [hino] at c0
    have hi' : ((k : Int) == 1) = false := by rw [hino] at hi; simpa using hi
    have hb1 : (1 : Int) ≤ k := by omega
    have hb2 : (k : Int) ≤ 200 := by omega
    have hl1 : decide (0 < n.links) = false := by simp; omega
    have hh1 : decide (0 < n.holds) = false := by simp; omega
    have HM := (Mv.refl h).setNone k
    have e3 : (w.setCell ⟨t, k, none⟩ (.pointer none)).drew.heap.size = w.heap.size := by simp [World.setCell, World.drew]
    cases hmp : n.mp with
    | none =>
      have hnil := h.nomap k b n hk hmp
      rw [hmp] at c10
      have hr1 : (Instr.range 84 (.map none)).run Try.prog (w.setCell ⟨t, k, none⟩ (.pointer none)).drew = .ok (.pointer (some ⟨w.heap.size, 0, none⟩)) ((w.setCell ⟨t, k, none⟩ (.pointer none)).alloc (.mapIter none 0 #[] 0)).drew := by
        have e := run_range_nilMap (w.setCell ⟨t, k, none⟩ (.pointer none)).drew 84 9 3 Try.underlying84
        rw [e3] at e; exact e
      have hr2 : ∀ ty, (Instr.next (.pointer (some ⟨w.heap.size, 0, none⟩)) false ty).run Try.prog ((w.setCell ⟨t, k, none⟩ (.pointer none)).alloc (.mapIter none 0 #[] 0)).drew = .ok (.tuple #[.bool false]) ((w.setCell ⟨t, k, none⟩ (.pointer none)).alloc (.mapIter none 0 #[] 0)).drew := by
        intro ty
        have e := run_next_nilMap (P := Try.prog) (w.setCell ⟨t, k, none⟩ (.pointer none)).drew ty 0 0 #[]
        rw [e3] at e; exact e
      have HT : ∃ S' T', Mv w t S (((w.setCell ⟨t, k, none⟩ (.pointer none)).alloc (.mapIter none 0 #[] 0)).drew) S' ∧ IT.Ties (kpOf S') T' pend ∧ IT.goneP pend T T' := by
        refine ⟨upd S k none, IT.rem T k, (HM.alloc (.mapIter none 0 #[] 0)).drew, ?_, IT.gone_goes hc hz ⟨.refl, ?_⟩⟩
        · have e := hties.rem hm hr.2
          rw [pl_lead hp, hnil, pt_nil] at e
          rw [kpOf_del]; exact e
        · have e := IT.Only.rem hcan hm hr.2
          rw [pl_lead hp, hnil, pt_nil] at e
          exact e
      have HH := Lib.hid HT
      clear e3 HM hr hi h hk hl hh hsd hties hbd hcan hcnt hstay hc hz hm hp hcr HT hmp hino
      go_enter Try.func77, Try.ntmps77
      go_wp2
      go_region
      go_wp2
      refine wp_loop_rounds 1 ?_
      rw [rounds_succ]
      go_wp2
      go_end0
      exact ⟨rfl, HH.out⟩
    | some mb =>
      obtain ⟨es, cl, hm1, hm2, hst⟩ := iter_start (w := (w.setCell ⟨t, k, none⟩ (.pointer none)).drew) (l := n.names) ((h.map k b n mb hk hmp).setCell h.tree _)
      have hr1 : (Instr.range 84 (.map (some mb))).run Try.prog (w.setCell ⟨t, k, none⟩ (.pointer none)).drew = .ok (.pointer (some ⟨w.heap.size, 0, none⟩)) ((w.setCell ⟨t, k, none⟩ (.pointer none)).alloc (.mapIter (some mb) cl #[] cl)).drew := by
        have e := run_range_map (w.setCell ⟨t, k, none⟩ (.pointer none)).drew 84 9 3 mb es cl Try.underlying84 hm1
        rw [e3] at e; exact e
      rw [hmp] at c10
      have hgl : GL w t w.heap.size mb S n.names pend (IT.rem T k) (((w.setCell ⟨t, k, none⟩ (.pointer none)).alloc (.mapIter (some mb) cl #[] cl)).drew) := by
        refine gl_start h hsd hties hbd hcan hk hc hm hp hmp (HM.alloc (.mapIter (some mb) cl #[] cl)).drew (Nat.le_refl _) ?_
        rw [e3] at hst; exact hst
      have HS := Lib.hid hgl
      have HG : Hid (∀ S' T', Mv w t S S' T' → True) := Lib.hid (fun _ _ _ => trivial)
      have HF : Hid (∀ T', IT.StepsP pend (IT.rem T k) T' → IT.Only T' pend → IT.goneP pend T T') := Lib.hid (fun T' h1 h2 => IT.gone_goes hc hz ⟨h1, h2⟩)
      have HL := Lib.hid L
      have HC := Lib.hid hcr
      clear e3 HM hr hi h hk hl hh hsd hties hbd hcan hcnt hstay hc hz hm hp hcr hmp hino hgl L hst hm1 hm2 HG
      go_enter Try.func77, Try.ntmps77
      go_wp2
      go_region
      go_wp2
      go_loopw [5] (fun _ wr => GL w t w.heap.size mb S n.names pend (IT.rem T k) wr) (fun _ wr => wr.rangeLeft mb w.heap.size)
      case atStart => exact HS.out
      case round =>
        rcases gl_next HL.out HC.out hrel with ⟨hn, hend⟩ | ⟨p, w', c, hn, hen, hp1, hp2, hct, hcall⟩
        · have HE := Lib.hid hend
          clear hend hrel
          go_wp2
          go_end0
          obtain ⟨S1, T1, g1, g2, g3, g4⟩ := HE.out
          exact ⟨rfl, S1, T1, g1, g2, HF.out T1 g3 g4⟩
        · have HK := Lib.hid hcall
          clear hcall hrel
          go_wp2_with fail
          refine HK.out.mono ?_
          rintro e w'' ⟨rfl, hg, hlt⟩
          have HGL := Lib.hid hg
          have HLT := Lib.hid hlt
          clear hg hlt
          go_wp2
          go_roundw
          case rel => exact HGL.out
          case measure => exact HLT.out
theorem cnt_pos {T : IT.Tr} {k : Nat} {m : IT.Nd} (hk : k ≤ 200) (hm : T k = some m) : 0 < IT.cnt T := by
  have := IT.cnt_rem (S := T) hk (by rw [hm]; intro e; cases e)
  omega
theorem gone_ok : ∀ f, GoneOk f
  | 0 => by
    intro w t S T pend k b n h hsd hties hbd hcan hk hcnt
    obtain ⟨m, hm⟩ := hties.get (kpOf_some hk)
    have := cnt_pos (h.rng k _ hk).2 hm
    omega
  | f + 1 => gone_of (loses_of (gone_ok f))
theorem loses_ok (f : Nat) : LosesOk f := loses_of (gone_ok f)
end Go.Proofs.Ytafonmnfeibaiaa
