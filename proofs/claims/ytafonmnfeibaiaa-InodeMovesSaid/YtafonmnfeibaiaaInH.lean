import Derived.Test.YtafonmnfeibaiaaInG
import Derived.LaidEqlPtr
import Derived.Lib.Builder
namespace Go.Proofs.Ytafonmnfeibaiaa
open Go.RowKit

theorem belowDrewN {B : Nat} {a w : World} (h : Below B a w) (n : Nat) : Below B a (w.drewN n) := h.trans ⟨rfl, rfl, rfl, Nat.le_refl _, fun _ _ => rfl⟩
theorem info55 : (Try.prog.info? 86).map (fun i => i.size) = some 12 := by kernel_rfl
theorem neq_nodes {w : World} {b c : Nat} {C D : Array Value} {T U : TypeId} (hb : w.heap[b]? = some (.cells C T (0, 0))) (hc : w.heap[c]? = some (.cells D U (0, 0))) (hne : b ≠ c) :
    (binOp .neq 68 (.pointer (some ⟨b, 0, none⟩)) (.pointer (some ⟨c, 0, none⟩))).run Try.prog w = .ok (.bool true) w := by
  obtain ⟨j, hj, hsz⟩ : ∃ j, Try.prog.info? 86 = some j ∧ j.size = 12 := by
    have := info55
    cases h : Try.prog.info? 86 with
    | none => rw [h] at this; simp at this
    | some j => rw [h] at this; exact ⟨j, rfl, by simpa using this⟩
  have h : ∀ d : Nat, (Op.equalIn (d + 1) 68 (.pointer (some ⟨b, 0, none⟩)) (.pointer (some ⟨c, 0, none⟩))).run Try.prog w = .ok false w := fun d => by
    simp [Op.equalIn, run_underlying Try.underlying68, sizeOf, typeInfo, hj, hsz, run_sameAddr_other (a := ⟨b, 0, none⟩) (b := ⟨c, 0, none⟩) w (fun e => hne (by cases e; rfl)) hb hc]
  simp only [binOp]
  simp [Op.equal, Op.maxDepth, h 9999]
theorem eql_nodes {w : World} {b c : Nat} {C D : Array Value} {T U : TypeId} (hb : w.heap[b]? = some (.cells C T (0, 0))) (hc : w.heap[c]? = some (.cells D U (0, 0))) (hne : b ≠ c) :
    (binOp .eql 68 (.pointer (some ⟨b, 0, none⟩)) (.pointer (some ⟨c, 0, none⟩))).run Try.prog w = .ok (.bool false) w := by
  obtain ⟨j, hj, hsz⟩ : ∃ j, Try.prog.info? 86 = some j ∧ j.size = 12 := by
    have := info55
    cases h : Try.prog.info? 86 with
    | none => rw [h] at this; simp at this
    | some j => rw [h] at this; exact ⟨j, rfl, by simpa using this⟩
  exact run_eql_ptr_other (a := ⟨b, 0, none⟩) (b := ⟨c, 0, none⟩) w Try.underlying68 hj (by omega) (fun e => hne (by cases e; rfl)) hb hc

theorem neq_self (w : World) (b : Nat) : (binOp .neq 68 (.pointer (some ⟨b, 0, none⟩)) (.pointer (some ⟨b, 0, none⟩))).run Try.prog w = .ok (.bool false) w := by
  obtain ⟨j, hj, hsz⟩ : ∃ j, Try.prog.info? 86 = some j ∧ j.size = 12 := by
    have := info55
    cases h : Try.prog.info? 86 with
    | none => rw [h] at this; simp at this
    | some j => rw [h] at this; exact ⟨j, rfl, by simpa using this⟩
  exact Lib.run_neq_ptr_same w ⟨b, 0, none⟩ Try.underlying68 hj
theorem eql_self (w : World) (b : Nat) : (binOp .eql 68 (.pointer (some ⟨b, 0, none⟩)) (.pointer (some ⟨b, 0, none⟩))).run Try.prog w = .ok (.bool true) w := by
  obtain ⟨j, hj, hsz⟩ : ∃ j, Try.prog.info? 86 = some j ∧ j.size = 12 := by
    have := info55
    cases h : Try.prog.info? 86 with
    | none => rw [h] at this; simp at this
    | some j => rw [h] at this; exact ⟨j, rfl, by simpa using this⟩
  exact run_eql_ptr_same w ⟨b, 0, none⟩ Try.underlying68 hj

/-! ### Whether a directory stands within another one -/
/-- The rank of a pointer to a node. -/
noncomputable def rkV (S : Tab) (h : Nat → Nat) (v : Value) : Nat := @dite _ (∃ k b n, S k = some (b, n) ∧ v = .pointer (some ⟨b, 0, none⟩)) (Classical.propDecidable _) (fun hh => h (Classical.choose hh)) (fun _ => 0)
theorem rkV_eq {w : World} {t : Nat} {S : Tab} (hr : Rep w t S) (h : Nat → Nat) {k b : Nat} {n : Nd} (hk : S k = some (b, n)) : rkV S h (.pointer (some ⟨b, 0, none⟩)) = h k := by
  have hh : ∃ k' b' n', S k' = some (b', n') ∧ Value.pointer (some ⟨b, 0, none⟩) = .pointer (some ⟨b', 0, none⟩) := ⟨k, b, n, hk, rfl⟩
  unfold rkV
  rw [dif_pos hh]
  obtain ⟨b', n', h1, h2⟩ := Classical.choose_spec hh
  have e : b = b' := by cases h2; rfl
  subst e
  rw [hr.inj _ _ _ _ _ h1 hk]
theorem Rep.drewN {w : World} {t : Nat} {S : Tab} (h : Rep w t S) (n : Nat) : Rep (w.drewN n) t S := h.same (fun _ _ => rfl)
/-- Where within's loop stands. -/
def WL (w : World) (S : Tab) (T : IT.Tr) (x d : Nat) (v : Value) (wr : World) : Prop := ∃ (k b : Nat) (n : Nd) (m : IT.Nd), v = .pointer (some ⟨b, 0, none⟩) ∧ S k = some (b, n) ∧ T k = some m ∧ m.kind = 1 ∧ (IT.Bel T x d ↔ IT.Bel T x k) ∧ ∃ z, wr = w.drewN z

set_option maxHeartbeats 800000 in
theorem within_any {w : World} {t b c d x : Nat} {S : Tab} {T : IT.Tr} {n m : Nd} {q : IT.Nd} (h : Tre w t S T) (hd : S d = some (b, n)) (hx : S x = some (c, m)) (hq : T d = some q) (hk1 : q.kind = 1) :
    Calls Try.prog 51 #[.pointer (some ⟨t, 0, none⟩), .pointer (some ⟨b, 0, none⟩), .pointer (some ⟨c, 0, none⟩)] w fun e w' => ∃ r : Bool, e = .returned (.bool r) ∧ (r = true ↔ IT.Bel T x d) ∧ Below w.heap.size w w' := by
  obtain ⟨rk, hrk1, hrk2⟩ := h.snd.1.rank
  have HR := Lib.hid h
  have HX := Lib.hid hx
  have HS : Hid (WL w S T x d (.pointer (some ⟨b, 0, none⟩)) w) := Lib.hid ⟨d, b, n, q, rfl, hd, hq, hk1, Iff.rfl, 0, rfl⟩
  have HK2 := Lib.hid hrk2
  clear h hx hd hq hk1 hrk1 hrk2
  go_enter Try.func51, Try.ntmps51
  go_wp2
  go_loopw [1] (fun v wr => WL w S T x d v wr) (fun v _ => rkV S rk v)
  case atStart => exact HS.out
  case round =>
    obtain ⟨k, b', n', m', rfl, hk, hT, hkd, hiff, z, hz⟩ := hrel
    have hrep : Rep wr t S := by rw [hz]; exact HR.out.rep.drewN z
    have HZ := Lib.hid hz
    have HI := Lib.hid hiff
    have HKd := Lib.hid hkd
    have hkp := HR.out.ties.kept (kpOf_some hk) hT
    have hpar : n'.parent = m'.parent := hkp.parent
    have c0 := hrep.c0 hk
    have c11 := hrep.c11 hk
    rw [hrep.ino k b' n' hk] at c0
    by_cases hkx : k = x
    · have hbc : b' = c := by
        have := HX.out
        rw [← hkx, hk] at this
        exact (Prod.mk.inj (Option.some.inj this)).1
      subst hbc
      have q1 : ∀ i, (binOp .neq 68 (.pointer (some ⟨b', 0, none⟩)) (.pointer (some ⟨b', 0, none⟩))).run Try.prog (wr.drewN i) = .ok (.bool false) (wr.drewN i) := fun i => neq_self _ _
      have q2 : ∀ i, (binOp .eql 68 (.pointer (some ⟨b', 0, none⟩)) (.pointer (some ⟨b', 0, none⟩))).run Try.prog (wr.drewN i) = .ok (.bool true) (wr.drewN i) := fun i => eql_self _ _
      have HE : Hid (IT.Bel T x d) := Lib.hid (HI.out.2 (by rw [hkx]; exact .self))
      clear hz hiff hkd hkp hpar hk hT hrep hkx
      go_wp2
      go_quiet (fail)
      go_wp2
      go_ret
      refine ⟨true, rfl, ⟨fun _ => HE.out, fun _ => rfl⟩, ?_⟩
      rw [HZ.out]
      exact belowDrewN (belowDrewN (Below.refl _ _) _) _
    · have hbc : b' ≠ c := fun e => hkx (HR.out.rep.inj _ _ _ _ _ hk (e ▸ HX.out))
      have q1 : ∀ i, (binOp .neq 68 (.pointer (some ⟨b', 0, none⟩)) (.pointer (some ⟨c, 0, none⟩))).run Try.prog (wr.drewN i) = .ok (.bool true) (wr.drewN i) := fun i => neq_nodes (w := wr.drewN i) ((hrep.drewN i).node k b' n' hk) ((hrep.drewN i).node x c m HX.out) hbc
      have q2 : ∀ i, (binOp .eql 68 (.pointer (some ⟨b', 0, none⟩)) (.pointer (some ⟨c, 0, none⟩))).run Try.prog (wr.drewN i) = .ok (.bool false) (wr.drewN i) := fun i => eql_nodes (w := wr.drewN i) ((hrep.drewN i).node k b' n' hk) ((hrep.drewN i).node x c m HX.out) hbc
      by_cases hp : m'.parent = k
      · have HE : Hid (¬ IT.Bel T x d) := Lib.hid (fun hh => IT.bel_top hT hkx hp (HI.out.1 hh))
        rw [hpar, hp] at c11
        clear hz hiff hkd hkp hpar hk hT hrep hkx hp hbc
        go_wp2
        go_quiet (fail)
        go_wp2
        go_ret
        refine ⟨false, rfl, ⟨fun hh => (by cases hh), fun hh => absurd hh HE.out⟩, ?_⟩
        rw [HZ.out]
        exact belowDrewN (belowDrewN (Below.refl _ _) _) _
      · obtain ⟨hlt, m2, hm2, hm2k⟩ := HK2.out k m' hT hkd hp
        obtain ⟨b2, n2, hS2, _⟩ := HR.out.back hm2
        have hrg := HR.out.rep.rng _ _ hS2
        rw [hpar] at c11
        have ct : wr.cell? ⟨t, m'.parent, none⟩ = some (.pointer (some ⟨b2, 0, none⟩)) := by rw [hrep.cellT _ (by omega), hS2]; rfl
        have hn1 : ((m'.parent : Int) != (k : Int)) = true := by
          have : ¬ (m'.parent : Int) = k := by omega
          simpa using this
        have hn2 : ((m'.parent : Int) == (k : Int)) = false := by
          have : ¬ (m'.parent : Int) = k := by omega
          simpa using this
        have hb1 : 1 ≤ (m'.parent : Int) := by omega
        have hb2 : (m'.parent : Int) ≤ 200 := by omega
        have HW : Hid (∀ j, WL w S T x d (.pointer (some ⟨b2, 0, none⟩)) (wr.drewN j)) := Lib.hid (fun j => ⟨m'.parent, b2, n2, m2, rfl, hS2, hm2, hm2k, HI.out.trans (IT.bel_step hT hkd hkx hp), z + j, by rw [hz]; show _ = _; rw [World.drewN_drewN]⟩)
        have HM : Hid (rkV S rk (.pointer (some ⟨b2, 0, none⟩)) < rkV S rk (.pointer (some ⟨b', 0, none⟩))) := Lib.hid (by rw [rkV_eq HR.out.rep rk hS2, rkV_eq HR.out.rep rk hk]; exact hlt)
        clear hz hiff hkd hkp hpar hk hT hrep hkx hp hbc hlt hm2 hm2k hS2 hrg
        go_wp2
        go_quiet (fail)
        go_wp2
        go_quiet (fail)
        go_wp2
        go_roundw
        case rel =>
          have e := HW.out
          first | exact e _ | (simp only [World.drewN_drewN]; exact e _)
        case measure => exact HM.out
end Go.Proofs.Ytafonmnfeibaiaa
