/- A tree of inodes, plain: Move keeps it sound. No program in sight. -/
import Derived.Test.YtafonmnfeibaiaaITCl
namespace Go.Proofs.Ytafonmnfeibaiaa.IT
open Go.RowKit Classical

theorem del_at_x {S : Tr} {d x : Nat} {nm : Bytes} {n m : Nd} (hne : x ≠ d) : delT S d x nm n m x = some (alone x m) := by
  unfold delT; rw [upd_other _ _ hne, upd_same]
theorem del_at_d {S : Tr} {d x : Nat} {nm : Bytes} {n m : Nd} : delT S d x nm n m d = some { n with names := delN nm n.names } := upd_same _ _ _
theorem del_at {S : Tr} {d x j : Nat} {nm : Bytes} {n m : Nd} (h1 : j ≠ d) (h2 : j ≠ x) : delT S d x nm n m j = S j := by
  unfold delT; rw [upd_other _ _ h1, upd_other _ _ h2]
/-- A name stands once. -/
theorem names_one {l : List (Bytes × Nat)} (ho : Ord l) {nm : Bytes} {a b : Nat} (ha : (nm, a) ∈ l) (hb : (nm, b) ∈ l) : a = b := by
  induction l with
  | nil => cases ha
  | cons p l ih =>
    have ho2 := List.pairwise_cons.1 ho
    rcases List.mem_cons.1 ha with e1 | ha1
    · rcases List.mem_cons.1 hb with e | hb1
      · rw [← e1] at e; exact (Prod.mk.inj e).2.symm
      · have := ho2.1 _ hb1
        rw [← e1] at this
        exact absurd this (List.lt_irrefl _)
    · rcases List.mem_cons.1 hb with e | hb1
      · have := ho2.1 _ ha1
        rw [← e] at this
        exact absurd this (List.lt_irrefl _)
      · exact ih ho2.2 ha1 hb1
theorem isMove.sound {ok : Bytes → Bool} {S S' : Tr} {d b : Nat} {nm as : Bytes} {e : Int} (h : isMove ok S d nm b as e S') (hs : Sound ok S) : Sound ok S' := by
  unfold isMove at h
  cases hd : S d with
  | none => rw [hd] at h; exact h.2 ▸ hs
  | some n =>
    cases hb : S b with
    | none => rw [hd, hb] at h; exact h.2 ▸ hs
    | some q =>
      rw [hd, hb] at h
      dsimp only at h
      split at h
      · exact h.2 ▸ hs
      rename_i hk
      have hdk : n.kind = 1 := Decidable.not_not.1 fun hh => hk (.inl hh)
      have hbk : q.kind = 1 := Decidable.not_not.1 fun hh => hk (.inr hh)
      split at h
      · exact h.2 ▸ hs
      rename_i x hf
      obtain ⟨m, hx, h⟩ := h
      split at h
      · exact h.2 ▸ hs
      rename_i hok
      have hok : ok as = true := by cases hb : ok as with | true => rfl | false => exact absurd hb hok
      split at h
      · exact h.2 ▸ hs
      rename_i hw
      have hne := hs.1.apart hd hx hf
      have hd2 := (hs.1.rng d n hd).2
      have hx2 := (hs.1.rng x m hx).2
      have hb2 := (hs.1.rng b q hb).2
      have hxb : x ≠ b := fun e2 => by
        subst e2; rw [hx] at hb; obtain rfl := Option.some.inj hb
        exact hw ⟨hbk, .self⟩
      have s1 := hs.1.del hd hx hf
      have l1 : ∀ y, lnk (delT S d x nm n m) y + (if x = y then 1 else 0) = lnk S y := del_lnk hd hx hne hd2 hx2 (hs.1.ord d n hd) hf
      have l1x := l1 x
      rw [if_pos rfl] at l1x
      have hx1 : x ≠ 1 := fun e2 => by subst e2; have := hs.1.root0; omega
      have e1 : delT S d x nm n m x = some (alone x m) := del_at_x hne
      split at h
      · rename_i hfa
        split at h
        · exact h.2 ▸ hs
        rename_i hfull
        obtain ⟨_, q1, m1, hq1, hm1, rfl⟩ := h
        rw [e1] at hm1
        obtain rfl := Option.some.inj hm1
        have hq : q1.kind = 1 ∧ (∀ p ∈ q1.names, p.1 ≠ as) ∧ q1.names.length < 40 := by
          by_cases hdb : b = d
          · subst hdb
            rw [hd] at hb; obtain rfl := Option.some.inj hb
            rw [del_at_d] at hq1
            obtain rfl := Option.some.inj hq1
            have h2 := del_len (hs.1.ord b n hd) hf
            have h3 := hs.1.few b n hd
            exact ⟨hdk, fun p hp => find_none hfa p (List.mem_filter.1 hp).1, by show (delN nm n.names).length < 40; omega⟩
          · rw [del_at hdb (Ne.symm hxb), hb] at hq1
            obtain rfl := Option.some.inj hq1
            exact ⟨hbk, find_none hfa, Nat.lt_of_not_le fun hh => hfull ⟨Ne.symm hdb, hh⟩⟩
        refine ⟨s1.enter hq1 hq.1 e1 hq.2.1 hok hq.2.2 (by have := hs.1.many x; omega) fun hk1 => ⟨hx1, ?_, fun hh => ?_⟩, fun i hi => ?_⟩
        · rw [alone_kind] at hk1
          have := hs.1.once x m hx hk1; omega
        · rw [alone_kind] at hk1
          exact hw ⟨hk1, hh.del hd hx⟩
        · obtain ⟨g1, g2⟩ := ent_can hq1 e1 hxb hb2 hx2 hi
          rcases del_can hd hx hne hd2 hx2 (hs.1.ord d n hd) hf g2 with g3 | g3
          · exact g1 g3
          · exact hs.2 i g3
      · rename_i w hfa
        split at h
        · exact h.2 ▸ hs
        rename_i hwx
        obtain ⟨mw, hwS, h⟩ := h
        split at h
        · exact h.2 ▸ hs
        split at h
        · exact h.2 ▸ hs
        rename_i hemp
        have hemp : mw.names = [] := Decidable.not_not.1 hemp
        obtain ⟨_, q1, q2, m2, hq1, hq2, hm2, hnf⟩ := h
        have hwd : w ≠ d := fun e2 => by
          subst e2; rw [hd] at hwS; obtain rfl := Option.some.inj hwS
          rw [hemp] at hf; cases hf
        have hwb : w ≠ b := hs.1.apart hb hwS hfa
        have ew : delT S d x nm n m w = some mw := by rw [del_at hwd hwx]; exact hwS
        have hfq : q1.kind = 1 ∧ findN as q1.names = some w := by
          by_cases hdb : b = d
          · subst hdb
            rw [hd] at hb; obtain rfl := Option.some.inj hb
            rw [del_at_d] at hq1
            obtain rfl := Option.some.inj hq1
            refine ⟨hdk, ?_⟩
            show findN as (delN nm n.names) = some w
            have hna : as ≠ nm := fun e2 => by rw [e2, hf] at hfa; exact hwx (Option.some.inj hfa).symm
            have hp := del_perm (hs.1.ord b n hd) hf
            cases hff : findN as (delN nm n.names) with
            | none =>
              have := find_none hff (as, w) (List.mem_filter.2 ⟨find_mem hfa, by simp [hna]⟩)
              exact absurd rfl this
            | some w2 =>
              have hm := (List.mem_filter.1 (find_mem hff)).1
              have hm2 := find_mem hfa
              exact congrArg some (names_one (hs.1.ord b n hd) hm hm2)
          · rw [del_at hdb (Ne.symm hxb), hb] at hq1
            obtain rfl := Option.some.inj hq1
            exact ⟨hbk, hfa⟩
        have s2 := s1.del hq1 ew hfq.2
        have l2 := del_lnk hq1 ew hwb hb2 (hs.1.rng w mw hwS).2 (s1.ord b q1 hq1) hfq.2 x
        rw [if_neg hwx] at l2
        have e2 : delT (delT S d x nm n m) b w as q1 mw x = some (alone x m) := by
          rw [del_at hxb (Ne.symm hwx)]; exact e1
        rw [e2] at hm2
        obtain rfl := Option.some.inj hm2
        have hq2' := hq2
        rw [del_at_d] at hq2'
        obtain rfl := Option.some.inj hq2'
        refine hnf.sound (s2.enter hq2 hfq.1 e2 del_not hok ?_ (by have := hs.1.many x; omega) fun hk1 => ⟨hx1, ?_, fun hh => ?_⟩)
        · have h2 := del_len (s1.ord b q1 hq1) hfq.2
          have h3 := s1.few b q1 hq1
          show (delN as q1.names).length < 40
          omega
        · rw [alone_kind] at hk1
          have := hs.1.once x m hx hk1; omega
        · rw [alone_kind] at hk1
          exact hw ⟨hk1, (hh.del hq1 ew).del hd hx⟩
end Go.Proofs.Ytafonmnfeibaiaa.IT
