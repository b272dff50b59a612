/- A tree of inodes, plain: what stands between the steps of Move. No program in sight. -/
import Derived.Test.YtafonmnfeibaiaaITTm
namespace Go.Proofs.Ytafonmnfeibaiaa.IT
open Go.RowKit Classical

section
variable {ok : Bytes → Bool} {S : Tr} {d b x : Nat} {nm as : Bytes} {n q m : Nd}
variable (hs : Sound ok S) (hd : S d = some n) (hb : S b = some q) (hdk : n.kind = 1) (hbk : q.kind = 1) (hf : findN nm n.names = some x) (hx : S x = some m) (hok : ok as = true) (hw : ¬(m.kind = 1 ∧ Bel S x b))
include hs hd hb hdk hbk hf hx hok hw
theorem move_ne : x ≠ d ∧ x ≠ b ∧ x ≠ 1 := by
  have _ := hdk
  have _ := hok
  have hne := hs.1.apart hd hx hf
  refine ⟨hne, fun e2 => ?_, fun e2 => ?_⟩
  · subst e2; rw [hx] at hb; obtain rfl := Option.some.inj hb
    exact hw ⟨hbk, .self⟩
  · subst e2
    have l1 : lnk (delT S d 1 nm n m) 1 + (if 1 = 1 then 1 else 0) = lnk S 1 := del_lnk hd hx hne (hs.1.rng d n hd).2 (by omega) (hs.1.ord d n hd) hf 1
    have := hs.1.root0
    rw [if_pos rfl] at l1
    omega
/-- The directory that it goes to, when it is gone from the one where it was. -/
theorem move_q : ∃ q1, delT S d x nm n m b = some q1 ∧ q1.kind = 1 ∧ (q1 = if b = d then { n with names := delN nm n.names } else q) := by
  obtain ⟨hne, hxb, hx1⟩ := move_ne hs hd hb hdk hbk hf hx hok hw
  by_cases hdb : b = d
  · subst hdb
    rw [hd] at hb; obtain rfl := Option.some.inj hb
    exact ⟨_, del_at_d, hdk, by rw [if_pos rfl]⟩
  · exact ⟨q, by rw [del_at hdb (Ne.symm hxb)]; exact hb, hbk, by rw [if_neg hdb]⟩
theorem move_can {j : Nat} (h : can (delT S d x nm n m) j) : j = x := by
  obtain ⟨hne, hxb, hx1⟩ := move_ne hs hd hb hdk hbk hf hx hok hw
  rcases del_can hd hx hne (hs.1.rng d n hd).2 (hs.1.rng x m hx).2 (hs.1.ord d n hd) hf h with g | g
  · exact g
  · exact absurd g (hs.2 j)
theorem move_lnk (y : Nat) : lnk (delT S d x nm n m) y + single x y = lnk S y := by
  obtain ⟨hne, hxb, hx1⟩ := move_ne hs hd hb hdk hbk hf hx hok hw
  have := del_lnk (m := m) hd hx hne (hs.1.rng d n hd).2 (hs.1.rng x m hx).2 (hs.1.ord d n hd) hf y
  unfold single
  by_cases e : x = y
  · subst e; rw [if_pos rfl] at this ⊢; exact this
  · rw [if_neg e] at this; rw [if_neg (Ne.symm e)]; exact this
section
variable {w : Nat} {mw : Nd} (hfa : findN as q.names = some w) (hwx : w ≠ x) (hwS : S w = some mw) (hemp : mw.names = [])
include hfa hwx hwS hemp
/-- One that stood under the name goes. -/
theorem move_over : ∃ q1, delT S d x nm n m b = some q1 ∧ q1.kind = 1 ∧ (q1 = if b = d then { n with names := delN nm n.names } else q) ∧ findN as q1.names = some w ∧ w ≠ b ∧ w ≠ d ∧ delT S d x nm n m w = some mw ∧
    Sound0 ok (delT S d x nm n m) ∧
    Sound0 ok (entT (delT (delT S d x nm n m) b w as q1 mw) b x as { q1 with names := delN as q1.names } (alone x m)) ∧
    (∀ j, can (entT (delT (delT S d x nm n m) b w as q1 mw) b x as { q1 with names := delN as q1.names } (alone x m)) j → j = w) ∧
    ∀ y, lnk (entT (delT (delT S d x nm n m) b w as q1 mw) b x as { q1 with names := delN as q1.names } (alone x m)) y + single w y = lnk S y := by
  obtain ⟨hne, hxb, hx1⟩ := move_ne hs hd hb hdk hbk hf hx hok hw
  obtain ⟨q1, hq1, hq1k, hq1e⟩ := move_q hs hd hb hdk hbk hf hx hok hw
  have hd2 := (hs.1.rng d n hd).2
  have hx2 := (hs.1.rng x m hx).2
  have hb2 := (hs.1.rng b q hb).2
  have hw2 := (hs.1.rng w mw hwS).2
  have s1 := hs.1.del hd hx hf
  have e1 : delT S d x nm n m x = some (alone x m) := del_at_x hne
  have hwd : w ≠ d := fun e2 => by
    subst e2; rw [hd] at hwS; obtain rfl := Option.some.inj hwS
    rw [hemp] at hf; cases hf
  have hwb : w ≠ b := hs.1.apart hb hwS hfa
  have ew : delT S d x nm n m w = some mw := by rw [del_at hwd hwx]; exact hwS
  have hfq : findN as q1.names = some w := by
    by_cases hdb : b = d
    · rw [if_pos hdb] at hq1e
      subst hq1e
      subst hdb
      rw [hd] at hb; obtain rfl := Option.some.inj hb
      show findN as (delN nm n.names) = some w
      have hna : as ≠ nm := fun e2 => by rw [e2, hf] at hfa; exact hwx (Option.some.inj hfa).symm
      cases hff : findN as (delN nm n.names) with
      | none =>
        have := find_none hff (as, w) (List.mem_filter.2 ⟨find_mem hfa, by simp [hna]⟩)
        exact absurd rfl this
      | some w2 =>
        have hm := (List.mem_filter.1 (find_mem hff)).1
        have hm2 := find_mem hfa
        exact congrArg some (names_one (hs.1.ord b n hd) hm hm2)
    · rw [if_neg hdb] at hq1e
      subst hq1e
      exact hfa
  have s2 := s1.del hq1 ew hfq
  have l2 := del_lnk hq1 ew hwb hb2 hw2 (s1.ord b q1 hq1) hfq
  have e2 : delT (delT S d x nm n m) b w as q1 mw x = some (alone x m) := by
    rw [del_at hxb (Ne.symm hwx)]; exact e1
  have hq2 : delT (delT S d x nm n m) b w as q1 mw b = some { q1 with names := delN as q1.names } := del_at_d
  have l1 := move_lnk hs hd hb hdk hbk hf hx hok hw
  have l1x := l1 x
  rw [single_same] at l1x
  have l2x := l2 x
  rw [if_neg hwx] at l2x
  refine ⟨q1, hq1, hq1k, hq1e, hfq, hwb, hwd, ew, s1, s2.enter hq2 hq1k e2 del_not hok ?_ (by have := hs.1.many x; omega) fun hk1 => ⟨hx1, ?_, fun hh => ?_⟩, fun j hj => ?_, fun y => ?_⟩
  · have h2 := del_len (s1.ord b q1 hq1) hfq
    have h3 := s1.few b q1 hq1
    show (delN as q1.names).length < 40
    omega
  · rw [alone_kind] at hk1
    have := hs.1.once x m hx hk1; omega
  · rw [alone_kind] at hk1
    exact hw ⟨hk1, (hh.del hq1 ew).del hd hx⟩
  · obtain ⟨g1, g2⟩ := ent_can hq2 e2 hxb hb2 hx2 hj
    rcases del_can hq1 ew hwb hb2 hw2 (s1.ord b q1 hq1) hfq g2 with g3 | g3
    · exact g3
    · exact absurd (move_can hs hd hb hdk hbk hf hx hok hw g3) g1
  · have h1 := ent_lnk (nm := as) hq2 e2 hxb hb2 hx2 y
    have h2 := l2 y
    have h3 := l1 y
    unfold single at h3 ⊢
    by_cases ex : x = y
    · subst ex
      rw [if_pos rfl] at h1 h3
      rw [if_neg hwx] at h2
      rw [if_neg (Ne.symm hwx)]
      omega
    · rw [if_neg ex] at h1
      rw [if_neg (Ne.symm ex)] at h3
      by_cases ew2 : w = y
      · subst ew2
        rw [if_pos rfl] at h2
        rw [if_pos rfl]
        omega
      · rw [if_neg ew2] at h2
        rw [if_neg (Ne.symm ew2)]
        omega
end
end
theorem pend_comm (a x w : Nat → Nat) : (fun y => (a y + x y) + w y) = fun y => (a y + w y) + x y := by funext y; omega
end Go.Proofs.Ytafonmnfeibaiaa.IT
