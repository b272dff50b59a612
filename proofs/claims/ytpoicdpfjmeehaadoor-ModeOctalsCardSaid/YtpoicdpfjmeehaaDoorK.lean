/- ModeTells. -/
import Derived.Test.YtpoicdpfjmeehaaDoorJ
import Derived.Deep.CutRange
namespace Go.Proofs.YtpoicdpfjmeehaaDoor
open Go.RowKit

theorem and_mode2 (m : Int) : ∃ n : Nat, bits .and .i64 m 3071 = (n : Int) ∧ n ≤ 3071 ∧ rightB (n : Int) = true ∧ n &&& 3071 = n := by
  obtain ⟨n, h1, h2, h3⟩ := and_mode m
  exact ⟨n, h1, h2, h3, (right_iff (by unfold big; omega)).1 h3⟩
/-- What is made of a number of a kind. -/
def kz (k : Int) : Int := (if k < 0 then -(k + 1) else k)
theorem kz_mod (k : Int) : ∃ q : Nat, Int.tmod (kz k) 3 = (q : Int) ∧ q ≤ 2 := by
  have h : 0 ≤ kz k := by unfold kz; split <;> omega
  have h2 : Int.tmod (kz k) 3 = kz k % 3 := Int.tmod_eq_emod_of_nonneg h
  exact ⟨(kz k % 3).toNat, by rw [h2]; omega, by omega⟩

set_option maxHeartbeats 2000000 in
/-- ModeTells. -/
theorem tells_law (a b k o : Int) (w : World) (hk : -9223372036854775808 ≤ k ∧ k ≤ 9223372036854775807) (ho : -9223372036854775808 ≤ o ∧ o ≤ 9223372036854775807) (hM : HasM w) :
    Calls Tryd.prog 7 #[.int .i64 a, .int .i64 b, .int .i64 k, .int .i64 o] w fun e w' => e = .returned (.bool true) ∧ Below w.heap.size w w' := by
  obtain ⟨n, hn, hn2, hr, hna⟩ := and_mode2 a
  obtain ⟨n', hn', hn2', hr', hna'⟩ := and_mode2 b
  obtain ⟨q, hq, hq2⟩ := kz_mod k
  obtain ⟨q', hq', hq2'⟩ := kz_mod o
  have HI := Lib.hid (text_inj hq2 hq2' hn2 hn2' hna hna')
  have H1 := Lib.hid (And.intro hq2 (And.intro hr hn2))
  have H2 := Lib.hid (And.intro hq2' (And.intro hr' hn2'))
  clear hq2 hr hn2 hq2' hr' hn2' hna hna'
  have w1 : k < 0 → IntKind.i64.wrap (-(k + 1)) = -(k + 1) := fun h => by rw [IntKind.wrap_i64]; omega
  have w2 : o < 0 → IntKind.i64.wrap (-(o + 1)) = -(o + 1) := fun h => by rw [IntKind.wrap_i64]; omega
  go_enter Tryd.func7, Tryd.ntmps7
  go_wp2_with fail
  refine (shown_any _ hM).mono ?_
  rintro e w3 ⟨rfl, hb⟩
  have HB := Lib.hid hb
  clear hb
  go_upto_if 17 with fail
  go_cut [2] from 18 to 20 (fun v wx => v = .int .i64 (kz k) ∧ wx = w3)
  case first =>
    by_cases h0 : k < 0
    · have := w1 h0
      have hz : kz k = -(k + 1) := by unfold kz; rw [if_pos h0]
      go_wp2_with fail
      go_meet
      exact ⟨by rw [hz], rfl⟩
    · have hz : kz k = k := by unfold kz; rw [if_neg h0]
      go_wp2_with fail
      go_meet
      exact ⟨by rw [hz], rfl⟩
  case rest =>
    obtain ⟨rfl, rfl⟩ := hcut
    go_upto_if 22 with fail
    go_cut [3] from 23 to 25 (fun v wx => v = .int .i64 (kz o) ∧ wx = wc)
    case first =>
      by_cases h0 : o < 0
      · have := w2 h0
        have hz : kz o = -(o + 1) := by unfold kz; rw [if_pos h0]
        go_wp2_with fail
        go_meet
        exact ⟨by rw [hz], rfl⟩
      · have hz : kz o = o := by unfold kz; rw [if_neg h0]
        go_wp2_with fail
        go_meet
        exact ⟨by rw [hz], rfl⟩
    case rest =>
      obtain ⟨rfl, rfl⟩ := hcut
      clear w1 w2 hk ho
      go_wp2_with fail
      refine (text_any q n H1.out.1 H1.out.2.1 H1.out.2.2 _).mono ?_
      rintro e w4 ⟨s1, hs1, rfl, hb4⟩
      have hz1 : (s1.size : Int) = 10 := by
        have := congrArg List.length hs1
        simp [textS, tbs_len] at this
        omega
      have HS1 := Lib.hid hs1
      have HB4 := Lib.hid (HB.out.trans (hb4.mono HB.out.size))
      clear hs1 hb4
      go_wp2_with fail
      refine (text_any q' n' H2.out.1 H2.out.2.1 H2.out.2.2 _).mono ?_
      rintro e w5 ⟨s2, hs2, rfl, hb5⟩
      have HB5 := Lib.hid (HB4.out.trans (hb5.mono HB4.out.size))
      have heq : s1.toList = s2.toList ↔ n = n' ∧ q = q' := by
        rw [Lib.toList_data, Lib.toList_data, HS1.out, hs2]; exact HI.out
      have HE := Lib.hid heq
      clear hs2 hb5 heq
      by_cases hnn : n = n'
      · by_cases hqq : q = q'
        · have he : (s1.toList == s2.toList) = true := beq_iff_eq.2 (HE.out.2 ⟨hnn, hqq⟩)
          subst hnn hqq
          go_wp2
          go_ret
          exact ⟨rfl, HB5.out⟩
        · have he : (s1.toList == s2.toList) = false := by
            cases hh : s1.toList == s2.toList with
            | false => rfl
            | true => exact absurd (HE.out.1 (beq_iff_eq.1 hh)).2 hqq
          have hq1 : ((q : Int) == (q' : Int)) = false := by rw [cast_beq]; simpa using hqq
          subst hnn
          clear hqq
          go_wp2
          go_ret
          exact ⟨rfl, HB5.out⟩
      · have he : (s1.toList == s2.toList) = false := by
          cases hh : s1.toList == s2.toList with
          | false => rfl
          | true => exact absurd (HE.out.1 (beq_iff_eq.1 hh)).1 hnn
        have hn1 : ((n : Int) == (n' : Int)) = false := by rw [cast_beq]; simpa using hnn
        clear hnn
        go_wp2
        go_ret
        exact ⟨rfl, HB5.out⟩
theorem i64_rng {a : Int} (h : (Lit.int .i64 a).wf = true) : -9223372036854775808 ≤ a ∧ a ≤ 9223372036854775807 := by
  simp only [Lit.wf, Bool.and_eq_true, decide_eq_true_eq] at h
  exact h
end Go.Proofs.YtpoicdpfjmeehaaDoor
