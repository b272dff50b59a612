/- ModeRoot. -/
import Derived.Test.YtpoicdpfjmeehaaDoorG
namespace Go.Proofs.YtpoicdpfjmeehaaDoor
open Go.RowKit

theorem and_mode (m : Int) : ∃ n : Nat, bits .and .i64 m 3071 = (n : Int) ∧ n ≤ 3071 ∧ rightB (n : Int) = true := by
  have h2 : (BitVec.ofInt 64 (3071 : Int)).toNat = 3071 := by decide
  have h0 : (BitVec.ofInt 64 m &&& BitVec.ofInt 64 (3071 : Int)).toNat = (BitVec.ofInt 64 m).toNat &&& 3071 := by rw [BitVec.toNat_and, h2]
  have hle : (BitVec.ofInt 64 m).toNat &&& 3071 ≤ 3071 := Nat.and_le_right
  refine ⟨(BitVec.ofInt 64 m).toNat &&& 3071, ?_, hle, ?_⟩
  · have h3 : bits .and .i64 m 3071 = IntKind.i64.wrap ((BitVec.ofInt 64 m &&& BitVec.ofInt 64 (3071 : Int)).toNat : Int) := rfl
    rw [h3, h0, IntKind.wrap_i64]
    omega
  · rw [right_iff (by unfold big; omega), Nat.and_assoc, Nat.and_self]
theorem may_root {n : Nat} (hr : rightB (n : Int) = true) (o g : Int) (dir : Bool) (gid : Int) (want : Nat) (h1 : 1 ≤ want) (h7 : want ≤ 7) : mayS n o g dir 0 gid want = (dir || ((want &&& 1) == 0) || !((n &&& 73) == 0)) := by
  unfold mayS
  rw [if_neg (by rw [hr]; simp; omega), if_pos rfl]
  rfl

set_option maxHeartbeats 1000000 in
/-- ModeRoot. -/
theorem root_law (m owner group gid : Int) (w : World) (hM : HasM w) :
    Calls Tryd.prog 10 #[.int .i64 m, .int .i64 owner, .int .i64 group, .int .i64 gid] w fun e w' => e = .returned (.bool true) ∧ Below w.heap.size w w' := by
  obtain ⟨n, hn, hn2, hr⟩ := and_mode m
  have m1 := may_root hr owner group true gid 7 (by decide) (by decide)
  have m2 := may_root hr owner group false gid 6 (by decide) (by decide)
  have m3 := may_root hr owner group false gid 1 (by decide) (by decide)
  have m4 := may_root hr owner group false gid 7 (by decide) (by decide)
  have k1 : bits .and .i64 (n : Int) 73 = ((n &&& 73 : Nat) : Int) := and_nat (b := 73) (by unfold big; omega) (by decide)
  generalize n &&& 73 = z at *
  have M1 := Lib.hid m1
  have M2 := Lib.hid m2
  have M3 := Lib.hid m3
  have M4 := Lib.hid m4
  clear m1 m2 m3 m4 hr hn2
  go_enter Tryd.func10, Tryd.ntmps10
  go_wp2_with fail
  refine (shown_any _ hM).mono ?_
  rintro e w1 ⟨rfl, hb⟩
  have HB := Lib.hid hb
  clear hb
  go_wp2_with fail
  refine (may_any n owner group true 0 gid 7 _).mono ?_
  rintro e w2 ⟨he, rfl⟩
  have M1' : mayS n owner group true 0 gid 7 = true := M1.out
  rw [M1'] at he
  subst he
  clear M1'
  go_wp2_with fail
  refine (may_any n owner group false 0 gid 6 _).mono ?_
  rintro e w2 ⟨he, rfl⟩
  have M2' : mayS n owner group false 0 gid 6 = true := M2.out
  rw [M2'] at he
  subst he
  clear M2'
  go_wp2_with fail
  refine (may_any n owner group false 0 gid 1 _).mono ?_
  rintro e w2 ⟨he, rfl⟩
  have M3' : mayS n owner group false 0 gid 1 = !(z == 0) := M3.out
  rw [M3'] at he
  subst he
  clear M3'
  by_cases hz : z = 0
  · subst hz
    go_wp2_with fail
    refine (may_any n owner group false 0 gid 7 _).mono ?_
    rintro e w2 ⟨he, rfl⟩
    have M4' : mayS n owner group false 0 gid 7 = false := M4.out
    rw [M4'] at he
    subst he
    clear M4'
    go_wp2
    go_ret
    exact ⟨rfl, HB.out⟩
  · have hz1 : ¬ (z : Int) = 0 := by omega
    have hz2 : (z == 0) = false := by simpa using hz
    have M4' : mayS n owner group false 0 gid 7 = true := by
      have := M4.out
      rw [hz2] at this; exact this
    have H4 := Lib.hid M4'
    clear M4' hz
    go_wp2_with fail
    refine (may_any n owner group false 0 gid 7 _).mono ?_
    rintro e w2 ⟨he, rfl⟩
    rw [H4.out] at he
    subst he
    go_wp2
    go_ret
    refine ⟨?_, HB.out⟩
    have hz3 : ((z : Int) != 0) = true := by simpa using hz1
    show Ending.returned (Value.bool ((z : Int) != 0)) = _
    rw [hz3]
end Go.Proofs.YtpoicdpfjmeehaaDoor
