import Derived.Test.YtafonmnfeibaiaaProg
import Derived.Test.YtafonmnfeibaiaaInRep
import Derived.WalkKit
import Derived.WalkLawsBesides
import Derived.WalkSpells
import Derived.Outline
import Derived.Below
import Derived.Lib.Hide
namespace Go.Proofs.Ytafonmnfeibaiaa
open Go.RowKit

theorem ret_bool {a b : Bool} (h : a = b) : Ending.returned (.bool a) = .returned (.bool b) := by rw [h]
theorem ret_int {k : IntKind} {a b : Int} (h : a = b) : Ending.returned (.int k a) = .returned (.int k b) := by rw [h]

theorem eqlIn_nil_left {P : Program} (w : World) (d : Nat) (t : TypeId) (p : Option Addr) (h : P.underlying t = some (.pointer (P.pointee t))) :
    (Op.equalIn (d + 1) t (.pointer none) (.pointer p)).run P w = .ok p.isNone w := by
  cases p <;> simp [Op.equalIn, run_underlying h]
theorem eql_nil_some {P : Program} (w : World) (t : TypeId) (a : Addr) (h : P.underlying t = some (.pointer (P.pointee t))) :
    (binOp .eql t (.pointer none) (.pointer (some a))).run P w = .ok (.bool false) w := by
  have h1 : (Op.equal t (.pointer none) (.pointer (some a))).run P w = .ok false w := eqlIn_nil_left w 9999 t (some a) h
  simp only [binOp]
  simp [h1]

/-- May a mode and ids be? -/
def rightB (m o g : Int) : Bool := (bits .and .i64 m 3071 == m) && decide (0 ≤ o ∧ 0 ≤ g ∧ o ≤ 65535 ∧ g ≤ 65535)

set_option maxHeartbeats 400000 in
theorem right_any (m o g : Int) (w : World) :
    Calls Try.prog 32 #[.int .i64 m, .int .i64 o, .int .i64 g] w fun e w' => e = .returned (.bool (rightB m o g)) ∧ w = w' := by
  go_enter Try.func32, Try.ntmps32
  go_wp2
  all_goals go_ret
  all_goals exact ⟨ret_bool (by rw [Bool.eq_iff_iff]; simp [rightB, *]; try omega), rfl⟩

set_option maxHeartbeats 400000 in
theorem at_some (t b : Nat) (k : Int) (hk1 : 1 ≤ k) (hk2 : k < 201) (w : World) (hc : w.cell? ⟨t, k.toNat, none⟩ = some (.pointer (some ⟨b, 0, none⟩))) :
    Calls Try.prog 41 #[.pointer (some ⟨t, 0, none⟩), .int .i64 k] w fun e w' => e = .returned (.pointer (some ⟨b, 0, none⟩)) ∧ w = w' := by
  go_enter Try.func41, Try.ntmps41
  go_wp2
  go_ret
  exact ⟨rfl, rfl⟩
set_option maxHeartbeats 400000 in
theorem at_nil (t : Nat) (k : Int) (hk1 : 1 ≤ k) (hk2 : k < 201) (w : World) (hc : w.cell? ⟨t, k.toNat, none⟩ = some (.pointer none)) :
    Calls Try.prog 41 #[.pointer (some ⟨t, 0, none⟩), .int .i64 k] w fun e w' => e = .returned (.pointer none) ∧ w = w' := by
  go_enter Try.func41, Try.ntmps41
  go_wp2
  go_ret
  exact ⟨rfl, rfl⟩
set_option maxHeartbeats 400000 in
theorem at_out (t : Nat) (k : Int) (hk : k < 1 ∨ 201 ≤ k) (w : World) :
    Calls Try.prog 41 #[.pointer (some ⟨t, 0, none⟩), .int .i64 k] w fun e w' => e = .returned (.pointer none) ∧ w = w' := by
  rcases hk with hk | hk
  all_goals
    go_enter Try.func41, Try.ntmps41
    go_wp2
    go_ret
    exact ⟨rfl, rfl⟩
theorem Rep.at_some {w : World} {t b : Nat} {S : Tab} {n : Nd} (h : Rep w t S) (k : Int) (hk : S k.toNat = some (b, n)) :
    Calls Try.prog 41 #[.pointer (some ⟨t, 0, none⟩), .int .i64 k] w fun e w' => e = .returned (.pointer (some ⟨b, 0, none⟩)) ∧ w = w' := by
  have hr := h.rng _ _ hk
  refine Ytafonmnfeibaiaa.at_some t b k (by omega) (by omega) w ?_
  rw [h.cellT _ (by omega), hk]; rfl
theorem Rep.at_none {w : World} {t : Nat} {S : Tab} (h : Rep w t S) (k : Int) (hk : S k.toNat = none) :
    Calls Try.prog 41 #[.pointer (some ⟨t, 0, none⟩), .int .i64 k] w fun e w' => e = .returned (.pointer none) ∧ w = w' := by
  by_cases hr : 1 ≤ k ∧ k < 201
  · refine at_nil t k hr.1 hr.2 w ?_
    rw [h.cellT _ (by omega), hk]; rfl
  · exact at_out t k (by omega) w

set_option maxRecDepth 100000 in
set_option maxHeartbeats 400000 in
theorem index_found {w : World} {t : Nat} {S : Tab} (h : Rep w t S) (j : Nat) (hj : j < 200) (hn : S (j + 1) = none) (hs : ∀ i, i < j → S (i + 1) ≠ none) :
    Calls Try.prog 48 #[.slice (some ⟨t, 1, none⟩) 200 200, .pointer none] w fun e w' => e = .returned (.int .i64 j) ∧ w = w' := by
  have H := Lib.hid h
  have HS := Lib.hid hs
  have HN := Lib.hid hn
  clear h hs hn
  have he := fun (W : World) (x : Addr) => eql_nil_some (P := Try.prog) W 68 x Try.underlying68
  go_enter Try.func48, Try.ntmps48
  go_wp2
  go_loop [8] (fun i => ∃ k : Nat, k ≤ j ∧ i = .int .i64 k) (fun i => 200 - (intOf i).toNat)
  case atStart => exact ⟨0, Nat.zero_le _, rfl⟩
  case round =>
    obtain ⟨k, hk, rfl⟩ := hrel
    have hkt : (k : Int) < 200 := by omega
    by_cases hlt : k < j
    · obtain ⟨x, hx⟩ : ∃ x : Addr, w.cell? ⟨t, 1 + k, none⟩ = some (.pointer (some x)) := by
        have h1 := H.out.cellT (k + 1) (by omega)
        have h2 := HS.out k hlt
        cases e : S (k + 1) with
        | none => exact absurd e h2
        | some y => rw [Nat.add_comm 1 k, h1, e]; exact ⟨_, rfl⟩
      go_wp2
      go_round
      case rel => exact ⟨k + 1, by omega, by go_num⟩
      case measure => simp [intOf]; omega
    · obtain rfl : k = j := by omega
      have hx : w.cell? ⟨t, 1 + k, none⟩ = some (.pointer none) := by
        rw [Nat.add_comm 1 k, H.out.cellT (k + 1) (by omega), HN.out]; rfl
      go_wp2
      go_ret
      exact ⟨rfl, rfl⟩

set_option maxRecDepth 100000 in
set_option maxHeartbeats 400000 in
theorem index_full {w : World} {t : Nat} {S : Tab} (h : Rep w t S) (hs : ∀ i, i < 200 → S (i + 1) ≠ none) :
    Calls Try.prog 48 #[.slice (some ⟨t, 1, none⟩) 200 200, .pointer none] w fun e w' => e = .returned (.int .i64 (-1)) ∧ w = w' := by
  have H := Lib.hid h
  have HS := Lib.hid hs
  clear h hs
  have he := fun (W : World) (x : Addr) => eql_nil_some (P := Try.prog) W 68 x Try.underlying68
  go_enter Try.func48, Try.ntmps48
  go_wp2
  go_loop [8] (fun i => ∃ k : Nat, k ≤ 200 ∧ i = .int .i64 k) (fun i => 200 - (intOf i).toNat)
  case atStart => exact ⟨0, Nat.zero_le _, rfl⟩
  case round =>
    obtain ⟨k, hk, rfl⟩ := hrel
    by_cases hlt : k < 200
    · obtain ⟨x, hx⟩ : ∃ x : Addr, w.cell? ⟨t, 1 + k, none⟩ = some (.pointer (some x)) := by
        have h1 := H.out.cellT (k + 1) (by omega)
        have h2 := HS.out k hlt
        cases e : S (k + 1) with
        | none => exact absurd e h2
        | some y => rw [Nat.add_comm 1 k, h1, e]; exact ⟨_, rfl⟩
      go_wp2
      go_round
      case rel => exact ⟨k + 1, by omega, by go_num⟩
      case measure => simp [intOf]; omega
    · go_wp2
      go_ret
      exact ⟨rfl, rfl⟩
end Go.Proofs.Ytafonmnfeibaiaa
