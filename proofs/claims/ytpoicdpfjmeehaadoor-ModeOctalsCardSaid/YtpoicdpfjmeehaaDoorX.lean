/- Octal of the empty text; a change by any text. -/
import Derived.Test.YtpoicdpfjmeehaaDoorV
import Derived.Test.YtpoicdpfjmeehaaDoorR
import Derived.Deep.RegionWith
import Derived.RegionTactic
import Derived.Lib.IfaceEq
namespace Go.Proofs.YtpoicdpfjmeehaaDoor
open Go.RowKit

abbrev noB : ByteArray := ⟨#[]⟩
/-- What strconv's ErrSyntax holds: an error. -/
def HasE (w : World) : Prop := ∃ te pe, w.cell? ⟨0, 0, none⟩ = some (.iface te pe)
theorem clone_any (w : World) : Calls Tryd.prog 65 #[.string noB] w fun e w' => e = .returned (.string noB) ∧ w' = w := by
  go_enter Tryd.func65, Tryd.ntmps65
  go_wp2
  go_ret
  exact ⟨rfl, rfl⟩
theorem syntax_any (fn : ByteArray) (w : World) (hE : HasE w) : Calls Tryd.prog 52 #[.string fn, .string noB] w fun e w' => ∃ N, e = .returned (.pointer (some ⟨N, 0, none⟩)) ∧ Below w.heap.size w w' := by
  obtain ⟨te, pe, hv⟩ := hE
  have hvd : w.drew.cell? ⟨0, 0, none⟩ = some (.iface te pe) := hv
  go_enter Tryd.func52, Tryd.ntmps52
  go_wp2
  go_region_with (
    refine (clone_any _).mono ?_
    rintro e w2 ⟨rfl, rfl⟩)
  all_goals (
    go_wp2
    go_ret
    exact ⟨_, rfl, ((Below.refl _ _).drew).alloc (Nat.le_refl _) _⟩)

set_option maxRecDepth 100000 in
theorem toErr_any (fn : ByteArray) (w : World) (hE : HasE w) : Calls Tryd.prog 38 #[.string fn, .string noB, .int .i64 8, .int .i64 32, .iface 77 (.int .i64 2)] w fun e w' => ∃ N, e = .returned (.iface 81 (.pointer (some ⟨N, 0, none⟩))) ∧ Below w.heap.size w w' := by
  have heq : ∀ W, (binOp .eql 40 (.iface 77 (.int .i64 2)) (.iface 77 (.int .i64 2))).run Tryd.prog W = .ok (.bool true) W := fun W => Lib.run_eql_iface_int W 2 2 Tryd.underlying40 (by kernel_rfl) Tryd.underlying77
  go_enter Tryd.func38, Tryd.ntmps38
  go_wp2_with fail
  refine (syntax_any fn _ hE).mono ?_
  rintro e w2 ⟨N, rfl, hb⟩
  go_wp2
  go_ret
  exact ⟨_, rfl, hb⟩
theorem pint_empty (w : World) : Calls Tryd.prog 37 #[.string noB, .int .i64 8, .int .i64 32] w fun e w' => e = .returned (.tuple #[.int .i64 0, .iface 77 (.int .i64 2)]) ∧ w' = w := by
  go_enter Tryd.func37, Tryd.ntmps37
  go_wp2
  exact bodyPost_ret (v := .tuple #[.int .i64 0, .iface 77 (.int .i64 2)]) (by simp [results, Tryd.results37, go_sem]) rfl ⟨rfl, rfl⟩
theorem parse_empty (w : World) (hE : HasE w) : Calls Tryd.prog 24 #[.string noB, .int .i64 8, .int .i64 32] w fun e w' => ∃ N, e = .returned (.tuple #[.int .i64 0, .iface 81 (.pointer (some ⟨N, 0, none⟩))]) ∧ Below w.heap.size w w' := by
  go_enter Tryd.func24, Tryd.ntmps24
  go_wp2_with fail
  refine (pint_empty _).mono ?_
  rintro e w2 ⟨rfl, rfl⟩
  go_wp2_with fail
  refine (toErr_any _ _ hE).mono ?_
  rintro e w3 ⟨N, rfl, hb⟩
  go_wp2
  exact bodyPost_ret (v := .tuple #[.int .i64 0, .iface 81 (.pointer (some ⟨N, 0, none⟩))]) (by simp [results, Tryd.results24, go_sem]) rfl ⟨N, rfl, hb⟩
theorem octal_empty (w : World) (hE : HasE w) : Calls Tryd.prog 16 #[.string noB] w fun e w' => e = octEnd (octS []) ∧ Below w.heap.size w w' := by
  go_enter Tryd.func16, Tryd.ntmps16
  go_wp2_with fail
  refine (trim_any noB _ (by decide)).mono ?_
  rintro e w1 ⟨t, rfl, ht, hb⟩
  obtain rfl : t = ⟨#[]⟩ := ht.2 rfl
  have hE1 : HasE w1 := by
    obtain ⟨te, pe, hv⟩ := hE
    exact ⟨te, pe, by rw [hb.cell (p := ⟨0, 0, none⟩) (World.block_lt_of_cell? w ⟨0, 0, none⟩ hv)]; exact hv⟩
  clear ht
  go_wp2_with fail
  refine (parse_empty _ hE1).mono ?_
  rintro e w2 ⟨N, rfl, hb2⟩
  have HB := Lib.hid (hb.trans (hb2.mono hb.size))
  clear hb hb2
  go_wp2
  exact bodyPost_ret (v := .tuple #[.int .i64 0, .bool false]) (by simp [results, Tryd.results16, go_sem]) rfl ⟨rfl, HB.out⟩
/-- Octal, of any text. -/
theorem octal_all (s : ByteArray) (w : World) (hE : HasE w) : Calls Tryd.prog 16 #[.string s] w fun e w' => e = octEnd (octS s.data.toList) ∧ Below w.heap.size w w' := by
  rcases Nat.eq_zero_or_pos s.size with h | h
  · have hs : s = noB := by
      apply ByteArray.ext
      exact Array.eq_empty_of_size_eq_zero h
    subst hs
    exact octal_empty w hE
  · exact octal_any s h w
end Go.Proofs.YtpoicdpfjmeehaaDoor
