import Derived.Test.YtafonmnfeibaiaaInB
import Derived.StillTailTactics
import Derived.BigQuiet
import Derived.RegionTactic
import Derived.BigRegion
import Derived.ChangeAlike
import Derived.Deep.QuietTactic
namespace Go.Proofs.Ytafonmnfeibaiaa
open Go.RowKit

def Nd.info (n : Nd) : Value := .agg #[.int .i64 n.ino, .int .i64 n.kind, .int .i64 n.mode, .int .i64 n.owner, .int .i64 n.group, .int .i64 n.links, .int .i64 (n.data.size + n.names.length), .int .i64 n.tty]
def noInfo : Value := .agg #[.int .i64 0, .int .i64 0, .int .i64 0, .int .i64 0, .int .i64 0, .int .i64 0, .int .i64 0, .int .i64 0]

theorem len_none (W : World) (ty : TypeId) : (Builtin.len_ #[84] ty #[.map none]).run Try.prog W = .ok (.int .i64 0) W := by
  simp [Builtin.len_, run_underlying Try.underlying84, goInt]
theorem MapIs.len {w : World} {m : Nat} {l : List (ByteArray × Nat)} (h : MapIs w m l) (ty : TypeId) : (Builtin.len_ #[84] ty #[.map (some m)]).run Try.prog w = .ok (.int .i64 l.length) w := by
  obtain ⟨es, c, h1, h2⟩ := h
  have h3 : es.size = l.length := by have := congrArg List.length h2.vals; simpa [entVals] using this
  simp [Builtin.len_, run_underlying Try.underlying84, MapKept.run_getObj_map h1, goInt, h3]
theorem Rep.len {w : World} {t b k : Nat} {S : Tab} {n : Nd} (h : Rep w t S) (hk : S k = some (b, n)) (ty : TypeId) : (Builtin.len_ #[84] ty #[.map n.mp]).run Try.prog w = .ok (.int .i64 n.names.length) w := by
  cases hm : n.mp with
  | none => rw [h.nomap k b n hk hm]; exact len_none w ty
  | some m => exact (h.map k b n m hk hm).len ty

set_option maxHeartbeats 400000 in
theorem stat_some {w : World} {t b : Nat} {S : Tab} {n : Nd} (h : Rep w t S) (k : Int) (hk : S k.toNat = some (b, n)) :
    Calls Try.prog 14 #[.pointer (some ⟨t, 0, none⟩), .int .i64 k] w fun e w' => e = .returned (.tuple #[n.info, .bool true]) ∧ Below w.heap.size w w' := by
  obtain ⟨ino, kind, mode, owner, group, links, tty, holds, data, mp, names, parent⟩ := n
  have c0 : w.cell? ⟨b, 0, none⟩ = some (.int .i64 ino) := h.cellN hk 0
  have c1 : w.cell? ⟨b, 1, none⟩ = some (.int .i64 kind) := h.cellN hk 1
  have c2 : w.cell? ⟨b, 2, none⟩ = some (.int .i64 mode) := h.cellN hk 2
  have c3 : w.cell? ⟨b, 3, none⟩ = some (.int .i64 owner) := h.cellN hk 3
  have c4 : w.cell? ⟨b, 4, none⟩ = some (.int .i64 group) := h.cellN hk 4
  have c5 : w.cell? ⟨b, 5, none⟩ = some (.int .i64 links) := h.cellN hk 5
  have c6 : w.cell? ⟨b, 6, none⟩ = some (.int .i64 0) := h.cellN hk 6
  have c7 : w.cell? ⟨b, 7, none⟩ = some (.int .i64 tty) := h.cellN hk 7
  have c9 : w.cell? ⟨b, 9, none⟩ = some (.string data) := h.cellN hk 9
  have c10 : w.cell? ⟨b, 10, none⟩ = some (.map mp) := h.cellN hk 10
  have hb := h.ltN hk
  obtain ⟨hs1, hs2⟩ : data.size ≤ 4096 ∧ names.length ≤ 40 := h.small _ _ _ hk
  have hs3 : (data.size : Int) ≤ 4096 := by omega
  have hs4 : (names.length : Int) ≤ 40 := by omega
  clear hs1 hs2
  have H := Lib.hid h
  have HK := Lib.hid hk
  have hl : ∀ A B ty, (Builtin.len_ #[84] ty #[.map mp]).run Try.prog ((w.alloc A).alloc B).drew = .ok (.int .i64 names.length) ((w.alloc A).alloc B).drew := fun A B ty => (((Mv.refl h).alloc A).alloc B).drew.rep.len hk ty
  clear h hk
  go_enter Try.func14, Try.ntmps14
  go_wp2_with fail
  refine (((Mv.refl H.out).alloc _).rep.at_some _ HK.out).mono ?_
  rintro e w' ⟨rfl, rfl⟩
  go_wp2_with fail
  go_region
  go_wp2
  refine bodyPost_ret (v := .tuple #[Nd.info ⟨ino, kind, mode, owner, group, links, tty, holds, data, mp, names, parent⟩, .bool true]) (by simp [results, Try.results14, go_sem, Nd.info]) rfl ⟨rfl, ?_⟩
  exact (((Below.refl _ _).alloc (Nat.le_refl _) _).alloc (by rw [alloc_size]; omega) _).drew
end Go.Proofs.Ytafonmnfeibaiaa
