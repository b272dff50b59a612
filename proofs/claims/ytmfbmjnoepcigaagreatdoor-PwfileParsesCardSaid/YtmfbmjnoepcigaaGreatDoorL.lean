/- A line is read. -/
import Derived.Test.YtmfbmjnoepcigaaGreatDoorK
import Derived.Test.YtmfbmjnoepcigaaGreatDoorShelf
import Derived.Lib.ParseIntBCases
import Derived.Lib.ConvBytes
namespace Go.Proofs.YtmfbmjnoepcigaaGreatDoor
open Go.RowKit

theorem dstep_ge (l : Bytes) : ∀ a : Nat, a ≤ l.foldl dstep a := by
  induction l with
  | nil => intro a; exact Nat.le_refl _
  | cons c l ih => intro a; exact Nat.le_trans (by unfold dstep; omega) (ih _)
theorem pum_dig : ∀ (l : Bytes) (acc : Nat), l.all isDig = true → l.foldl dstep acc ≤ 65535 → Lib.parseUintM 65535 acc l = .ok (l.foldl dstep acc)
  | [], acc, _, _ => rfl
  | c :: l, acc, hd, h => by
    rw [List.all_cons, Bool.and_eq_true] at hd
    have hc : 48 ≤ c.toNat ∧ c.toNat ≤ 57 := by have := hd.1; unfold isDig at this; simpa using this
    rw [List.foldl_cons] at h ⊢
    have hge := dstep_ge l (dstep acc c)
    have hst : acc * 10 + (c.toNat - 48) = dstep acc c := by unfold dstep; omega
    have hle : dstep acc c ≤ 65535 := by omega
    have hacc : acc ≤ 65535 := by unfold dstep at hle; omega
    rw [Lib.parseUintM, if_pos hc, if_neg (by omega), if_neg (by omega), hst, pum_dig l _ hd.2 h]
theorem pu_dec {n : Nat} (h : n ≤ 65535) : Lib.parseUintB 16 (decD n) = .ok n := by
  obtain ⟨h1, _, h3, h4⟩ := decD_facts 4 n (by omega)
  have hne : decD n ≠ [] := fun e => by rw [e] at h3; simp at h3
  unfold Lib.parseUintB
  rw [if_neg hne, show (2 : Nat) ^ 16 - 1 = 65535 by decide, pum_dig _ 0 h1 (by unfold readD at h4; rw [h4]; exact h)]
  unfold readD at h4
  rw [h4]
/-- What ParseUint tells. -/
def PuP (s : ByteArray) (w : World) (e : Ending) (w' : World) : Prop :=
  ∃ (n : Nat) (x : Value), e = .returned (.tuple #[.int .u64 n, x]) ∧ n ≤ 65535 ∧ Below w.heap.size w w' ∧ ((x = .nilIface ∧ Lib.parseUintB 16 s.data.toList = .ok n) ∨ ((∃ N, x = .iface 88 (.pointer (some ⟨N, 0, none⟩))) ∧ ∀ m, Lib.parseUintB 16 s.data.toList ≠ .ok m))
theorem bytes_below (w : World) (t : ByteArray) : Below w.heap.size w (Lib.bytesWorld w 5 t) :=
  ⟨rfl, rfl, rfl, by rw [Lib.bytesWorld_size]; omega, fun j hj => Lib.bytesWorld_at_old w 5 t j hj⟩
theorem pu_any (s : ByteArray) (w : World) (hs : s.size ≤ 1000000) (hW : HasW w) : Calls Tryz.prog 36 #[.string s, .int .i64 10, .int .i64 16] w (PuP s w) := by
  cases hp : Lib.parseUintB 16 s.data.toList with
  | ok u =>
    refine (Tryz.strconv_ParseUint_10_at16_ok s (by omega) u hp w).mono ?_
    rintro e w' ⟨rfl, hw⟩
    refine ⟨u, _, rfl, by have := Lib.parseUintB_le hp; simpa using this, ?_, .inl ⟨rfl, hp⟩⟩
    rcases hw with rfl | rfl
    · exact Below.refl _ _
    · exact bytes_below w s
  | «syntax» =>
    obtain ⟨u, v, hv⟩ := hW.syn
    refine (Tryz.strconv_ParseUint_10_at16_syntax s (by omega) hp _ w hv (.inr ⟨_, _, rfl⟩)).mono ?_
    rintro e w' ⟨N, rfl, _, _, hb⟩
    exact ⟨0, _, rfl, by omega, hb, .inr ⟨⟨N, rfl⟩, fun m h => by rw [hp] at h; cases h⟩⟩
  | range =>
    obtain ⟨u, v, hv⟩ := hW.rng
    refine (Tryz.strconv_ParseUint_10_at16_range s (by omega) hp _ w hv (.inr ⟨_, _, rfl⟩)).mono ?_
    rintro e w' ⟨N, rfl, _, _, hb⟩
    exact ⟨65535, _, rfl, by omega, hb, .inr ⟨⟨N, rfl⟩, fun m h => by rw [hp] at h; cases h⟩⟩
/-- A line's pieces. -/
def pieces (s : ByteArray) : List ByteArray := Lib.splitB ⟨#[58]⟩ 0 (Lib.countB s ⟨#[58]⟩) s
theorem pieces_len (s : ByteArray) : (pieces s).length = Lib.countB s ⟨#[58]⟩ + 1 := Lib.splitB_all ⟨#[58]⟩ (by decide) 0 _ s rfl
theorem pieces_data (s : ByteArray) : (pieces s).map (·.data.toList) = splitD 58 [] s.data.toList := by
  unfold pieces
  rw [Lib.splitB_data, ← splitK_D]
  have h : Lib.countB s ⟨#[58]⟩ = s.data.toList.count 58 := Lib.count_one 58 s.data.toList
  rw [h]
theorem piece_size (sep : ByteArray) : ∀ (n : Nat) (s : ByteArray), ∀ x ∈ Lib.splitB sep 0 n s, x.size ≤ s.size
  | 0, s, x, hx => by
    rw [Lib.splitB_zero] at hx
    simp at hx
    rw [hx]; exact Nat.le_refl _
  | n + 1, s, x, hx => by
    unfold Lib.splitB at hx
    split at hx
    · simp at hx; rw [hx]; exact Nat.le_refl _
    · rcases List.mem_cons.1 hx with rfl | hx
      · rw [ByteArray.size_extract]; exact Nat.le_trans (Nat.sub_le _ _) (Nat.min_le_right _ _)
      · have := piece_size sep n _ x hx
        rw [ByteArray.size_extract] at this
        omega
theorem line_pieces {s : ByteArray} {v : UserS} (h : IsLine s.data.toList v) : (pieces s).map (·.data.toList) = [v.name.data.toList, v.pass.data.toList, decD v.id.toNat, decD v.group.toNat, v.home.data.toList, v.shell.data.toList] := by
  rw [pieces_data, ← h.2, line_split h.1]
/-- What read tells of a line. -/
def ReadP (s : ByteArray) (w : World) (e : Ending) (w' : World) : Prop :=
  ∃ (u : UserS) (ok : Bool), e = .returned (.tuple #[.agg (userC u), .bool ok]) ∧ Below w.heap.size w w' ∧ (ok = true → IsLine s.data.toList u) ∧ (ok = false → ∀ v, ¬ IsLine s.data.toList v)
theorem leave16 {T : Array Value} {W : World} (n0 : Nat) {f : UserS} {b : Bool} (hT4 : T[2]? = some (.pointer (some ⟨n0, 0, none⟩))) (hT5 : T[3]? = some (.bool b))
    (hres : W.heap[n0]? = some (.cells (userC f) 29 (0, 0))) {R : Ending → World → Prop} (hR : R (.returned (.tuple #[.agg (userC f), .bool b])) W) :
    bodyPost Tryz.prog Tryz.f22 R Exit.ret { tmps := T, defers := [] } W := by
  have c0 : W.cell? ⟨n0, 0, none⟩ = some (.string f.name) := heap_cell hres 0
  have c1 : W.cell? ⟨n0, 1, none⟩ = some (.string f.pass) := heap_cell hres 1
  have c2 : W.cell? ⟨n0, 2, none⟩ = some (.int .i64 f.id) := heap_cell hres 2
  have c3 : W.cell? ⟨n0, 3, none⟩ = some (.int .i64 f.group) := heap_cell hres 3
  have c4 : W.cell? ⟨n0, 4, none⟩ = some (.string f.home) := heap_cell hres 4
  have c5 : W.cell? ⟨n0, 5, none⟩ = some (.string f.shell) := heap_cell hres 5
  exact bodyPost_ret (v := .tuple #[.agg (userC f), .bool b]) (by simp [results, Tryz.results16, go_sem, hT4, hT5, c0, c1, c2, c3, c4, c5, userC]) rfl hR
theorem read_two {x0 x1 x2 x3 x4 x5 : ByteArray} {v : UserS} (hm : mayB v = true) (h : [x0, x1, x2, x3, x4, x5].map (fun x : ByteArray => x.data.toList) = [v.name.data.toList, v.pass.data.toList, decD v.id.toNat, decD v.group.toNat, v.home.data.toList, v.shell.data.toList]) :
    Lib.parseUintB 16 x2.data.toList = .ok v.id.toNat ∧ Lib.parseUintB 16 x3.data.toList = .ok v.group.toNat := by
  have m := mayP hm
  simp only [List.map_cons, List.map_nil, List.cons.injEq, and_true] at h
  obtain ⟨_, _, h2, h3, _, _⟩ := h
  rw [h2, h3]
  exact ⟨pu_dec (by have := m.id1; omega), pu_dec (by have := m.g1; omega)⟩
theorem read_uniq {x0 x1 x2 x3 x4 x5 : ByteArray} {v : UserS} {n2 n3 : Nat} (hm : mayB v = true) (h : [x0, x1, x2, x3, x4, x5].map (fun x : ByteArray => x.data.toList) = [v.name.data.toList, v.pass.data.toList, decD v.id.toNat, decD v.group.toNat, v.home.data.toList, v.shell.data.toList])
    (h2 : Lib.parseUintB 16 x2.data.toList = .ok n2) (h3 : Lib.parseUintB 16 x3.data.toList = .ok n3) : v = ⟨x0, x1, n2, n3, x4, x5⟩ := by
  obtain ⟨k2, k3⟩ := read_two hm h
  rw [h2] at k2
  rw [h3] at k3
  have e2 : n2 = v.id.toNat := by cases k2; rfl
  have e3 : n3 = v.group.toNat := by cases k3; rfl
  have m := mayP hm
  have i0 := m.id0
  have i1 := m.g0
  simp only [List.map_cons, List.map_nil, List.cons.injEq, and_true] at h
  obtain ⟨a0, a1, _, _, a4, a5⟩ := h
  obtain ⟨b0, b1, b2, b3, b4, b5⟩ := v
  simp only at *
  simp only [UserS.mk.injEq]
  exact ⟨(ba_eq a0).symm, (ba_eq a1).symm, by omega, by omega, (ba_eq a4).symm, (ba_eq a5).symm⟩
/-- What stands while a line is judged: the user's box, and the result's row. -/
structure Core (w : World) (n4 : Nat) (u : UserS) (W : World) : Prop where
  below : Below w.heap.size w W
  box : UC W n4 0 u
  ne : n4 ≠ w.heap.size
  row : ∃ g, W.heap[w.heap.size]? = some (.cells (userC g) 29 (0, 0))
def rdc (w W : World) (i : Nat) : Value := (W.cell? ⟨w.heap.size, i, none⟩).getD (.bool false)
theorem Core.step {w W W' : World} {n4 : Nat} {u : UserS} (h : Core w n4 u W) (hb : Below W.heap.size W W') : Core w n4 u W' := by
  obtain ⟨g, hg⟩ := h.row
  exact ⟨h.below.trans (hb.mono h.below.size), h.box.below hb, h.ne, g, below_heap hb hg⟩
theorem Core.six {w W : World} {n4 : Nat} {u : UserS} (h : Core w n4 u W) (f : UserS) :
    Core w n4 u ((((((W.setCell ⟨w.heap.size, 0, none⟩ (.string f.name)).setCell ⟨w.heap.size, 1, none⟩ (.string f.pass)).setCell ⟨w.heap.size, 2, none⟩ (.int .i64 f.id)).setCell ⟨w.heap.size, 3, none⟩ (.int .i64 f.group)).setCell ⟨w.heap.size, 4, none⟩ (.string f.home)).setCell ⟨w.heap.size, 5, none⟩ (.string f.shell)) := by
  show Core w n4 u (sixW W w.heap.size (.string f.name) (.string f.pass) (.int .i64 f.id) (.int .i64 f.group) (.string f.home) (.string f.shell))
  obtain ⟨g, hg⟩ := h.row
  refine ⟨sixW_below h.below (Nat.le_refl _) _ _ _ _ _ _, ?_, h.ne, f, sixW_at hg f⟩
  have k : ∀ i v, W.cell? ⟨n4, i, none⟩ = some v → (sixW W w.heap.size (.string f.name) (.string f.pass) (.int .i64 f.id) (.int .i64 f.group) (.string f.home) (.string f.shell)).cell? ⟨n4, i, none⟩ = some v := fun i v hv => by
    unfold sixW
    have hne := h.ne
    have e : ∀ (X : World) (j : Nat) (x : Value), (X.setCell ⟨w.heap.size, j, none⟩ x).cell? ⟨n4, i, none⟩ = X.cell? ⟨n4, i, none⟩ := fun X j x => World.cell?_setCell_other _ _ _ _ (fun e => by simp only [Addr.mk.injEq] at e; have := h.ne; omega)
    rw [e, e, e, e, e, e]; exact hv
  exact ⟨k _ _ h.box.g0, k _ _ h.box.g1, k _ _ h.box.g2, k _ _ h.box.g3, k _ _ h.box.g4, k _ _ h.box.g5⟩
theorem Core.all {w W : World} {n4 : Nat} {u : UserS} (h : Core w n4 u W) :
    Core w n4 u W ∧ (W.cell? ⟨n4, 0, none⟩ = some (.string u.name) ∧ W.cell? ⟨n4, 1, none⟩ = some (.string u.pass) ∧ W.cell? ⟨n4, 2, none⟩ = some (.int .i64 u.id) ∧ W.cell? ⟨n4, 3, none⟩ = some (.int .i64 u.group) ∧ W.cell? ⟨n4, 4, none⟩ = some (.string u.home) ∧ W.cell? ⟨n4, 5, none⟩ = some (.string u.shell)) ∧
    (W.cell? ⟨w.heap.size, 0, none⟩ = some (rdc w W 0) ∧ W.cell? ⟨w.heap.size, 1, none⟩ = some (rdc w W 1) ∧ W.cell? ⟨w.heap.size, 2, none⟩ = some (rdc w W 2) ∧ W.cell? ⟨w.heap.size, 3, none⟩ = some (rdc w W 3) ∧ W.cell? ⟨w.heap.size, 4, none⟩ = some (rdc w W 4) ∧ W.cell? ⟨w.heap.size, 5, none⟩ = some (rdc w W 5)) ∧
    (W.frozen? ⟨w.heap.size, 0, none⟩ = false ∧ W.frozen? ⟨w.heap.size, 1, none⟩ = false ∧ W.frozen? ⟨w.heap.size, 2, none⟩ = false ∧ W.frozen? ⟨w.heap.size, 3, none⟩ = false ∧ W.frozen? ⟨w.heap.size, 4, none⟩ = false ∧ W.frozen? ⟨w.heap.size, 5, none⟩ = false) := by
  obtain ⟨g, hg⟩ := h.row
  obtain ⟨⟨e0, e1, e2, e3, e4, e5⟩, hz⟩ := six_facts hg
  refine ⟨h, h.box.at0, ⟨?_, ?_, ?_, ?_, ?_, ?_⟩, hz⟩
  · unfold rdc; rw [e0]; rfl
  · unfold rdc; rw [e1]; rfl
  · unfold rdc; rw [e2]; rfl
  · unfold rdc; rw [e3]; rfl
  · unfold rdc; rw [e4]; rfl
  · unfold rdc; rw [e5]; rfl
end Go.Proofs.YtmfbmjnoepcigaaGreatDoor
