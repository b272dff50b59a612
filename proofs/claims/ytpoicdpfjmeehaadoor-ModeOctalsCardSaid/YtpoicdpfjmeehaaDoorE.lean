/- Those who are named. -/
import Derived.Test.YtpoicdpfjmeehaaDoorD
import Derived.Shelf.Strings.SlTrimAscii
namespace Go.Proofs.YtpoicdpfjmeehaaDoor
open Go.RowKit

/-- One more is named. -/
def wstep (x : Nat × Nat × Nat) (c : UInt8) : Nat × Nat × Nat :=
  if c = 117 then (x.1 ||| 448, 2048, x.2.2) else if c = 103 then (x.1 ||| 56, x.2.1, x.2.2) else if c = 111 then (x.1 ||| 7, x.2.1, 512)
  else if c = 97 then (511, 2048, 512) else x
def isWho (c : UInt8) : Bool := c == 117 || c == 103 || c == 111 || c == 97
def whoset : Bytes := [117, 103, 111, 97]
def namesS (l : Bytes) : Bytes := l.takeWhile isWho
def whoS (l : Bytes) : Nat × Nat × Nat := (if namesS l = [] then [97] else namesS l).foldl wstep (0, 0, 0)
theorem whoset0 : ∀ j : Fin 256, whoset.contains (UInt8.ofNat j.val) = isWho (UInt8.ofNat j.val) := by decide +kernel
theorem whoset_is (c : UInt8) : whoset.contains c = isWho c := by
  have := whoset0 ⟨c.toNat, c.toNat_lt⟩
  simpa using this
theorem trimw (l : Bytes) : Lib.trimLeftS l whoset = l.dropWhile isWho := by
  unfold Lib.trimLeftS
  have hp : (fun x => whoset.contains x) = isWho := funext whoset_is
  show List.dropWhile (fun x => whoset.contains x) l = _
  rw [hp]
theorem set_same {w : World} {b i : Nat} {C : Array Value} {T : TypeId} {f : Nat × Nat} (h : w.heap[b]? = some (.cells C T f)) (v : Value) : (w.setCell ⟨b, i, none⟩ v).heap[b]? = some (.cells (C.setIfInBounds i v) T f) := by
  simp [World.setCell, Array.getElem?_modify, h]
theorem set_other {w : World} {b c i : Nat} {o : Obj} (h : w.heap[c]? = some o) (v : Value) (hne : c ≠ b) : (w.setCell ⟨b, i, none⟩ v).heap[c]? = some o := by
  rw [Below.heap_setCell _ _ _ _ hne]; exact h
theorem heap_free {w : World} {b : Nat} {C : Array Value} {T : TypeId} (h : w.heap[b]? = some (.cells C T (0, 0))) (i : Nat) : w.frozen? ⟨b, i, none⟩ = false := by simp [World.frozen?, h]
theorem iterPos_at {W : World} {N : Nat} (h : W.heap.size = N) (l : ByteArray) (p : Nat) : (W.iter l p).iterPos N = p := by
  subst h; simp
theorem iter_set (w : World) (l : ByteArray) (pos n i : Nat) (v : Value) (hn : n < w.heap.size) : (w.iter l pos).setCell ⟨n, i, none⟩ v = (w.setCell ⟨n, i, none⟩ v).iter l pos :=
  World.setCell_alloc_past _ n i v hn

/-- What is kept while the names are looked at: the struct that is told, and the one that is made. -/
structure WI (w : World) (n2 n6 N : Nat) (r s t : Nat) (W : World) : Prop where
  b : Below w.heap.size w W
  h6 : W.heap[n6]? = some (.cells #[.int .i64 r, .int .i64 s, .int .i64 t] 65 (0, 0))
  h2 : W.heap[n2]? = some (.cells #[.int .i64 0, .int .i64 0, .int .i64 0] 65 (0, 0))
  z : W.heap.size = N
theorem WI.set {w W : World} {n2 n6 N r s t : Nat} (h : WI w n2 n6 N r s t W) (i : Nat) (v : Value) {r' s' t' : Nat} (hw : w.heap.size ≤ n6) (hne : n2 ≠ n6)
    (hv : (#[Value.int .i64 r, .int .i64 s, .int .i64 t] : Array Value).setIfInBounds i v = #[.int .i64 r', .int .i64 s', .int .i64 t']) : WI w n2 n6 N r' s' t' (W.setCell ⟨n6, i, none⟩ v) where
  b := h.b.setCell hw _
  h6 := by rw [← hv]; exact set_same h.h6 v
  h2 := set_other h.h2 v hne
  z := by rw [← h.z]; simp [World.setCell]

theorem leave41 {T : Array Value} {W : World} (n0 : Nat) {r s t : Int} {rest : ByteArray} (hT2 : T[2]? = some (.pointer (some ⟨n0, 0, none⟩))) (hT3 : T[3]? = some (.string rest))
    (hres : W.heap[n0]? = some (.cells #[.int .i64 r, .int .i64 s, .int .i64 t] 65 (0, 0))) {R : Ending → World → Prop}
    (hR : R (.returned (.tuple #[.agg #[.int .i64 r, .int .i64 s, .int .i64 t], .string rest])) W) : bodyPost Tryd.prog Tryd.f41 R .ret { tmps := T, defers := [] } W := by
  have c0 : W.cell? ⟨n0, 0, none⟩ = some (.int .i64 r) := heap_cell hres 0
  have c1 : W.cell? ⟨n0, 1, none⟩ = some (.int .i64 s) := heap_cell hres 1
  have c2 : W.cell? ⟨n0, 2, none⟩ = some (.int .i64 t) := heap_cell hres 2
  exact bodyPost_ret (by simp [results, Tryd.results41, go_sem, hT2, hT3, c0, c1, c2]) rfl hR
set_option maxHeartbeats 2000000 in
theorem who_any (s : ByteArray) (w : World) (hs : s.size ≤ 140737488351232) :
    Calls Tryd.prog 41 #[.string s] w fun e w' => ∃ rest : ByteArray, rest.data.toList = s.data.toList.dropWhile isWho ∧
      e = .returned (.tuple #[.agg #[.int .i64 ((whoS s.data.toList).1 : Nat), .int .i64 ((whoS s.data.toList).2.1 : Nat), .int .i64 ((whoS s.data.toList).2.2 : Nat)], .string rest]) ∧ Below w.heap.size w w' := by
  go_enter Tryd.func41, Tryd.ntmps41
  go_wp2_with fail
  refine (Any.strings_TrimLeft_laid Tryd.lays161 (by kernel_rfl) s ⟨#[117, 103, 111, 97]⟩ _ (by decide) (ascii_of_all (by decide))).mono ?_
  rintro e w1 ⟨rfl, hb⟩
  obtain ⟨rest, hrest⟩ : ∃ R : ByteArray, (⟨(Lib.trimLeftS s.data.toList (⟨#[117, 103, 111, 97]⟩ : ByteArray).data.toList).toArray⟩ : ByteArray) = R := ⟨_, rfl⟩
  rw [hrest]
  have hrd : rest.data.toList = s.data.toList.dropWhile isWho := by
    rw [← hrest, ← trimw]; rfl
  have hsplit : namesS s.data.toList ++ rest.data.toList = s.data.toList := by rw [hrd]; exact List.takeWhile_append_dropWhile
  have hrz : (namesS s.data.toList).length + rest.size = s.size := by
    have := congrArg List.length hsplit
    rw [List.length_append] at this
    simpa using this
  have i0 : ((s.size : Int) - rest.size).toNat = s.size - rest.size := by omega
  have i1 : IntKind.i64.wrap ((s.size : Int) - rest.size) = (s.size : Int) - rest.size := by rw [IntKind.wrap_i64]; omega
  have i2 : (0 : Int) ≤ (s.size : Int) - rest.size := by omega
  have i3 : (s.size : Int) - rest.size ≤ s.size := by omega
  have i4 : (rest.size : Int) ≤ s.size := by omega
  have hex : (s.extract 0 (s.size - rest.size)).data.toList = namesS s.data.toList := by
    rw [ByteArray.data_extract, Array.toList_extract, List.extract_eq_take_drop, List.drop_zero]
    conv => lhs; rw [← hsplit]
    rw [List.take_append_of_le_length (by omega), List.take_of_length_le (by omega)]
  have HRD := Lib.hid hrd
  have HB := Lib.hid hb
  have HEX := Lib.hid hex
  have hz1 : w.heap.size < w1.heap.size := by have := hb.size; rw [World.size_alloc] at this; omega
  have hz2 : w1.heap[w.heap.size]? = some (.cells #[.int .i64 0, .int .i64 0, .int .i64 0] 65 (0, 0)) := by
    rw [hb.block w.heap.size (by rw [World.size_alloc]; omega)]; exact at_new _ _
  have HB1 := Lib.hid (((Below.refl w.heap.size w).alloc (Nat.le_refl _) (.cells #[.int .i64 0, .int .i64 0, .int .i64 0] 65)).trans (hb.mono (by rw [World.size_alloc]; omega)))
  have HZ2 := Lib.hid hz2
  clear hrest hrd hsplit hb hex hz2 hrz
  go_upto_if 19 with fail
  generalize s.extract 0 (s.size - rest.size) = E at *
  go_cut [5] from 20 to 50 (fun v wx => ∃ NM : ByteArray, v = .string NM ∧ NM.data.toList = (if namesS s.data.toList = [] then [97] else namesS s.data.toList) ∧ wx = w1)
  case first =>
    have hq : E.toList.isEmpty = true ↔ namesS s.data.toList = [] := by rw [Lib.toList_data, HEX.out, List.isEmpty_iff]
    have HQ := Lib.hid hq
    clear hq
    generalize E.toList.isEmpty = q at *
    cases q with
    | true =>
      go_wp2_with fail
      go_meet
      exact ⟨⟨#[97]⟩, rfl, by rw [if_pos (HQ.out.1 (by simp))], rfl⟩
    | false =>
      go_wp2_with fail
      go_meet
      exact ⟨_, rfl, by rw [if_neg (fun h => by have := HQ.out.2 h; cases this)]; exact HEX.out, rfl⟩
  case rest =>
    obtain ⟨NM, rfl, hnm, rfl⟩ := hcut
    have hall : NM.data.toList.all isWho = true := by
      rw [hnm]
      split
      · rfl
      · exact List.all_eq_true.2 fun x hx => by
          have : ∀ (l : Bytes), ∀ x ∈ l.takeWhile isWho, isWho x = true := by
            intro l
            induction l with
            | nil => intro x hx; cases hx
            | cons a l ih =>
              intro x hx
              by_cases ha : isWho a = true
              · rw [List.takeWhile_cons_of_pos ha] at hx
                rcases List.mem_cons.1 hx with rfl | hx
                · exact ha
                · exact ih x hx
              · rw [List.takeWhile_cons_of_neg ha] at hx; cases hx
          exact this _ x hx
    have HW : Hid (NM.data.toList.foldl wstep (0, 0, 0) = whoS s.data.toList) := Lib.hid (by rw [hnm]; rfl)
    have HALL := Lib.hid hall
    clear hall hnm i0 i1 i2 i3 i4
    go_upto_region 7 with fail
    have hz7 : (wc.alloc (Obj.cells #[.int .i64 0, .int .i64 0, .int .i64 0] 65)).heap.size = wc.heap.size + 1 := by simp
    have hwi : WI w w.heap.size wc.heap.size (wc.heap.size + 1) 0 0 0 (wc.alloc (Obj.cells #[.int .i64 0, .int .i64 0, .int .i64 0] 65)) :=
      ⟨HB1.out.alloc HB1.out.size _, at_new _ _, by rw [Below.heap_alloc _ _ _ hz1]; exact HZ2.out, hz7⟩
    have hle : w.heap.size ≤ wc.heap.size := by omega
    have hne : w.heap.size ≠ wc.heap.size := by omega
    generalize wc.alloc (Obj.cells #[.int .i64 0, .int .i64 0, .int .i64 0] 65) = W0 at *
    have HWI := Lib.hid hwi
    clear hwi hz7
    generalize wc.heap.size = n6 at *
    go_loopw [8] (fun v8 wr => ∃ (pos r s' t : Nat) (W : World), wr = W.iter NM pos ∧ pos ≤ NM.size ∧ Hid (WI w w.heap.size n6 (n6 + 1) r s' t W) ∧ Hid ((r, s', t) = (NM.data.toList.take pos).foldl wstep (0, 0, 0) ∧ r < 4096)) (fun _ wr => NM.size - wr.iterPos (n6 + 1))
    case atStart => exact ⟨0, 0, 0, 0, W0, rfl, Nat.zero_le _, HWI, Lib.hid ⟨rfl, by omega⟩⟩
    case round =>
      obtain ⟨pos, r, s', t, W, rfl, hpos, HI, HF⟩ := hrel
      have hn7 : n6 + 1 = W.heap.size := HI.out.z.symm
      have cel : ∀ p b i, b < W.heap.size → (W.iter NM p).cell? ⟨b, i, none⟩ = W.cell? ⟨b, i, none⟩ := fun p b i hb => ((Below.refl W.heap.size W).alloc (Nat.le_refl _) _).cell (p := ⟨b, i, none⟩) hb
      have hf6 : ∀ p, (W.iter NM p).heap[n6]? = some (.cells #[.int .i64 r, .int .i64 s', .int .i64 t] 65 (0, 0)) := fun p => by
        exact (((Below.refl W.heap.size W).alloc (Nat.le_refl _) (Obj.stringIter NM p)).block n6 (by omega)).trans HI.out.h6
      have hf2 : ∀ p, (W.iter NM p).heap[w.heap.size]? = some (.cells #[.int .i64 0, .int .i64 0, .int .i64 0] 65 (0, 0)) := fun p => by
        exact (((Below.refl W.heap.size W).alloc (Nat.le_refl _) (Obj.stringIter NM p)).block w.heap.size (by omega)).trans HI.out.h2
      by_cases hp : pos < NM.size
      · have hlet : isWho NM[pos] = true := List.all_eq_true.1 HALL.out _ (List.mem_of_getElem? (get_data NM pos hp))
        have hcs : NM[pos] = 117 ∨ NM[pos] = 103 ∨ NM[pos] = 111 ∨ NM[pos] = 97 := by
          unfold isWho at hlet
          simpa [or_assoc] using hlet
        clear hlet
        have a0 := heap_cell (hf6 (pos + 1)) 0
        have a1 := heap_cell (hf6 (pos + 1)) 1
        have a2 := heap_cell (hf6 (pos + 1)) 2
        have g0 := heap_free (hf6 (pos + 1)) 0
        have g1 := heap_free (hf6 (pos + 1)) 1
        have g2 := heap_free (hf6 (pos + 1)) 2
        rcases hcs with hc | hc | hc | hc
        · have hnx : ∀ ty, (Instr.next (.pointer (some ⟨n6 + 1, 0, none⟩)) true ty).run Tryd.prog (W.iter NM pos) = .ok (.tuple #[.bool true, .int .i64 pos, .int .i32 117]) (W.iter NM (pos + 1)) := fun ty => by
            rw [hn7, run_next_ascii W NM pos ty hp (by rw [hc]; decide), hc]; rfl
          have HST := Lib.hid (fold_take wstep NM pos hp (0, 0, 0))
          rw [hc, ← HF.out.1] at HST
          have f2 : bits .or .i64 (r : Int) 448 = ((r ||| 448 : Nat) : Int) := or_nat (b := 448) (by have := HF.out.2; unfold big; omega) (by decide)
          clear hc hf6 hf2 cel hn7
          go_wp2
          go_roundw
          case rel =>
            rw [iter_set _ _ _ _ _ _ (by have := HI.out.z; first | omega | (simp [World.setCell]; omega)), iter_set _ _ _ _ _ _ (by have := HI.out.z; first | omega | (simp [World.setCell]; omega))]
            exact ⟨pos + 1, r ||| 448, 2048, t, _, rfl, by omega, Lib.hid ((HI.out.set 0 (.int .i64 ((r ||| 448 : Nat) : Int)) (r' := r ||| 448) (s' := s') (t' := t) hle hne rfl).set 1 (.int .i64 2048) (r' := r ||| 448) (s' := 2048) (t' := t) hle hne rfl), Lib.hid ⟨HST.out.symm, or_lt HF.out.2 (by decide)⟩⟩
          case measure =>
            rw [iter_set _ _ _ _ _ _ (by have := HI.out.z; first | omega | (simp [World.setCell]; omega)), iter_set _ _ _ _ _ _ (by have := HI.out.z; first | omega | (simp [World.setCell]; omega)), iterPos_at (by have := HI.out.z; simp [World.setCell]; omega), iterPos_at HI.out.z]; omega
        · have hnx : ∀ ty, (Instr.next (.pointer (some ⟨n6 + 1, 0, none⟩)) true ty).run Tryd.prog (W.iter NM pos) = .ok (.tuple #[.bool true, .int .i64 pos, .int .i32 103]) (W.iter NM (pos + 1)) := fun ty => by
            rw [hn7, run_next_ascii W NM pos ty hp (by rw [hc]; decide), hc]; rfl
          have HST := Lib.hid (fold_take wstep NM pos hp (0, 0, 0))
          rw [hc, ← HF.out.1] at HST
          have f2 : bits .or .i64 (r : Int) 56 = ((r ||| 56 : Nat) : Int) := or_nat (b := 56) (by have := HF.out.2; unfold big; omega) (by decide)
          clear hc hf6 hf2 cel hn7
          go_wp2
          go_roundw
          case rel =>
            rw [iter_set _ _ _ _ _ _ (by have := HI.out.z; first | omega | (simp [World.setCell]; omega))]
            exact ⟨pos + 1, r ||| 56, s', t, _, rfl, by omega, Lib.hid (HI.out.set 0 (.int .i64 ((r ||| 56 : Nat) : Int)) (r' := r ||| 56) (s' := s') (t' := t) hle hne rfl), Lib.hid ⟨HST.out.symm, or_lt HF.out.2 (by decide)⟩⟩
          case measure =>
            rw [iter_set _ _ _ _ _ _ (by have := HI.out.z; first | omega | (simp [World.setCell]; omega)), iterPos_at (by have := HI.out.z; simp [World.setCell]; omega), iterPos_at HI.out.z]; omega
        · have hnx : ∀ ty, (Instr.next (.pointer (some ⟨n6 + 1, 0, none⟩)) true ty).run Tryd.prog (W.iter NM pos) = .ok (.tuple #[.bool true, .int .i64 pos, .int .i32 111]) (W.iter NM (pos + 1)) := fun ty => by
            rw [hn7, run_next_ascii W NM pos ty hp (by rw [hc]; decide), hc]; rfl
          have HST := Lib.hid (fold_take wstep NM pos hp (0, 0, 0))
          rw [hc, ← HF.out.1] at HST
          have f2 : bits .or .i64 (r : Int) 7 = ((r ||| 7 : Nat) : Int) := or_nat (b := 7) (by have := HF.out.2; unfold big; omega) (by decide)
          clear hc hf6 hf2 cel hn7
          go_wp2
          go_roundw
          case rel =>
            rw [iter_set _ _ _ _ _ _ (by have := HI.out.z; first | omega | (simp [World.setCell]; omega)), iter_set _ _ _ _ _ _ (by have := HI.out.z; first | omega | (simp [World.setCell]; omega))]
            exact ⟨pos + 1, r ||| 7, s', 512, _, rfl, by omega, Lib.hid ((HI.out.set 0 (.int .i64 ((r ||| 7 : Nat) : Int)) (r' := r ||| 7) (s' := s') (t' := t) hle hne rfl).set 2 (.int .i64 512) (r' := r ||| 7) (s' := s') (t' := 512) hle hne rfl), Lib.hid ⟨HST.out.symm, or_lt HF.out.2 (by decide)⟩⟩
          case measure =>
            rw [iter_set _ _ _ _ _ _ (by have := HI.out.z; first | omega | (simp [World.setCell]; omega)), iter_set _ _ _ _ _ _ (by have := HI.out.z; first | omega | (simp [World.setCell]; omega)), iterPos_at (by have := HI.out.z; simp [World.setCell]; omega), iterPos_at HI.out.z]; omega
        · have hnx : ∀ ty, (Instr.next (.pointer (some ⟨n6 + 1, 0, none⟩)) true ty).run Tryd.prog (W.iter NM pos) = .ok (.tuple #[.bool true, .int .i64 pos, .int .i32 97]) (W.iter NM (pos + 1)) := fun ty => by
            rw [hn7, run_next_ascii W NM pos ty hp (by rw [hc]; decide), hc]; rfl
          have HST := Lib.hid (fold_take wstep NM pos hp (0, 0, 0))
          rw [hc, ← HF.out.1] at HST
          clear hc hf6 hf2 cel hn7
          go_wp2
          go_roundw
          case rel =>
            rw [iter_set _ _ _ _ _ _ (by have := HI.out.z; first | omega | (simp [World.setCell]; omega)), iter_set _ _ _ _ _ _ (by have := HI.out.z; first | omega | (simp [World.setCell]; omega)), iter_set _ _ _ _ _ _ (by have := HI.out.z; first | omega | (simp [World.setCell]; omega))]
            exact ⟨pos + 1, 511, 2048, 512, _, rfl, by omega, Lib.hid (((HI.out.set 0 (.int .i64 511) (r' := 511) (s' := s') (t' := t) hle hne rfl).set 1 (.int .i64 2048) (r' := 511) (s' := 2048) (t' := t) hle hne rfl).set 2 (.int .i64 512) (r' := 511) (s' := 2048) (t' := 512) hle hne rfl), Lib.hid ⟨HST.out.symm, by decide⟩⟩
          case measure =>
            rw [iter_set _ _ _ _ _ _ (by have := HI.out.z; first | omega | (simp [World.setCell]; omega)), iter_set _ _ _ _ _ _ (by have := HI.out.z; first | omega | (simp [World.setCell]; omega)), iter_set _ _ _ _ _ _ (by have := HI.out.z; first | omega | (simp [World.setCell]; omega)), iterPos_at (by have := HI.out.z; simp [World.setCell]; omega), iterPos_at HI.out.z]; omega
      · have hnx : ∀ ty, (Instr.next (.pointer (some ⟨n6 + 1, 0, none⟩)) true ty).run Tryd.prog (W.iter NM pos) = .ok (.tuple #[.bool false]) (W.iter NM pos) := fun ty => by
          rw [hn7]; exact run_next_end W NM pos ty hp
        have a0 := heap_cell (hf6 pos) 0
        have a1 := heap_cell (hf6 pos) 1
        have a2 := heap_cell (hf6 pos) 2
        have b0 := heap_cell (hf2 pos) 0
        have b1 := heap_cell (hf2 pos) 1
        have b2 := heap_cell (hf2 pos) 2
        have g0 := heap_free (hf2 pos) 0
        have g1 := heap_free (hf2 pos) 1
        have g2 := heap_free (hf2 pos) 2
        have HF2 := Lib.hid (hf2 pos)
        clear hf6 hf2 cel hn7
        go_wp2
        refine leave41 w.heap.size rfl rfl (set_same (set_same (set_same HF2.out _) _) _) ⟨rest, HRD.out, ?_, (((HI.out.b.alloc HI.out.b.size (Obj.stringIter NM pos)).setCell (Nat.le_refl _) _).setCell (Nat.le_refl _) _).setCell (Nat.le_refl _) _⟩
        have hw : (r, s', t) = whoS s.data.toList := by rw [HF.out.1, List.take_of_length_le (by simp; omega)]; exact HW.out
        rw [← hw]
end Go.Proofs.YtpoicdpfjmeehaaDoor
