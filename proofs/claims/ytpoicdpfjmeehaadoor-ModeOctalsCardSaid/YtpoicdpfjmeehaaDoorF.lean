/- One clause of a change. -/
import Derived.Test.YtpoicdpfjmeehaaDoorE
import Derived.StillTailTactics
import Derived.OwnWalk
import Derived.Deep.CutRange
namespace Go.Proofs.YtpoicdpfjmeehaaDoor
open Go.RowKit

abbrev full : Nat := 18446744073709551615
/-- What stands behind the names, done. -/
def cloop (dir : Bool) (r s t : Nat) : Nat → Bytes → Nat → Option Nat
  | _, [], m => some m
  | 0, _ :: _, _ => none
  | k + 1, c :: l, m =>
    let b := bitsS m dir r s t (l.takeWhile isLetter)
    let x := l.dropWhile isLetter
    if c = 43 then cloop dir r s t k x (m ||| b)
    else if c = 45 then cloop dir r s t k x (m &&& (full - b))
    else if c = 61 then cloop dir r s t k x ((m &&& (full - ((r ||| s) ||| t))) ||| b)
    else none
def clauseS (dir : Bool) (m : Nat) (l : Bytes) : Option Nat :=
  let n := whoS l
  let x := l.dropWhile isWho
  if x = [] then none else cloop dir n.1 n.2.1 n.2.2 x.length x m
def letset : Bytes := [114, 119, 120, 88, 115, 116]
theorem letset0 : ∀ j : Fin 256, letset.contains (UInt8.ofNat j.val) = isLetter (UInt8.ofNat j.val) := by decide +kernel
theorem letset_is (c : UInt8) : letset.contains c = isLetter c := by
  have := letset0 ⟨c.toNat, c.toNat_lt⟩
  simpa using this
theorem triml (l : Bytes) : Lib.trimLeftS l letset = l.dropWhile isLetter := by
  unfold Lib.trimLeftS
  have hp : (fun x => letset.contains x) = isLetter := funext letset_is
  show List.dropWhile (fun x => letset.contains x) l = _
  rw [hp]
theorem all_take {p : UInt8 → Bool} : ∀ (l : Bytes), (l.takeWhile p).all p = true
  | [] => rfl
  | a :: l => by
    by_cases ha : p a = true
    · rw [List.takeWhile_cons_of_pos ha, List.all_cons, ha, all_take l]; rfl
    · rw [List.takeWhile_cons_of_neg ha]; rfl
theorem wstep_lt {x : Nat × Nat × Nat} (c : UInt8) (h : x.1 < 4096 ∧ x.2.1 < 4096 ∧ x.2.2 < 4096) : (wstep x c).1 < 4096 ∧ (wstep x c).2.1 < 4096 ∧ (wstep x c).2.2 < 4096 := by
  obtain ⟨h1, h2, h3⟩ := h
  unfold wstep
  repeat' split
  · exact ⟨or_lt h1 (by decide), (by decide : 2048 < 4096), h3⟩
  · exact ⟨or_lt h1 (by decide), h2, h3⟩
  · exact ⟨or_lt h1 (by decide), h2, (by decide : 512 < 4096)⟩
  · exact ⟨by decide, by decide, by decide⟩
  · exact ⟨h1, h2, h3⟩
theorem fold_lt : ∀ (l : Bytes) (x : Nat × Nat × Nat), (x.1 < 4096 ∧ x.2.1 < 4096 ∧ x.2.2 < 4096) → (l.foldl wstep x).1 < 4096 ∧ (l.foldl wstep x).2.1 < 4096 ∧ (l.foldl wstep x).2.2 < 4096
  | [], _, h => h
  | c :: l, _, h => fold_lt l _ (wstep_lt c h)
theorem whoS_lt (l : Bytes) : (whoS l).1 < 4096 ∧ (whoS l).2.1 < 4096 ∧ (whoS l).2.2 < 4096 := fold_lt _ _ ⟨by decide, by decide, by decide⟩
theorem bitsS_lt {m : Nat} {dir : Bool} {r s t : Nat} (hr : r < 4096) (hs : s < 4096) (ht : t < 4096) : ∀ (l : Bytes) (b : Nat), b < 4096 → l.foldl (bstep m dir r s t) b < 4096
  | [], _, h => h
  | _ :: l, _, h => bitsS_lt hr hs ht l _ (bstep_lt hr hs ht h)

theorem ex_data (s : ByteArray) (a b : Nat) : (s.extract a b).data.toList = (s.data.toList.take b).drop a := by
  rw [ByteArray.data_extract, Array.toList_extract, List.extract_eq_take_drop, List.drop_take]
/-- What is kept: the change lies in block nc, those who are named in block nn; all else that was is as it was. -/
structure CI (w : World) (nc nn : Nat) (m : Nat) (dir : Bool) (r s t : Nat) (W : World) : Prop where
  g : w.grownBy W (some nc)
  c : W.heap[nc]? = some (.cells #[.int .i64 m, .bool dir] 50 (0, 0))
  n : W.heap[nn]? = some (.cells #[.int .i64 r, .int .i64 s, .int .i64 t] 65 (0, 0))

theorem CI.below {w W W' : World} {nc nn m r s t : Nat} {dir : Bool} (h : CI w nc nn m dir r s t W) (hb : Below W.heap.size W W') : CI w nc nn m dir r s t W' := by
  have lt : ∀ {b : Nat} {o : Obj}, W.heap[b]? = some o → b < W.heap.size := fun {b o} ho => by
    rcases Nat.lt_or_ge b W.heap.size with h | h
    · exact h
    · rw [Array.getElem?_eq_none h] at ho; cases ho
  exact ⟨⟨hb.os.trans h.g.os, hb.tape.trans h.g.tape, hb.output.trans h.g.output, Nat.le_trans h.g.size hb.size, fun k hk hne => (hb.block k (Nat.lt_of_lt_of_le hk h.g.size)).trans (h.g.block k hk hne)⟩, by rw [hb.block nc (lt h.c)]; exact h.c, by rw [hb.block nn (lt h.n)]; exact h.n⟩
theorem CI.set {w W : World} {nc nn m r s t : Nat} {dir : Bool} (h : CI w nc nn m dir r s t W) (hne : nn ≠ nc) (y : Nat) : CI w nc nn y dir r s t (W.setCell ⟨nc, 0, none⟩ (.int .i64 y)) where
  g := ⟨h.g.os, h.g.tape, h.g.output, by have := h.g.size; simpa [World.setCell] using this, fun k hk hk2 => (Below.heap_setCell _ _ _ _ (fun e => hk2 (by rw [e]))).trans (h.g.block k hk hk2)⟩
  c := set_same h.c _
  n := set_other h.n _ hne
def ClausePost (w : World) (nc : Nat) (m : Nat) (dir : Bool) (l : Bytes) (e : Ending) (w' : World) : Prop :=
  (clauseS dir m l = none ∧ e = .returned (.bool false) ∧ w.grownBy w' (some nc)) ∨
  (∃ m', clauseS dir m l = some m' ∧ m' < 4096 ∧ e = .returned (.bool true) ∧ w.grownBy w' (some nc) ∧ w'.heap[nc]? = some (.cells #[.int .i64 m', .bool dir] 50 (0, 0)))

set_option maxHeartbeats 4000000 in
set_option maxRecDepth 100000 in
theorem clause_any (nc : Nat) (m : Nat) (dir : Bool) (s : ByteArray) (w : World) (hs : s.size ≤ 140737488351232) (hm : m < 4096) (hc : w.heap[nc]? = some (.cells #[.int .i64 m, .bool dir] 50 (0, 0))) :
    Calls Tryd.prog 28 #[.pointer (some ⟨nc, 0, none⟩), .string s] w (ClausePost w nc m dir s.data.toList) := by
  have hnc : nc < w.heap.size := by
    rcases Nat.lt_or_ge nc w.heap.size with h | h
    · exact h
    · rw [Array.getElem?_eq_none h] at hc; cases hc
  go_enter Tryd.func28, Tryd.ntmps28
  go_wp2_with fail
  refine (who_any s _ hs).mono ?_
  rintro e w1 ⟨rest, hrd, rfl, hb⟩
  obtain ⟨l1, l2, l3⟩ := whoS_lt s.data.toList
  have HCS : Hid (clauseS dir m s.data.toList = if rest.data.toList = [] then none else cloop dir (whoS s.data.toList).1 (whoS s.data.toList).2.1 (whoS s.data.toList).2.2 rest.data.toList.length rest.data.toList m) := Lib.hid (by rw [hrd]; rfl)
  have HRS : Hid (rest.size ≤ s.size) := Lib.hid (by
    have := congrArg List.length (List.takeWhile_append_dropWhile (p := isWho) (l := s.data.toList))
    rw [List.length_append, ← hrd] at this
    simp at this; omega)
  have hz : (w1.alloc (Obj.cells #[.int .i64 ((whoS s.data.toList).1 : Nat), .int .i64 ((whoS s.data.toList).2.1 : Nat), .int .i64 ((whoS s.data.toList).2.2 : Nat)] 65)).heap.size = w1.heap.size + 1 := by simp
  have hci : CI w nc w1.heap.size m dir (whoS s.data.toList).1 (whoS s.data.toList).2.1 (whoS s.data.toList).2.2 (w1.alloc (Obj.cells #[.int .i64 ((whoS s.data.toList).1 : Nat), .int .i64 ((whoS s.data.toList).2.1 : Nat), .int .i64 ((whoS s.data.toList).2.2 : Nat)] 65)) := by
    have hb2 := hb.alloc hb.size (Obj.cells #[.int .i64 ((whoS s.data.toList).1 : Nat), .int .i64 ((whoS s.data.toList).2.1 : Nat), .int .i64 ((whoS s.data.toList).2.2 : Nat)] 65)
    refine ⟨⟨hb2.os, hb2.tape, hb2.output, hb2.size, fun k hk _ => hb2.block k hk⟩, ?_, at_new _ _⟩
    rw [hb2.block nc hnc]; exact hc
  have hwn : w.heap.size ≤ w1.heap.size := hb.size
  clear hb hrd hc
  generalize (whoS s.data.toList).1 = r at *
  generalize (whoS s.data.toList).2.1 = st at *
  generalize (whoS s.data.toList).2.2 = tk at *
  have HL := Lib.hid (And.intro l1 (And.intro l2 l3))
  have HM := Lib.hid hm
  clear l1 l2 l3 hm
  go_upto_region 2 with fail
  generalize w1.alloc (Obj.cells #[.int .i64 r, .int .i64 st, .int .i64 tk] 65) = W0 at *
  generalize w1.heap.size = nn at *
  have hne : nn ≠ nc := by omega
  have HCI := Lib.hid hci
  clear hci hz
  by_cases h0 : rest.data.toList = []
  · have h1 : rest.toList.isEmpty = true := by rw [Lib.toList_data, h0]; rfl
    have H0 := Lib.hid h0
    clear h0
    go_wp2
    go_ret
    exact .inl ⟨by rw [HCS.out, if_pos H0.out], rfl, HCI.out.g⟩
  · have h1 : rest.toList.isEmpty = false := by
      rw [Lib.toList_data]
      cases hh : rest.data.toList with
      | nil => exact absurd hh h0
      | cons => rfl
    have HCL : Hid (clauseS dir m s.data.toList = cloop dir r st tk rest.data.toList.length rest.data.toList m) := Lib.hid (by rw [HCS.out, if_neg h0])
    clear h0
    go_upto_region 4 with fail
    clear h1
    go_loopw [1, 6, 7, 8] (fun v1 v6 v7 v8 wr => ∃ (x : ByteArray) (m' k : Nat), v1 = .string x ∧ x.size ≤ s.size ∧ Hid (CI w nc nn m' dir r st tk wr ∧ m' < 4096 ∧ x.data.toList.length ≤ k ∧ cloop dir r st tk k x.data.toList m' = clauseS dir m s.data.toList)) (fun v1 v6 v7 v8 _ => match v1 with | .string x => x.size | _ => 0)
    case atStart => exact ⟨rest, m, rest.data.toList.length, rfl, HRS.out, Lib.hid ⟨HCI.out, HM.out, Nat.le_refl _, HCL.out.symm⟩⟩
    case round =>
      obtain ⟨x, m', k, rfl, hxs, HH⟩ := hrel
      by_cases hx0 : x.data.toList = []
      · have hx1 : x.toList.isEmpty = true := by rw [Lib.toList_data, hx0]; rfl
        have HX0 := Lib.hid hx0
        clear hx0
        go_wp2
        go_ret
        refine .inr ⟨m', ?_, HH.out.2.1, rfl, HH.out.1.g, HH.out.1.c⟩
        rw [← HH.out.2.2.2, HX0.out]
        cases k <;> rfl
      · have hx1 : x.toList.isEmpty = false := by
          rw [Lib.toList_data]
          cases hh : x.data.toList with
          | nil => exact absurd hh hx0
          | cons => rfl
        have hxz : 0 < x.size := by
          rcases Nat.eq_zero_or_pos x.size with h | h
          · exact absurd (List.eq_nil_of_length_eq_zero (by simpa using h)) hx0
          · exact h
        have hxz1 : (0 : Int) < x.size := by omega
        have hxz2 : (1 : Int) ≤ x.size := by omega
        have hcons : x.data.toList = x[0] :: (x.extract 1 x.size).data.toList := by
          rw [ex_data, List.take_of_length_le (by simp)]
          have hlen : 0 < x.data.toList.length := by simpa using hxz
          conv => lhs; rw [← List.drop_zero (l := x.data.toList), List.drop_eq_getElem_cons hlen]
          rfl
        have HCO := Lib.hid hcons
        clear hx0 hcons
        go_wp2_with fail
        refine (Any.strings_TrimLeft_laid Tryd.lays161 (by kernel_rfl) (x.extract 1 x.size) ⟨#[114, 119, 120, 88, 115, 116]⟩ _ (by decide) (ascii_of_all (by decide))).mono ?_
        rintro e w2 ⟨rfl, hb2⟩
        obtain ⟨R, hR⟩ : ∃ R : ByteArray, (⟨(Lib.trimLeftS (x.extract 1 x.size).data.toList (⟨#[114, 119, 120, 88, 115, 116]⟩ : ByteArray).data.toList).toArray⟩ : ByteArray) = R := ⟨_, rfl⟩
        rw [hR]
        have hRd : R.data.toList = (x.extract 1 x.size).data.toList.dropWhile isLetter := by
          rw [← hR, ← triml]; rfl
        have hci2 := HH.out.1.below hb2
        have htl : (x.extract 1 x.size).data.toList.length + 1 = x.size := by
          have := congrArg List.length HCO.out
          simp only [List.length_cons] at this
          simpa using this.symm
        have hRz : ((x.extract 1 x.size).data.toList.takeWhile isLetter).length + R.size + 1 = x.size := by
          have h := congrArg List.length (List.takeWhile_append_dropWhile (p := isLetter) (l := (x.extract 1 x.size).data.toList))
          rw [List.length_append, ← hRd] at h
          have h2 : R.data.toList.length = R.size := by simp
          omega
        have hlet : (x.extract 1 (x.size - R.size)).data.toList = (x.extract 1 x.size).data.toList.takeWhile isLetter := by
          rw [ex_data, ex_data, List.take_of_length_le (l := x.data.toList) (i := x.size) (by simp)]
          have h3 : (x.data.toList.drop 1).take (x.size - R.size - 1) = (x.data.toList.take (x.size - R.size)).drop 1 := by rw [List.drop_take]
          rw [← h3]
          have h4 : (x.extract 1 x.size).data.toList = x.data.toList.drop 1 := by rw [ex_data, List.take_of_length_le (by simp)]
          rw [h4] at hRz
          conv => lhs; rw [← List.takeWhile_append_dropWhile (p := isLetter) (l := x.data.toList.drop 1)]
          rw [List.take_append_of_le_length (by omega), List.take_of_length_le (by omega)]
        have j1 : IntKind.i64.wrap ((x.size : Int) - R.size) = (x.size : Int) - R.size := by rw [IntKind.wrap_i64]; omega
        have j2 : ((x.size : Int) - R.size).toNat = x.size - R.size := by omega
        have j3 : (1 : Int) ≤ (x.size : Int) - R.size := by omega
        have j4 : (x.size : Int) - R.size ≤ x.size := by omega
        have j5 : (0 : Int) ≤ (x.size : Int) - R.size := by omega
        have j6 : 1 ≤ x.size - R.size := by omega
        have j7 : x.size - R.size ≤ x.size := by omega
        have HLET := Lib.hid hlet
        have HRD := Lib.hid hRd
        have HRZ := Lib.hid hRz
        have HC2 := Lib.hid hci2
        have c0 : ∀ q, (w2.drewN q).cell? ⟨nc, 0, none⟩ = some (.int .i64 m') := fun q => heap_cell (w := w2.drewN q) hci2.c 0
        have c1 : ∀ q, (w2.drewN q).cell? ⟨nc, 1, none⟩ = some (.bool dir) := fun q => heap_cell (w := w2.drewN q) hci2.c 1
        have n0 : ∀ q, (w2.drewN q).cell? ⟨nn, 0, none⟩ = some (.int .i64 r) := fun q => heap_cell (w := w2.drewN q) hci2.n 0
        have n1 : ∀ q, (w2.drewN q).cell? ⟨nn, 1, none⟩ = some (.int .i64 st) := fun q => heap_cell (w := w2.drewN q) hci2.n 1
        have n2 : ∀ q, (w2.drewN q).cell? ⟨nn, 2, none⟩ = some (.int .i64 tk) := fun q => heap_cell (w := w2.drewN q) hci2.n 2
        clear hR hRd hci2 htl hRz hlet hb2
        have d0 := c0 0
        have d1 := c1 0
        have e0 := n0 0
        have e1 := n1 0
        have e2 := n2 0
        rw [World.drewN_zero] at d0 d1 e0 e1 e2
        go_wp2_with fail
        go_still_tail 11, (by kernel_rfl)
        have hdr : Below w2.heap.size w2 w2.drew := (Below.refl _ _).drew
        have hci3 := HC2.out.below hdr
        have HC3 := Lib.hid hci3
        clear hdr hci3 c0 c1 n0 n1 n2 d0 d1 e0 e1 e2
        go_wp2_with fail
        refine (bits_any m' r st tk dir (x.extract 1 (x.size - R.size)) (by rw [HLET.out]; exact all_take _) HH.out.2.1 HL.out.1 HL.out.2.1 HL.out.2.2 _).mono ?_
        rintro e w4 ⟨rfl, hb4⟩
        have HC4 := Lib.hid (HC3.out.below hb4)
        rw [HLET.out]
        obtain ⟨B, hB⟩ : ∃ B, bitsS m' dir r st tk ((x.extract 1 x.size).data.toList.takeWhile isLetter) = B := ⟨_, rfl⟩
        have hB4 : B < 4096 := by rw [← hB]; exact bitsS_lt HL.out.1 HL.out.2.1 HL.out.2.2 _ _ (by omega)
        rw [hB]
        obtain ⟨k', rfl⟩ : ∃ k', k = k' + 1 := ⟨k - 1, by
          have h1 := HH.out.2.2.1
          have h2 : x.data.toList.length = x.size := by simp
          omega⟩
        have hRk : R.data.toList.length ≤ k' := by
          have h1 := HH.out.2.2.1
          have h2 : x.data.toList.length = x.size := by simp
          have h3 : R.data.toList.length = R.size := by simp
          have h4 := HRZ.out
          omega
        have hstep : (if x[0] = 43 then cloop dir r st tk k' R.data.toList (m' ||| B)
          else if x[0] = 45 then cloop dir r st tk k' R.data.toList (m' &&& (full - B))
          else if x[0] = 61 then cloop dir r st tk k' R.data.toList ((m' &&& (full - ((r ||| st) ||| tk))) ||| B)
          else none) = clauseS dir m s.data.toList := by
          rw [← HH.out.2.2.2, HCO.out, HRD.out, ← hB]; rfl
        have hRs : R.size ≤ s.size := by have := HRZ.out; omega
        have hRx : R.size < x.size := by have := HRZ.out; omega
        have HSTEP := Lib.hid hstep
        have HRK := Lib.hid hRk
        have HB4 := Lib.hid hB4
        have HM4 := Lib.hid HH.out.2.1
        have a0 := heap_cell HC4.out.c 0
        have f0 := heap_free HC4.out.c 0
        have a0' := heap_cell (w := w4.drew) HC4.out.c 0
        have f0' := heap_free (w := w4.drew) HC4.out.c 0
        have b0' := heap_cell (w := w4.drew) HC4.out.n 0
        have b1' := heap_cell (w := w4.drew) HC4.out.n 1
        have b2' := heap_cell (w := w4.drew) HC4.out.n 2
        have o1 : bits .or .i64 (m' : Int) (B : Int) = ((m' ||| B : Nat) : Int) := or_nat (by have := HM4.out; unfold big; omega) (by unfold big; omega)
        have o2 : bits .andNot .i64 (m' : Int) (B : Int) = ((m' &&& (full - B) : Nat) : Int) := andNot_nat (by have := HM4.out; unfold big; omega) (by unfold big; omega)
        have o3 : bits .or .i64 (r : Int) (st : Int) = ((r ||| st : Nat) : Int) := or_nat (by have := HL.out.1; unfold big; omega) (by have := HL.out.2.1; unfold big; omega)
        have l3 := or_lt HL.out.1 HL.out.2.1
        have o4 : bits .or .i64 ((r ||| st : Nat) : Int) (tk : Int) = (((r ||| st) ||| tk : Nat) : Int) := or_nat (by unfold big; omega) (by have := HL.out.2.2; unfold big; omega)
        have l4 := or_lt l3 HL.out.2.2
        have o5 : bits .andNot .i64 (m' : Int) (((r ||| st) ||| tk : Nat) : Int) = ((m' &&& (full - ((r ||| st) ||| tk)) : Nat) : Int) := andNot_nat (by have := HM4.out; unfold big; omega) (by unfold big; omega)
        have l5 : m' &&& (full - ((r ||| st) ||| tk)) < 4096 := Nat.lt_of_le_of_lt Nat.and_le_left HM4.out
        have o6 : bits .or .i64 ((m' &&& (full - ((r ||| st) ||| tk)) : Nat) : Int) (B : Int) = (((m' &&& (full - ((r ||| st) ||| tk))) ||| B : Nat) : Int) := or_nat (by unfold big; omega) (by unfold big; omega)
        have L1 := Lib.hid (or_lt HM4.out hB4)
        have L2 : Hid (m' &&& (full - B) < 4096) := Lib.hid (Nat.lt_of_le_of_lt Nat.and_le_left HM4.out)
        have L3 := Lib.hid (or_lt l5 hB4)
        clear hB hB4 hRk hstep l3 l4 l5 HLET HRD HCO
        generalize x[0] = sg at *
        generalize m' ||| B = y1 at *
        generalize m' &&& (full - B) = y2 at *
        generalize (m' &&& (full - ((r ||| st) ||| tk))) ||| B = y3 at *
        generalize m' &&& (full - ((r ||| st) ||| tk)) = y4 at *
        generalize (r ||| st) ||| tk = y5 at *
        generalize r ||| st = y6 at *
        by_cases h43 : sg = 43
        · subst h43
          clear o2 o3 o4 o5 o6 a0' f0' b0' b1' b2'
          go_wp2
          go_roundw
          case rel => exact ⟨R, y1, k', rfl, hRs, Lib.hid ⟨HC4.out.set hne _, L1.out, HRK.out, by rw [← HSTEP.out]; rfl⟩⟩
          case measure => exact hRx
        · by_cases h45 : sg = 45
          · subst h45
            clear o1 o3 o4 o5 o6 a0' f0' b0' b1' b2' h43
            go_wp2
            go_roundw
            case rel => exact ⟨R, y2, k', rfl, hRs, Lib.hid ⟨HC4.out.set hne _, L2.out, HRK.out, by rw [← HSTEP.out]; rfl⟩⟩
            case measure => exact hRx
          · by_cases h61 : sg = 61
            · subst h61
              clear o1 o2 a0 f0 h43 h45
              go_wp2_with fail
              go_region
              go_wp2
              go_roundw
              case rel => exact ⟨R, y3, k', rfl, hRs, Lib.hid ⟨(HC4.out.below ((Below.refl _ _).drew)).set hne _, L3.out, HRK.out, by rw [← HSTEP.out]; rfl⟩⟩
              case measure => exact hRx
            · have n43 : ¬ (sg.toNat : Int) = 43 := fun h => h43 (by apply UInt8.toNat_inj.1; show sg.toNat = 43; omega)
              have n45 : ¬ (sg.toNat : Int) = 45 := fun h => h45 (by apply UInt8.toNat_inj.1; show sg.toNat = 45; omega)
              have n61 : ¬ (sg.toNat : Int) = 61 := fun h => h61 (by apply UInt8.toNat_inj.1; show sg.toNat = 61; omega)
              have HE : Hid (clauseS dir m s.data.toList = none) := Lib.hid (by rw [← HSTEP.out, if_neg h43, if_neg h45, if_neg h61])
              clear o1 o2 o3 o4 o5 o6 a0' f0' b0' b1' b2' h43 h45 h61 a0 f0
              go_wp2
              go_ret
              exact .inl ⟨HE.out, rfl, HC4.out.g⟩
end Go.Proofs.YtpoicdpfjmeehaaDoor
