/- The bits of some letters; those who are named. -/
import Derived.Test.YtpoicdpfjmeehaaDoorC
namespace Go.Proofs.YtpoicdpfjmeehaaDoor
open Go.RowKit

/-- One letter's bits are added. -/
def bstep (mode : Nat) (dir : Bool) (r s t : Nat) (b : Nat) (c : UInt8) : Nat :=
  if c = 114 then b ||| (r &&& 292) else if c = 119 then b ||| (r &&& 146) else if c = 120 then b ||| (r &&& 73)
  else if c = 88 then (if (dir || !((mode &&& 73) == 0)) = true then b ||| (r &&& 73) else b)
  else if c = 115 then b ||| s else if c = 116 then b ||| t else b
def bitsS (mode : Nat) (dir : Bool) (r s t : Nat) (l : Bytes) : Nat := l.foldl (bstep mode dir r s t) 0
def isLetter (c : UInt8) : Bool := c == 114 || c == 119 || c == 120 || c == 88 || c == 115 || c == 116
theorem or_lt {a b : Nat} (ha : a < 4096) (hb : b < 4096) : a ||| b < 4096 := Nat.or_lt_two_pow (n := 12) ha hb
theorem bstep_lt {mode : Nat} {dir : Bool} {r s t b : Nat} {c : UInt8} (hr : r < 4096) (hs : s < 4096) (ht : t < 4096) (hb : b < 4096) : bstep mode dir r s t b c < 4096 := by
  have h : ∀ k, r &&& k < 4096 := fun k => Nat.lt_of_le_of_lt Nat.and_le_left hr
  unfold bstep
  repeat' split
  all_goals first | exact or_lt hb (h _) | exact or_lt hb hs | exact or_lt hb ht | exact hb
theorem heap_cell {w : World} {b : Nat} {C : Array Value} {T : TypeId} {f : Nat × Nat} (h : w.heap[b]? = some (.cells C T f)) (i : Nat) : w.cell? ⟨b, i, none⟩ = C[i]? := by simp [World.cell?, h]
theorem get_data (s : ByteArray) (i : Nat) (h : i < s.size) : s.data.toList[i]? = some s[i] := by
  rw [List.getElem?_eq_getElem (by simpa using h)]; rfl
theorem fold_take {α : Type} (f : α → UInt8 → α) (s : ByteArray) (j : Nat) (h : j < s.size) (x : α) : (s.data.toList.take (j + 1)).foldl f x = f ((s.data.toList.take j).foldl f x) s[j] := by
  have hl : j < s.data.toList.length := by simpa using h
  rw [List.take_succ_eq_append_getElem hl, List.foldl_append]
  rfl

set_option maxHeartbeats 2000000 in
theorem bits_any (mode r s t : Nat) (dir : Bool) (l : ByteArray) (hl : l.data.toList.all isLetter = true) (hm : mode < 4096) (hr : r < 4096) (hs : s < 4096) (ht : t < 4096) (w : World) :
    Calls Tryd.prog 43 #[.agg #[.int .i64 mode, .bool dir], .string l, .agg #[.int .i64 r, .int .i64 s, .int .i64 t]] w fun e w' =>
      e = .returned (.int .i64 (bitsS mode dir r s t l.data.toList : Nat)) ∧ Below w.heap.size w w' := by
  go_enter Tryd.func43, Tryd.ntmps43
  go_wp2
  have hz : ((w.alloc (Obj.cells #[.int .i64 mode, .bool dir] 50)).alloc (Obj.cells #[.int .i64 r, .int .i64 s, .int .i64 t] 65)).heap.size = w.heap.size + 1 + 1 := by simp
  have hb0 : Below w.heap.size w ((w.alloc (Obj.cells #[.int .i64 mode, .bool dir] 50)).alloc (Obj.cells #[.int .i64 r, .int .i64 s, .int .i64 t] 65)) := ((Below.refl _ _).alloc (Nat.le_refl _) _).alloc (by simp) _
  have h1 : ((w.alloc (Obj.cells #[.int .i64 mode, .bool dir] 50)).alloc (Obj.cells #[.int .i64 r, .int .i64 s, .int .i64 t] 65)).heap[w.heap.size]? = some (.cells #[.int .i64 mode, .bool dir] 50 (0, 0)) := by
    rw [Below.heap_alloc _ _ _ (by simp)]; exact at_new _ _
  have h2 : ((w.alloc (Obj.cells #[.int .i64 mode, .bool dir] 50)).alloc (Obj.cells #[.int .i64 r, .int .i64 s, .int .i64 t] 65)).heap[w.heap.size + 1]? = some (.cells #[.int .i64 r, .int .i64 s, .int .i64 t] 65 (0, 0)) := by
    have := at_new (w.alloc (Obj.cells #[.int .i64 mode, .bool dir] 50)) (Obj.cells #[.int .i64 r, .int .i64 s, .int .i64 t] 65)
    rw [World.size_alloc] at this; exact this
  generalize (w.alloc (Obj.cells #[.int .i64 mode, .bool dir] 50)).alloc (Obj.cells #[.int .i64 r, .int .i64 s, .int .i64 t] 65) = W0 at *
  rw [← hz]
  have cel : ∀ pos b i, b < W0.heap.size → (W0.iter l pos).cell? ⟨b, i, none⟩ = W0.cell? ⟨b, i, none⟩ := fun pos b i hb => ((Below.refl W0.heap.size W0).alloc (Nat.le_refl _) _).cell (p := ⟨b, i, none⟩) hb
  have k0 : ∀ pos, (W0.iter l pos).cell? ⟨w.heap.size, 0, none⟩ = some (.int .i64 mode) := fun pos => by rw [cel pos _ _ (by omega), heap_cell h1 0]; rfl
  have k1 : ∀ pos, (W0.iter l pos).cell? ⟨w.heap.size, 1, none⟩ = some (.bool dir) := fun pos => by rw [cel pos _ _ (by omega), heap_cell h1 1]; rfl
  have k2 : ∀ pos, (W0.iter l pos).cell? ⟨w.heap.size + 1, 0, none⟩ = some (.int .i64 r) := fun pos => by rw [cel pos _ _ (by omega), heap_cell h2 0]; rfl
  have k3 : ∀ pos, (W0.iter l pos).cell? ⟨w.heap.size + 1, 1, none⟩ = some (.int .i64 s) := fun pos => by rw [cel pos _ _ (by omega), heap_cell h2 1]; rfl
  have k4 : ∀ pos, (W0.iter l pos).cell? ⟨w.heap.size + 1, 2, none⟩ = some (.int .i64 t) := fun pos => by rw [cel pos _ _ (by omega), heap_cell h2 2]; rfl
  have hbw : ∀ pos, Below w.heap.size w (W0.iter l pos) := fun pos => hb0.alloc hb0.size _
  have HBW := Lib.hid hbw
  have HL := Lib.hid hl
  have HM := Lib.hid hm
  have HR := Lib.hid hr
  have HS := Lib.hid hs
  have HT := Lib.hid ht
  clear hbw hl hm hr hs ht h1 h2 hb0 cel hz
  go_loopw [7, 9] (fun v7 v9 wr => ∃ (pos b : Nat), wr = W0.iter l pos ∧ v7 = .int .i64 b ∧ pos ≤ l.size ∧ Hid (b = (l.data.toList.take pos).foldl (bstep mode dir r s t) 0 ∧ b < 4096)) (fun _ _ wr => l.size - wr.iterPos W0.heap.size)
  case atStart => exact ⟨0, 0, rfl, rfl, Nat.zero_le _, Lib.hid ⟨rfl, by omega⟩⟩
  case round =>
    obtain ⟨pos, b, rfl, rfl, hpos, HB⟩ := hrel
    have q0 := k0 (pos + 1)
    have q1 := k1 (pos + 1)
    have q2 := k2 (pos + 1)
    have q3 := k3 (pos + 1)
    have q4 := k4 (pos + 1)
    clear k0 k1 k2 k3 k4
    by_cases hp : pos < l.size
    · have hlet : isLetter l[pos] = true := List.all_eq_true.1 HL.out _ (List.mem_of_getElem? (get_data l pos hp))
      have hcs : l[pos] = 114 ∨ l[pos] = 119 ∨ l[pos] = 120 ∨ l[pos] = 88 ∨ l[pos] = 115 ∨ l[pos] = 116 := by
        unfold isLetter at hlet
        simpa [or_assoc] using hlet
      clear hlet
      rcases hcs with hc | hc | hc | hc | hc | hc
      · have hnx : ∀ ty, (Instr.next (.pointer (some ⟨W0.heap.size, 0, none⟩)) true ty).run Tryd.prog (W0.iter l pos) = .ok (.tuple #[.bool true, .int .i64 pos, .int .i32 114]) (W0.iter l (pos + 1)) := fun ty => by
          rw [run_next_ascii W0 l pos ty hp (by rw [hc]; decide), hc]; rfl
        have HST := Lib.hid (fold_take (bstep mode dir r s t) l pos hp 0)
        rw [hc] at HST
        have f1 : bits .and .i64 (r : Int) 292 = ((r &&& 292 : Nat) : Int) := and_nat (b := 292) (by have := HR.out; unfold big; omega) (by decide)
        have hx : r &&& 292 < 4096 := Nat.lt_of_le_of_lt Nat.and_le_left HR.out
        have HBS : Hid (bstep mode dir r s t b 114 = b ||| (r &&& 292)) := Lib.hid (by simp [bstep])
        generalize r &&& 292 = x at *
        have f2 : bits .or .i64 (b : Int) (x : Int) = ((b ||| x : Nat) : Int) := or_nat (by have := HB.out.2; unfold big; omega) (by unfold big; omega)
        have HLT := Lib.hid (or_lt HB.out.2 hx)
        clear hx hc
        go_wp2
        go_roundw
        case rel => exact ⟨pos + 1, b ||| x, rfl, rfl, by omega, Lib.hid ⟨by rw [HST.out, ← HB.out.1, HBS.out], HLT.out⟩⟩
        case measure => simp; omega
      · have hnx : ∀ ty, (Instr.next (.pointer (some ⟨W0.heap.size, 0, none⟩)) true ty).run Tryd.prog (W0.iter l pos) = .ok (.tuple #[.bool true, .int .i64 pos, .int .i32 119]) (W0.iter l (pos + 1)) := fun ty => by
          rw [run_next_ascii W0 l pos ty hp (by rw [hc]; decide), hc]; rfl
        have HST := Lib.hid (fold_take (bstep mode dir r s t) l pos hp 0)
        rw [hc] at HST
        have f1 : bits .and .i64 (r : Int) 146 = ((r &&& 146 : Nat) : Int) := and_nat (b := 146) (by have := HR.out; unfold big; omega) (by decide)
        have hx : r &&& 146 < 4096 := Nat.lt_of_le_of_lt Nat.and_le_left HR.out
        have HBS : Hid (bstep mode dir r s t b 119 = b ||| (r &&& 146)) := Lib.hid (by simp [bstep])
        generalize r &&& 146 = x at *
        have f2 : bits .or .i64 (b : Int) (x : Int) = ((b ||| x : Nat) : Int) := or_nat (by have := HB.out.2; unfold big; omega) (by unfold big; omega)
        have HLT := Lib.hid (or_lt HB.out.2 hx)
        clear hx hc
        go_wp2
        go_roundw
        case rel => exact ⟨pos + 1, b ||| x, rfl, rfl, by omega, Lib.hid ⟨by rw [HST.out, ← HB.out.1, HBS.out], HLT.out⟩⟩
        case measure => simp; omega
      · have hnx : ∀ ty, (Instr.next (.pointer (some ⟨W0.heap.size, 0, none⟩)) true ty).run Tryd.prog (W0.iter l pos) = .ok (.tuple #[.bool true, .int .i64 pos, .int .i32 120]) (W0.iter l (pos + 1)) := fun ty => by
          rw [run_next_ascii W0 l pos ty hp (by rw [hc]; decide), hc]; rfl
        have HST := Lib.hid (fold_take (bstep mode dir r s t) l pos hp 0)
        rw [hc] at HST
        have f1 : bits .and .i64 (r : Int) 73 = ((r &&& 73 : Nat) : Int) := and_nat (b := 73) (by have := HR.out; unfold big; omega) (by decide)
        have hx : r &&& 73 < 4096 := Nat.lt_of_le_of_lt Nat.and_le_left HR.out
        have HBS : Hid (bstep mode dir r s t b 120 = b ||| (r &&& 73)) := Lib.hid (by simp [bstep])
        generalize r &&& 73 = x at *
        have f2 : bits .or .i64 (b : Int) (x : Int) = ((b ||| x : Nat) : Int) := or_nat (by have := HB.out.2; unfold big; omega) (by unfold big; omega)
        have HLT := Lib.hid (or_lt HB.out.2 hx)
        clear hx hc
        go_wp2
        go_roundw
        case rel => exact ⟨pos + 1, b ||| x, rfl, rfl, by omega, Lib.hid ⟨by rw [HST.out, ← HB.out.1, HBS.out], HLT.out⟩⟩
        case measure => simp; omega
      · have hnx : ∀ ty, (Instr.next (.pointer (some ⟨W0.heap.size, 0, none⟩)) true ty).run Tryd.prog (W0.iter l pos) = .ok (.tuple #[.bool true, .int .i64 pos, .int .i32 88]) (W0.iter l (pos + 1)) := fun ty => by
          rw [run_next_ascii W0 l pos ty hp (by rw [hc]; decide), hc]; rfl
        have HST := Lib.hid (fold_take (bstep mode dir r s t) l pos hp 0)
        rw [hc] at HST
        have f1 : bits .and .i64 (r : Int) 73 = ((r &&& 73 : Nat) : Int) := and_nat (b := 73) (by have := HR.out; unfold big; omega) (by decide)
        have f3 : bits .and .i64 (mode : Int) 73 = ((mode &&& 73 : Nat) : Int) := and_nat (b := 73) (by have := HM.out; unfold big; omega) (by decide)
        have hx : r &&& 73 < 4096 := Nat.lt_of_le_of_lt Nat.and_le_left HR.out
        have HBS : Hid (bstep mode dir r s t b 88 = if (dir || !((mode &&& 73) == 0)) = true then b ||| (r &&& 73) else b) := Lib.hid (by simp [bstep])
        generalize r &&& 73 = x at *
        generalize mode &&& 73 = y at *
        have f2 : bits .or .i64 (b : Int) (x : Int) = ((b ||| x : Nat) : Int) := or_nat (by have := HB.out.2; unfold big; omega) (by unfold big; omega)
        have HLT := Lib.hid (or_lt HB.out.2 hx)
        clear hx hc
        by_cases hd : dir = true
        · subst hd
          go_wp2
          go_roundw
          case rel => exact ⟨pos + 1, b ||| x, rfl, rfl, by omega, Lib.hid ⟨by rw [HST.out, ← HB.out.1, HBS.out]; simp, HLT.out⟩⟩
          case measure => simp; omega
        · have hd2 : dir = false := by simpa using hd
          subst hd2
          by_cases hy : y = 0
          · subst hy
            go_wp2
            go_roundw
            case rel => exact ⟨pos + 1, b, rfl, rfl, by omega, Lib.hid ⟨by rw [HST.out, ← HB.out.1, HBS.out]; simp, HB.out.2⟩⟩
            case measure => simp; omega
          · have hy1 : ¬ (y : Int) = 0 := by omega
            have HY := Lib.hid hy
            clear hy
            go_wp2
            go_roundw
            case rel => exact ⟨pos + 1, b ||| x, rfl, rfl, by omega, Lib.hid ⟨by rw [HST.out, ← HB.out.1, HBS.out]; simp [HY.out], HLT.out⟩⟩
            case measure => simp; omega
      · have hnx : ∀ ty, (Instr.next (.pointer (some ⟨W0.heap.size, 0, none⟩)) true ty).run Tryd.prog (W0.iter l pos) = .ok (.tuple #[.bool true, .int .i64 pos, .int .i32 115]) (W0.iter l (pos + 1)) := fun ty => by
          rw [run_next_ascii W0 l pos ty hp (by rw [hc]; decide), hc]; rfl
        have HST := Lib.hid (fold_take (bstep mode dir r s t) l pos hp 0)
        rw [hc] at HST
        have hx := HS.out
        have HBS : Hid (bstep mode dir r s t b 115 = b ||| s) := Lib.hid (by simp [bstep])
        have f2 : bits .or .i64 (b : Int) (s : Int) = ((b ||| s : Nat) : Int) := or_nat (by have := HB.out.2; unfold big; omega) (by unfold big; omega)
        have HLT := Lib.hid (or_lt HB.out.2 hx)
        clear hx hc
        go_wp2
        go_roundw
        case rel => exact ⟨pos + 1, b ||| s, rfl, rfl, by omega, Lib.hid ⟨by rw [HST.out, ← HB.out.1, HBS.out], HLT.out⟩⟩
        case measure => simp; omega
      · have hnx : ∀ ty, (Instr.next (.pointer (some ⟨W0.heap.size, 0, none⟩)) true ty).run Tryd.prog (W0.iter l pos) = .ok (.tuple #[.bool true, .int .i64 pos, .int .i32 116]) (W0.iter l (pos + 1)) := fun ty => by
          rw [run_next_ascii W0 l pos ty hp (by rw [hc]; decide), hc]; rfl
        have HST := Lib.hid (fold_take (bstep mode dir r s t) l pos hp 0)
        rw [hc] at HST
        have hx := HT.out
        have HBS : Hid (bstep mode dir r s t b 116 = b ||| t) := Lib.hid (by simp [bstep])
        have f2 : bits .or .i64 (b : Int) (t : Int) = ((b ||| t : Nat) : Int) := or_nat (by have := HB.out.2; unfold big; omega) (by unfold big; omega)
        have HLT := Lib.hid (or_lt HB.out.2 hx)
        clear hx hc
        go_wp2
        go_roundw
        case rel => exact ⟨pos + 1, b ||| t, rfl, rfl, by omega, Lib.hid ⟨by rw [HST.out, ← HB.out.1, HBS.out], HLT.out⟩⟩
        case measure => simp; omega
    · have hnx := fun ty => run_next_end (P := Tryd.prog) W0 l pos ty hp
      have HE : Hid (b = bitsS mode dir r s t l.data.toList) := Lib.hid (by rw [HB.out.1, List.take_of_length_le (by simp; omega)]; rfl)
      go_wp2
      go_ret
      have hE := HE.out
      subst hE
      exact ⟨rfl, HBW.out pos⟩
end Go.Proofs.YtpoicdpfjmeehaaDoor
