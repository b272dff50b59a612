/- Say; getty, as far as the statements' small case goes. -/
import Derived.Test.YtlhlehdajkoogaaGreatDoorJ
namespace Go.Proofs.YtlhlehdajkoogaaGreatDoor
open Go.RowKit

abbrev KT : TypeId := 70
/-- A machine that says a text. -/
structure SayS (fd : Int) (text : ByteArray) (f : Value) (m : Ma) (w : World) : Prop where
  over : m.over = false
  c : m.c = { op := 5, fd := fd, text := text }
  th : ∃ b1 b2 b3, m.th = .func (.func 159) #[] #[.pointer (some ⟨b1, 0, none⟩), .pointer (some ⟨b2, 0, none⟩), .pointer (some ⟨b3, 0, none⟩)] ∧ w.heap[b1]? = some (.cells #[.string text] 9 (0, 0)) ∧ w.heap[b2]? = some (.cells #[f] KT (0, 0)) ∧ w.heap[b3]? = some (.cells #[.int .i64 fd] 3 (0, 0))
set_option maxRecDepth 100000 in
set_option maxHeartbeats 4000000 in
theorem say_any {w : World} {p : Nat} {m : Ma} (h : M w p m) (hov : m.over = false) (fd : Int) (text : ByteArray) (hne : text.toList.isEmpty = false) (fn : Fn) (fi ca : Array Value) :
    Calls Tryz.prog 116 #[.pointer (some ⟨p, 0, none⟩), .int .i64 fd, .string text, .func fn fi ca] w (ThP p w (SayS fd text (.func fn fi ca))) := by
  have hmf : ∀ (fn : Fn) (first cap : Array Value) (w : World), (Instr.makeFunc fn first cap).run Tryz.prog w = .ok (.func fn first cap) w := fun _ _ _ _ => rfl
  have HH := Lib.hid h
  clear h
  go_enter Tryz.func116, Tryz.ntmps116
  go_wp2_with fail
  have a1 := alloc_heap w (.cells #[.int .i64 fd] 3)
  have a2 := (alloc_heap_old (w.alloc (.cells #[.int .i64 fd] 3)) (.cells #[.string text] 9) (lt_of_heap a1)).trans a1
  have b1 := alloc_heap (w.alloc (.cells #[.int .i64 fd] 3)) (.cells #[.string text] 9)
  rw [alloc_size] at b1
  have c1 := alloc_heap ((w.alloc (.cells #[.int .i64 fd] 3)).alloc (.cells #[.string text] 9)) (.cells #[.func fn fi ca] KT)
  rw [alloc_size, alloc_size] at c1
  have a3 := (alloc_heap_old ((w.alloc (.cells #[.int .i64 fd] 3)).alloc (.cells #[.string text] 9)) (.cells #[.func fn fi ca] KT) (lt_of_heap a2)).trans a2
  have b2 := (alloc_heap_old ((w.alloc (.cells #[.int .i64 fd] 3)).alloc (.cells #[.string text] 9)) (.cells #[.func fn fi ca] KT) (lt_of_heap b1)).trans b1
  have hM := ((HH.out.alloc (.cells #[.int .i64 fd] 3)).alloc (.cells #[.string text] 9)).alloc (.cells #[.func fn fi ca] KT)
  have hmo := (((Mo.refl p w).alloc (.cells #[.int .i64 fd] 3)).alloc (.cells #[.string text] 9)).alloc (.cells #[.func fn fi ca] KT)
  have HC := Lib.hid (sys_any hM { op := 5, fd := fd, text := text } (.func 159) #[] #[.pointer (some ⟨w.heap.size + 1, 0, none⟩), .pointer (some ⟨w.heap.size + 1 + 1, 0, none⟩), .pointer (some ⟨w.heap.size, 0, none⟩)] rfl rfl)
  have HA := Lib.hid a3
  have HB := Lib.hid b2
  have HF := Lib.hid c1
  have HM := Lib.hid hM
  have HMO := Lib.hid hmo
  clear a1 a2 a3 b1 b2 c1 hM hmo
  refine HC.out.mono ?_
  rintro e w1 ⟨rfl, h1, h2⟩
  have hk := Kb.mo HM.out h2
  have H1 := Lib.hid h1
  have H2 := Lib.hid (HMO.out.trans h2)
  have HS : Hid (SayS fd text (.func fn fi ca) { m with c := { op := 5, fd := fd, text := text }, th := .func (.func 159) #[] #[.pointer (some ⟨w.heap.size + 1, 0, none⟩), .pointer (some ⟨w.heap.size + 1 + 1, 0, none⟩), .pointer (some ⟨w.heap.size, 0, none⟩)] } w1) := Lib.hid ⟨hov, rfl, _, _, _, rfl, hk _ _ _ (by decide) (by decide) HB.out, hk _ _ _ (by decide) (by decide) HF.out, hk _ _ _ (by decide) (by decide) HA.out⟩
  clear h1 h2 hk
  go_wp2
  exact bodyPost_end (results_none rfl _ _ _) rfl ⟨rfl, _, H1.out, ⟨⟨rfl, rfl⟩, .inl ⟨_, _, _, rfl, hov⟩⟩, H2.out, HS.out⟩
set_option maxRecDepth 100000 in
set_option maxHeartbeats 4000000 in
theorem reads_any {w : World} :
    Calls Tryz.prog 118 #[] w fun e w' => e = .returned (.agg ({ op := 4, n := 257, line := true } : Ca).cells) ∧ Below w.heap.size w w' := by
  obtain ⟨c, hc⟩ : ∃ c : Ca, ({ op := 4, n := 257, line := true } : Ca) = c := ⟨_, rfl⟩
  rw [hc]
  have HI : Hid ((Tryz.prog.info? 39).map (·.size) = some c.cells.size) := Lib.hid rfl
  have H1 : Hid (c.cells.all (·.oneCell') = true) := Lib.hid (by rw [← hc]; exact Ca.one _ rfl rfl)
  have HE : Hid (.agg c.cells = Value.agg #[.int .i64 4, .string ⟨#[]⟩, .string ⟨#[]⟩, .string ⟨#[]⟩, .int .i64 0, .int .i64 0, .int .i64 257, .int .i64 0, .int .i64 0, .int .i64 0, .int .i64 0, .bool false, .bool false, .bool false, .bool false, .int .i64 0, .bool true, .bool false, .slice none 0 0, .slice none 0 0]) := Lib.hid (by rw [← hc]; rfl)
  have hA := alloc_heap w (.cells ({ op := 0 } : Ca).cells 39)
  have hT : (w.alloc (.cells ({ op := 0 } : Ca).cells 39)).there w.heap.size 0 c.cells.size := show (w.alloc (.cells ({ op := 0 } : Ca).cells 39)).there w.heap.size 0 (({ op := 0 } : Ca).cells.size) from there_of hA
  have hwr := heap_setCells c.cells.toList 0 _ _ hA
  have hput : putA ({ op := 0 } : Ca).cells 0 c.cells.toList = c.cells := putA_whole rfl
  rw [hput] at hwr
  have hsz : (((w.alloc (.cells ({ op := 0 } : Ca).cells 39)).setCells w.heap.size 0 c.cells.toList)).heap.size = w.heap.size + 1 := by rw [setCells_size, alloc_size]
  have hbel : Below w.heap.size w ((w.alloc (.cells ({ op := 0 } : Ca).cells 39)).setCells w.heap.size 0 c.cells.toList) := by
    have hb := belowA (Below.refl w.heap.size w) (.cells ({ op := 0 } : Ca).cells 39)
    exact ⟨(setCells_os _ _ _).1.trans hb.os, (setCells_os _ _ _).2.1.trans hb.tape, (setCells_os _ _ _).2.2.trans hb.output, by rw [setCells_size]; exact hb.size, fun k hk => (heap_setCells_other (by omega) _ _ _).trans (hb.block k hk)⟩
  obtain ⟨wA, hwA⟩ : ∃ wA, w.alloc (.cells ({ op := 0 } : Ca).cells 39) = wA := ⟨_, rfl⟩
  rw [hwA] at hT hwr hbel
  obtain ⟨C, hC⟩ : ∃ C, c.cells = C := ⟨_, rfl⟩
  rw [hC] at HI H1 HE hT hwr hbel ⊢
  obtain ⟨w4, hw4⟩ : ∃ w4, wA.setCells w.heap.size 0 C.toList = w4 := ⟨_, rfl⟩
  rw [hw4] at hwr hbel
  have HT := Lib.hid hT
  have HW := Lib.hid hwr
  have HB := Lib.hid hbel
  unfold Ca.cells at hwA
  clear hA hT hwr hbel hput hsz hC hc
  go_enter Tryz.func118, Tryz.ntmps118
  go_wp2_with (refine wpList_store_mid rfl 39 _ _ rfl w.heap.size 0 C rfl HE.out.symm HT.out HI.out H1.out ?_; rw [hw4]; clear hw4)
  exact bodyPost_ret (v := .agg C) (results_cell_row rfl _ w4 w.heap.size 39 C (0, 0) _ rfl HW.out Tryz.underlying39 rfl HI.out) rfl ⟨rfl, HB.out⟩
end Go.Proofs.YtlhlehdajkoogaaGreatDoor
