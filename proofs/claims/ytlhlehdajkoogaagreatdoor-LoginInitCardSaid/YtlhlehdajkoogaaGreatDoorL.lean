/- getty's walk, as far as the statements' small case goes. -/
import Derived.Test.YtlhlehdajkoogaaGreatDoorK
namespace Go.Proofs.YtlhlehdajkoogaaGreatDoor
open Go.RowKit

theorem ThP.sys {w w' : World} {p : Nat} {m : Ma} {c : Ca} {k : FuncId} {ca : Array Value} (h : M w' p { m with c := c, th := .func (.func k) #[] ca }) (ho : m.over = false) (h1 : c.args.oneCell' = true) (h2 : c.env.oneCell' = true) (hm : Mo p w w') {R : Ma → World → Prop} (hR : R { m with c := c, th := .func (.func k) #[] ca } w') : ThP p w R (.returned (.tuple #[])) w' :=
  ⟨rfl, _, h, ⟨⟨h1, h2⟩, .inl ⟨_, _, _, rfl, ho⟩⟩, hm, hR⟩
theorem ThP.end {w : World} {p : Nat} {R : Ma → World → Prop} {e : Ending} {w' : World} (h : ThP p w R e w') : e = .returned (.tuple #[]) := h.1
theorem ThP.pre {w w0 : World} {p : Nat} {R : Ma → World → Prop} {e : Ending} {w' : World} (h : ThP p w R e w') (k : Mo p w0 w) : ThP p w0 R e w' := by
  obtain ⟨h1, m', h2, h3, h4, h5⟩ := h
  exact ⟨h1, m', h2, h3, k.trans h4, h5⟩
/-- A machine that told a call, with what follows. -/
structure At (c : Ca) (k : FuncId) (m : Ma) (w : World) : Prop where
  over : m.over = false
  c : m.c = c
  th : m.th = .func (.func k) #[] #[]
set_option maxRecDepth 100000 in
set_option maxHeartbeats 4000000 in
theorem getty_any {w : World} {p : Nat} {m : Ma} (h : M w p m) (ho : m.over = false) {v : Value} {s : ByteArray} (hw : Words w v s) (hs : s.size = 1) (u : Nat) (hu : u < 100) (hp : Lib.parseUintB 8 s.data.toList = .ok u) :
    Calls Tryz.prog 45 #[.pointer (some ⟨p, 0, none⟩), v] w (ThP p w (At { op := 25, n := u } 73)) := by
  have HD := Lib.hid (digit_any hw hs u (by omega) hp)
  have HH := Lib.hid h
  have HO := Lib.hid ho
  clear h hw hp hs ho
  go_enter Tryz.func45, Tryz.ntmps45
  go_wp2_with fail
  refine HD.out.mono ?_
  rintro e w1 ⟨rfl, hb⟩
  have HM := Lib.hid (HH.out.below hb)
  have HMO := Lib.hid ((Mo.refl p w).below hb)
  clear hb HD HH
  go_wp2_with fail
  refine (sys_any HM.out { op := 25, n := u } _ _ _ rfl rfl).mono ?_
  rintro e w2 ⟨rfl, h1, h2⟩
  have H : Hid (ThP p w (At { op := 25, n := u } 73) (.returned (.tuple #[])) w2) := Lib.hid (ThP.sys h1 HO.out rfl rfl (HMO.out.trans h2) ⟨HO.out, rfl, rfl⟩)
  clear h1 h2
  go_wp2
  exact bodyPost_end (results_none rfl _ _ _) rfl H.out
theorem en_getty (args : Array Value) (w : World) : (callFunc 45 args).run Tryz.prog w = .ok (.enter 45 args) w := enter_of Tryz.func45 (by kernel_rfl) rfl args w
theorem en_getty1 (args : Array Value) (w : World) : (callFunc 73 args).run Tryz.prog w = .ok (.enter 73 args) w := enter_of Tryz.func73 (by kernel_rfl) rfl args w
theorem en_say (args : Array Value) (w : World) : (callFunc 159 args).run Tryz.prog w = .ok (.enter 159 args) w := enter_of Tryz.func159 (by kernel_rfl) rfl args w
theorem en_names1 (args : Array Value) (w : World) : (callFunc 117 args).run Tryz.prog w = .ok (.enter 117 args) w := enter_of Tryz.func117 (by kernel_rfl) rfl args w
theorem en_names11 (args : Array Value) (w : World) : (callFunc 119 args).run Tryz.prog w = .ok (.enter 119 args) w := enter_of Tryz.func119 (by kernel_rfl) rfl args w
def hello : ByteArray := ⟨#[108, 111, 103, 105, 110, 58, 32]⟩
set_option maxRecDepth 100000 in
set_option maxHeartbeats 4000000 in
theorem names_any {w : World} {p : Nat} {m : Ma} (h : M w p m) (ho : m.over = false) :
    Calls Tryz.prog 74 #[.pointer (some ⟨p, 0, none⟩)] w (ThP p w (SayS 1 hello (.func (.func 117) #[] #[]))) := by
  have HH := Lib.hid h
  have HO := Lib.hid ho
  clear h ho
  go_enter Tryz.func74, Tryz.ntmps74
  go_wp2_with fail
  refine (say_any HH.out HO.out 1 hello (by rw [ByteArray.toList_eq]; rfl) _ _ _).mono ?_
  intro e w1 h
  obtain rfl := h.end
  have H := Lib.hid h
  clear h
  go_wp2
  exact bodyPost_end (results_none rfl _ _ _) rfl H.out
set_option maxRecDepth 100000 in
set_option maxHeartbeats 4000000 in
theorem gettied_any {w : World} {p : Nat} {m : Ma} (h : M w p m) (ho : m.over = false) (r : An) (he : r.err = 0) :
    Calls Tryz.prog 73 #[.pointer (some ⟨p, 0, none⟩), .agg r.cells] w (ThP p w (SayS 1 hello (.func (.func 117) #[] #[]))) := by
  obtain ⟨C, hC⟩ : ∃ C, r.cells = C := ⟨_, rfl⟩
  have h0 : C[0]? = some (.int .i64 0) := by rw [← hC, ← he]; rfl
  rw [hC]
  have ha := alloc_heap w (.cells C 35)
  have x0 : (w.alloc (.cells C 35)).cell? ⟨w.heap.size, 0, none⟩ = some (.int .i64 0) := (cell_of ha 0).trans h0
  have HM := Lib.hid (h.alloc (.cells C 35))
  have HMO := Lib.hid ((Mo.refl p w).alloc (.cells C 35))
  have HO := Lib.hid ho
  clear h ho hC h0 ha he
  go_enter Tryz.func73, Tryz.ntmps73
  go_wp2_with fail
  refine (names_any HM.out HO.out).mono ?_
  intro e w1 h
  obtain rfl := h.end
  have H := Lib.hid (h.pre HMO.out)
  clear h
  go_wp2
  exact bodyPost_end (results_none rfl _ _ _) rfl H.out
set_option maxRecDepth 100000 in
set_option maxHeartbeats 4000000 in
theorem said_any {w : World} {p b1 b2 b3 : Nat} {text : ByteArray} {k : FuncId} {ca : Array Value} (h1 : w.heap[b1]? = some (.cells #[.string text] 9 (0, 0))) (h2 : w.heap[b2]? = some (.cells #[.func (.func k) #[] ca] KT (0, 0))) (r : An) (he : r.err = 0) (hn : 1 ≤ r.n) (hl : (text.size : Int) ≤ r.n)
    (hen : ∀ (args : Array Value) (w : World), (callFunc k args).run Tryz.prog w = .ok (.enter k args) w) {R : Ma → World → Prop} (hk : ∀ w1, Below w.heap.size w w1 → Calls Tryz.prog k (#[.pointer (some ⟨p, 0, none⟩)] ++ ca) w1 (ThP p w1 R)) :
    Calls Tryz.prog 159 #[.pointer (some ⟨p, 0, none⟩), .agg r.cells, .pointer (some ⟨b1, 0, none⟩), .pointer (some ⟨b2, 0, none⟩), .pointer (some ⟨b3, 0, none⟩)] w (ThP p w R) := by
  obtain ⟨C, hC⟩ : ∃ C, r.cells = C := ⟨_, rfl⟩
  have h0 : C[0]? = some (.int .i64 0) := by rw [← hC, ← he]; rfl
  have hN : C[1]? = some (.int .i64 r.n) := by rw [← hC]; rfl
  rw [hC]
  have ha := alloc_heap w (.cells C 35)
  have x0 : (w.alloc (.cells C 35)).cell? ⟨w.heap.size, 0, none⟩ = some (.int .i64 0) := (cell_of ha 0).trans h0
  have x1 : (w.alloc (.cells C 35)).cell? ⟨w.heap.size, 1, none⟩ = some (.int .i64 r.n) := (cell_of ha 1).trans hN
  have y1 : (w.alloc (.cells C 35)).cell? ⟨b1, 0, none⟩ = some (.string text) := cell_of ((alloc_heap_old _ _ (lt_of_heap h1)).trans h1) 0
  have y2 : (w.alloc (.cells C 35)).cell? ⟨b2, 0, none⟩ = some (.func (.func k) #[] ca) := cell_of ((alloc_heap_old _ _ (lt_of_heap h2)).trans h2) 0
  have HK := Lib.hid (hk _ ((Below.refl w.heap.size w).alloc (Nat.le_refl _) (.cells C 35)))
  have HMO := Lib.hid ((Mo.refl p w).alloc (.cells C 35))
  have g1 : ¬ r.n < 1 := by omega
  have g1b : decide (r.n < 1) = false := by simp; omega
  have g2 : (text.size : Int) ≤ r.n := hl
  have g2b : decide ((text.size : Int) ≤ r.n) = true := by simp; omega
  clear hC h0 hN ha he h1 h2 hk
  go_enter Tryz.func159, Tryz.ntmps159
  go_wp2_with fail
  refine HK.out.mono ?_
  intro e w1 h
  obtain rfl := h.end
  have H := Lib.hid (h.pre HMO.out)
  clear h
  go_wp2
  exact bodyPost_end (results_none rfl _ _ _) rfl H.out
set_option maxRecDepth 100000 in
set_option maxHeartbeats 4000000 in
theorem names1_any {w : World} {p : Nat} {m : Ma} (h : M w p m) (ho : m.over = false) :
    Calls Tryz.prog 117 #[.pointer (some ⟨p, 0, none⟩)] w (ThP p w (At { op := 4, n := 257, line := true } 119)) := by
  have HH := Lib.hid h
  have HO := Lib.hid ho
  clear h ho
  go_enter Tryz.func117, Tryz.ntmps117
  go_wp2_with fail
  refine reads_any.mono ?_
  rintro e w1 ⟨rfl, hb⟩
  have HM := Lib.hid (HH.out.below hb)
  have HMO := Lib.hid ((Mo.refl p w).below hb)
  clear hb HH
  go_wp2_with fail
  refine (sys_any HM.out { op := 4, n := 257, line := true } _ _ _ rfl rfl).mono ?_
  rintro e w2 ⟨rfl, h1, h2⟩
  have H : Hid (ThP p w (At { op := 4, n := 257, line := true } 119) (.returned (.tuple #[])) w2) := Lib.hid (ThP.sys h1 HO.out rfl rfl (HMO.out.trans h2) ⟨HO.out, rfl, rfl⟩)
  clear h1 h2
  go_wp2
  exact bodyPost_end (results_none rfl _ _ _) rfl H.out
end Go.Proofs.YtlhlehdajkoogaaGreatDoor
