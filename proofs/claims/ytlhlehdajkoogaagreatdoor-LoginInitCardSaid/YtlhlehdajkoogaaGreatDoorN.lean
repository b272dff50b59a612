/- getty tells a name to login. -/
import Derived.Test.YtlhlehdajkoogaaGreatDoorL
namespace Go.Proofs.YtlhlehdajkoogaaGreatDoor
open Go.RowKit

theorem bt_one (f : Value) : (#[f] : Array Value)[0]? = some f := rfl
set_option maxRecDepth 100000 in
set_option maxHeartbeats 4000000 in
theorem ignores_any {w : World} (fn : Fn) (fi ca : Array Value) :
    Calls Tryz.prog 113 #[.func fn fi ca] w fun e w' => e = .returned (.func (.func 157) #[] #[.pointer (some ⟨w.heap.size, 0, none⟩)]) ∧ w' = w.alloc (.cells #[.func fn fi ca] KT) := by
  have hmf : ∀ (fn : Fn) (first cap : Array Value) (w : World), (Instr.makeFunc fn first cap).run Tryz.prog w = .ok (.func fn first cap) w := fun _ _ _ _ => rfl
  go_enter Tryz.func113, Tryz.ntmps113
  go_wp2
  go_ret
  exact ⟨rfl, rfl⟩
/-- A machine that becomes login. -/
def Exec (name : ByteArray) (m : Ma) (w : World) : Prop := ∃ b, m.c = { op := 19, path := ⟨#[47, 98, 105, 110, 47, 108, 111, 103, 105, 110]⟩, args := .slice (some ⟨b, 0, none⟩) 2 2 } ∧ w.heap[b]? = some (.cells #[.string ⟨#[108, 111, 103, 105, 110]⟩, .string name] 9 (0, 0))
set_option maxRecDepth 100000 in
set_option maxHeartbeats 4000000 in
theorem named_any {w : World} {p : Nat} {m : Ma} (h : M w p m) (ho : m.over = false) (r : An) (he : r.err = 0) (hs : r.text.size ≤ 9223372036854775807) (ht : r.text.toList.isEmpty = false) (name : ByteArray) (hn : (⟨(Lib.trimSuffix r.text.data.toList [10]).toArray⟩ : ByteArray) = name) (hn0 : name.toList.isEmpty = false) :
    Calls Tryz.prog 119 #[.pointer (some ⟨p, 0, none⟩), .agg r.cells] w (ThP p w (Exec name)) := by
  obtain ⟨C, hC⟩ : ∃ C, r.cells = C := ⟨_, rfl⟩
  obtain ⟨text, hx⟩ : ∃ x, r.text = x := ⟨_, rfl⟩
  have h0 : C[0]? = some (.int .i64 0) := by rw [← hC, ← he]; rfl
  have h3 : C[3]? = some (.string text) := by rw [← hC, ← hx]; rfl
  rw [hC]
  rw [hx] at hs ht hn
  have ha := alloc_heap w (.cells C 35)
  obtain ⟨w1, hw1⟩ : ∃ w1, w.alloc (.cells C 35) = w1 := ⟨_, rfl⟩
  rw [hw1] at ha
  have x0 : w1.cell? ⟨w.heap.size, 0, none⟩ = some (.int .i64 0) := (cell_of ha 0).trans h0
  have x3 : w1.cell? ⟨w.heap.size, 3, none⟩ = some (.string text) := (cell_of ha 3).trans h3
  have HM := Lib.hid (show M w1 p m by rw [← hw1]; exact h.alloc _)
  have HMO := Lib.hid (show Mo p w w1 by rw [← hw1]; exact (Mo.refl p w).alloc _)
  have HO := Lib.hid ho
  have HT := Lib.hid (Tryz.strings_TrimSuffix text ⟨#[10]⟩ w1 hs)
  have HN : Hid ((⟨(Lib.trimSuffix text.data.toList (⟨#[10]⟩ : ByteArray).data.toList).toArray⟩ : ByteArray) = name) := Lib.hid hn
  clear h ho hC h0 h3 ha he hx hs hn
  go_enter Tryz.func119, Tryz.ntmps119
  go_wp2_with fail
  refine HT.out.mono ?_
  rintro e w2 ⟨rfl, rfl⟩
  rw [HN.out]
  have hb := alloc_heap w2 (.cells #[.string ⟨#[108, 111, 103, 105, 110]⟩, .string name] 9)
  have HB := Lib.hid hb
  clear hb HT HN
  go_wp2_with fail
  refine (ignores_any _ _ _).mono ?_
  rintro e w3 ⟨rfl, rfl⟩
  have hM3 := (HM.out.alloc (.cells #[.string ⟨#[108, 111, 103, 105, 110]⟩, .string name] 9)).alloc (.cells #[.func (.func 121) #[] #[]] KT)
  have hmo3 := (HMO.out.alloc (.cells #[.string ⟨#[108, 111, 103, 105, 110]⟩, .string name] 9)).alloc (.cells #[.func (.func 121) #[] #[]] KT)
  have hb3 := (alloc_heap_old (w2.alloc (.cells #[.string ⟨#[108, 111, 103, 105, 110]⟩, .string name] 9)) (.cells #[.func (.func 121) #[] #[]] KT) (lt_of_heap HB.out)).trans HB.out
  have HS := Lib.hid (sys_any hM3 { op := 19, path := ⟨#[47, 98, 105, 110, 47, 108, 111, 103, 105, 110]⟩, args := .slice (some ⟨w2.heap.size, 0, none⟩) 2 2 } (.func 157) #[] #[.pointer (some ⟨(w2.alloc (.cells #[.string ⟨#[108, 111, 103, 105, 110]⟩, .string name] 9)).heap.size, 0, none⟩)] rfl rfl)
  have HM3 := Lib.hid hM3
  have HMO3 := Lib.hid hmo3
  have HB3 := Lib.hid hb3
  clear hM3 hmo3 hb3 HM HMO HB
  rw [alloc_size] at HS ⊢
  go_wp2_with fail
  refine HS.out.mono ?_
  rintro e w4 ⟨rfl, h1, h2⟩
  have hk := Kb.mo HM3.out h2
  have H : Hid (ThP p w (Exec name) (.returned (.tuple #[])) w4) := Lib.hid (ThP.sys h1 HO.out rfl rfl (HMO3.out.trans h2) ⟨_, rfl, hk _ _ _ (by decide) (by decide) HB3.out⟩)
  clear h1 h2 hk
  go_wp2
  exact bodyPost_end (results_none rfl _ _ _) rfl H.out
end Go.Proofs.YtlhlehdajkoogaaGreatDoor
