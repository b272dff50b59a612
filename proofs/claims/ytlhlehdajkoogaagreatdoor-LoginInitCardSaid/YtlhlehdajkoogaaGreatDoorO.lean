/- getty told; the statements' small case. -/
import Derived.Test.YtlhlehdajkoogaaGreatDoorN
namespace Go.Proofs.YtlhlehdajkoogaaGreatDoor
open Go.RowKit

theorem SayS.kb {fd : Int} {text : ByteArray} {f : Value} {m : Ma} {w w' : World} (h : SayS fd text f m w) (k : Kb w w') : SayS fd text f m w' := by
  obtain ⟨b1, b2, b3, h1, h2, h3, h4⟩ := h.th
  exact ⟨h.over, h.c, b1, b2, b3, h1, k _ _ _ (by decide) (by decide) h2, k _ _ _ (by decide) (by decide) h3, k _ _ _ (by decide) (by decide) h4⟩
theorem Exec.kb {name : ByteArray} {m : Ma} {w w' : World} (h : Exec name m w) (k : Kb w w') : Exec name m w' := by
  obtain ⟨b, h1, h2⟩ := h
  exact ⟨b, h1, k _ _ _ (by decide) (by decide) h2⟩
theorem At.kb {c : Ca} {k : FuncId} {m : Ma} {w w' : World} (h : At c k m w) : At c k m w' := ⟨h.over, h.c, h.th⟩
theorem g1_any {w0 w : World} {prog s : ByteArray} {e0 : Ending} {l p pd pw : Nat} {v wv : Value} (h : Nw w0 w prog 45 s e0 l p pd pw v wv) (hs : s.size = 1) (u : Nat) (hu : u < 100) (hp : Lib.parseUintB 8 s.data.toList = .ok u) (r : An) :
    Calls Tryz.prog 14 #[.pointer (some ⟨l, 0, none⟩), .agg r.cells] w (NextP p w (At { op := 25, n := u } 73)) := by
  refine lnext_any h.l h.m r (fun m' w1 w2 k hh => hh.kb) fun w1 h1 k1 s1 => ?_
  obtain ⟨td, cap, cur, g1, g2, g3, g4⟩ := h.one
  refine start_any h1 rfl rfl g1 (k1 _ _ _ (by decide) (by decide) g2) g3 g4 r (fun m' w1 w2 k hh => hh.kb) en_new fun w2 h2 k2 s2 => ?_
  have k3 := k1.trans k2
  refine newd_any (k3 _ _ _ (by decide) (by decide) h.pd) (k3 _ _ _ (by decide) (by decide) h.pw) en_getty ?_
  exact getty_any h2 rfl (h.words.kb k3) hs u hu hp
theorem g2_any {w : World} {l p : Nat} {m : Ma} {c : Ca} (hl : L w l p) (h : M w p m) (hs : At c 73 m w) (r : An) (he : r.err = 0) :
    Calls Tryz.prog 14 #[.pointer (some ⟨l, 0, none⟩), .agg r.cells] w (NextP p w (SayS 1 hello (.func (.func 117) #[] #[]))) := by
  refine lnext_any hl h r (fun m' w1 w2 k hh => hh.kb k) fun w1 h1 k1 s1 => ?_
  refine then_any h1 hs.over hs.th r (fun m' w1 w2 k hh => hh.kb k) en_getty1 fun w2 h2 k2 s2 => ?_
  exact gettied_any h2 hs.over r he
theorem g3_any {w : World} {l p : Nat} {m : Ma} {fd : Int} {text : ByteArray} (hl : L w l p) (h : M w p m) (hs : SayS fd text (.func (.func 117) #[] #[]) m w) (r : An) (he : r.err = 0) (hn : 1 ≤ r.n) (ht : (text.size : Int) ≤ r.n) :
    Calls Tryz.prog 14 #[.pointer (some ⟨l, 0, none⟩), .agg r.cells] w (NextP p w (At { op := 4, n := 257, line := true } 119)) := by
  refine lnext_any hl h r (fun m' w1 w2 k hh => hh.kb) fun w1 h1 k1 s1 => ?_
  obtain ⟨b1, b2, b3, e1, e2, e3, e4⟩ := (hs.kb k1).th
  refine then_any h1 hs.over e1 r (fun m' w1 w2 k hh => hh.kb) en_say fun w2 h2 k2 s2 => ?_
  exact said_any (k2 _ _ _ (by decide) (by decide) e2) (k2 _ _ _ (by decide) (by decide) e3) r he hn ht en_names1 fun w3 h3 => names1_any (h2.below h3) hs.over
theorem g4_any {w : World} {l p : Nat} {m : Ma} {c : Ca} (hl : L w l p) (h : M w p m) (hs : At c 119 m w) (r : An) (he : r.err = 0) (hz : r.text.size ≤ 9223372036854775807) (ht : r.text.toList.isEmpty = false) (name : ByteArray) (hn : (⟨(Lib.trimSuffix r.text.data.toList [10]).toArray⟩ : ByteArray) = name) (hn0 : name.toList.isEmpty = false) :
    Calls Tryz.prog 14 #[.pointer (some ⟨l, 0, none⟩), .agg r.cells] w (NextP p w (Exec name)) := by
  refine lnext_any hl h r (fun m' w1 w2 k hh => hh.kb k) fun w1 h1 k1 s1 => ?_
  refine then_any h1 hs.over hs.th r (fun m' w1 w2 k hh => hh.kb k) en_names11 fun w2 h2 k2 s2 => ?_
  exact named_any h2 hs.over r he hz ht name hn hn0
set_option maxRecDepth 100000 in
theorem ldog_any {w : World} : Calls Tryz.prog 12 #[.string ⟨#[100, 111, 103]⟩, .slice none 0 0] w fun e w' => e = .returned (.pointer none) ∧ Below w.heap.size w w' := by
  have HP := Lib.hid (prog_dog w)
  have hst : (store ⟨w.heap.size, 0, none⟩ .nilFunc).run Tryz.prog (w.alloc (.cells #[.nilFunc] FT)) = .ok () ((w.alloc (.cells #[.nilFunc] FT)).setCell ⟨w.heap.size, 0, none⟩ .nilFunc) := by
    rw [run_store _ _ _ _ _ rfl]
    simp [stored, cell_of (alloc_heap w (.cells #[.nilFunc] FT)) 0, frozen_of (alloc_heap w (.cells #[.nilFunc] FT)) 0]
  obtain ⟨w1, hw1⟩ : ∃ w1, (w.alloc (.cells #[.nilFunc] FT)).setCell ⟨w.heap.size, 0, none⟩ .nilFunc = w1 := ⟨_, rfl⟩
  rw [hw1] at hst
  have h1 : w1.heap[w.heap.size]? = some (.cells #[.nilFunc] FT (0, 0)) := by rw [← hw1]; exact heap_setCell_same (alloc_heap _ _) _
  have HB : Hid (Below w.heap.size w w1) := Lib.hid (by rw [← hw1]; exact (belowA (Below.refl _ _) _).setCell (Nat.le_refl _) _)
  have x1 : w1.cell? ⟨w.heap.size, 0, none⟩ = some .nilFunc := cell_of h1 0
  have hef : ∀ (W : World), (binOp BinOp.eql FT .nilFunc .nilFunc).run Tryz.prog W = .ok (.bool true) W := fun _ => rfl
  unfold FT at hst hef
  clear hw1 h1
  go_enter Tryz.func12, Tryz.ntmps12
  go_wp2_with fail
  refine HP.out.mono ?_
  rintro e w' ⟨rfl, rfl⟩
  go_wp2
  go_ret
  exact ⟨rfl, HB.out⟩
theorem stored_call {w : World} {C : Array Value} (h : C.size = 20) : ∃ W, World.setCells (w.alloc (.cells #[.int .i64 0, .string ⟨#[]⟩, .string ⟨#[]⟩, .string ⟨#[]⟩, .int .i64 0, .int .i64 0, .int .i64 0, .int .i64 0, .int .i64 0, .int .i64 0, .int .i64 0, .bool false, .bool false, .bool false, .bool false, .int .i64 0, .bool false, .bool false, .slice none 0 0, .slice none 0 0] 39)) w.heap.size 0 C.toList = W ∧ W.heap[w.heap.size]? = some (.cells C 39 (0, 0)) ∧ Below w.heap.size w W ∧ W.heap.size = w.heap.size + 1 ∧ (w.alloc (.cells #[.int .i64 0, .string ⟨#[]⟩, .string ⟨#[]⟩, .string ⟨#[]⟩, .int .i64 0, .int .i64 0, .int .i64 0, .int .i64 0, .int .i64 0, .int .i64 0, .int .i64 0, .bool false, .bool false, .bool false, .bool false, .int .i64 0, .bool false, .bool false, .slice none 0 0, .slice none 0 0] 39)).there w.heap.size 0 C.size := by
  have hA := alloc_heap w (.cells ({ op := 0 } : Ca).cells 39)
  have hwr := heap_setCells C.toList 0 _ _ hA
  rw [putA_whole (show C.size = ({ op := 0 } : Ca).cells.size from h)] at hwr
  have hb := belowA (Below.refl w.heap.size w) (.cells ({ op := 0 } : Ca).cells 39)
  refine ⟨_, rfl, hwr, ⟨(setCells_os _ _ _).1.trans hb.os, (setCells_os _ _ _).2.1.trans hb.tape, (setCells_os _ _ _).2.2.trans hb.output, by rw [setCells_size]; exact hb.size, fun k hk => (heap_setCells_other (by omega) _ _ _).trans (hb.block k hk)⟩, by rw [setCells_size]; exact alloc_size _ _, ?_⟩
  rw [h]
  exact there_of hA
end Go.Proofs.YtlhlehdajkoogaaGreatDoor
