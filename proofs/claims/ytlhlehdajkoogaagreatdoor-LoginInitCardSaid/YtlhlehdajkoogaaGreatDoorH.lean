/- login.New: init, getty, and what is none. -/
import Derived.Test.YtlhlehdajkoogaaGreatDoorG
import Derived.Test.YtlhlehdajkoogaaGreatDoorShelf
namespace Go.Proofs.YtlhlehdajkoogaaGreatDoor
open Go.RowKit

set_option maxRecDepth 100000 in
theorem prog_init (w : World) : Calls Tryz.prog 25 #[.string ⟨#[105, 110, 105, 116]⟩] w fun e w' => e = .returned (.func (.func 44) #[] #[]) ∧ w' = w := by
  go_enter Tryz.func25, Tryz.ntmps25
  go_wp2
  go_ret
  exact ⟨rfl, rfl⟩
set_option maxRecDepth 100000 in
theorem prog_getty (w : World) : Calls Tryz.prog 25 #[.string ⟨#[103, 101, 116, 116, 121]⟩] w fun e w' => e = .returned (.func (.func 45) #[] #[]) ∧ w' = w := by
  go_enter Tryz.func25, Tryz.ntmps25
  go_wp2
  go_ret
  exact ⟨rfl, rfl⟩
set_option maxRecDepth 100000 in
theorem prog_dog (w : World) : Calls Tryz.prog 25 #[.string ⟨#[100, 111, 103]⟩] w fun e w' => e = .returned .nilFunc ∧ w' = w := by
  go_enter Tryz.func25, Tryz.ntmps25
  go_wp2
  go_ret
  exact ⟨rfl, rfl⟩
abbrev FT : TypeId := 64
theorem info_text : (Tryz.prog.info? 9).map (fun i => (i.zero, i.size, i.bytes)) = some (some (.string ByteArray.empty), 1, 16) := by kernel_rfl
/-- One word alone. -/
def Words (w : World) (v : Value) (s : ByteArray) : Prop := ∃ b cap cur, v = .slice (some ⟨b, 0, none⟩) 1 cap ∧ w.heap[b]? = some (.cells cur 9 (0, 0)) ∧ cur[0]? = some (.string s)
theorem own_word {w : World} {B : Nat} {v : Value} {s : ByteArray} (h : w.ownsRow B 9 1 v 1 [.string s]) : B ≤ blockOf v ∧ Words w v s := by
  rcases h.2 with ⟨_, h0⟩ | ⟨b, cap, cur, rfl, hB, h1, _, _, _, h5⟩
  · cases h0
  · refine ⟨hB, b, cap, cur, rfl, h1, ?_⟩
    have : (cur.toList.take (1 * 1))[0]? = some (.string s) := by rw [h5]; rfl
    rw [List.getElem?_take, if_pos (by omega)] at this
    simpa using this
theorem Words.kb {w w' : World} {v : Value} {s : ByteArray} (h : Words w v s) (k : Kb w w') : Words w' v s := by
  obtain ⟨b, cap, cur, rfl, h1, h2⟩ := h
  exact ⟨b, cap, cur, rfl, k _ _ _ (by decide) (by decide) h1, h2⟩
/-- A program that has begun nothing yet. -/
structure Nw (w0 w : World) (prog : ByteArray) (d : FuncId) (s : ByteArray) (e : Ending) (l p pd pw : Nat) (v wv : Value) : Prop where
  ret : e = .returned (.pointer (some ⟨l, 0, none⟩))
  l : L w l p
  m : M w p { prog := prog, todo := v, th := .nilFunc, c := { op := 0 } }
  one : One w { prog := prog, todo := v, th := .nilFunc, c := { op := 0 } } (.func (.func 27) #[] #[.pointer (some ⟨pd, 0, none⟩), .pointer (some ⟨pw, 0, none⟩)])
  pd : w.heap[pd]? = some (.cells #[.func (.func d) #[] #[]] FT (0, 0))
  pw : w.heap[pw]? = some (.cells #[wv] 22 (0, 0))
  words : Words w wv s
  ge : w0.heap.size ≤ p
  bel : Below w0.heap.size w0 w
set_option maxRecDepth 100000 in
set_option maxHeartbeats 4000000 in
theorem lnew_any {w : World} (prog : ByteArray) (d : FuncId) (hp : ∀ W, Calls Tryz.prog 25 #[.string prog] W fun e w' => e = .returned (.func (.func d) #[] #[]) ∧ w' = W) {ab : Nat} {a0 a1 : ByteArray} (ha : w.heap[ab]? = some (.cells #[.string a0, .string a1] 9 (0, 0))) :
    Calls Tryz.prog 12 #[.string prog, .slice (some ⟨ab, 0, none⟩) 2 2] w fun e w' => ∃ l p pd pw v wv, Nw w w' prog d a1 e l p pd pw v wv := by
  have HP := Lib.hid (hp w)
  obtain ⟨w1, hw1⟩ : ∃ w1, (w.alloc (.cells #[.nilFunc] FT)).setCell ⟨w.heap.size, 0, none⟩ (.func (.func d) #[] #[]) = w1 := ⟨_, rfl⟩
  have hst : (store ⟨w.heap.size, 0, none⟩ (.func (.func d) #[] #[])).run Tryz.prog (w.alloc (.cells #[.nilFunc] FT)) = .ok () w1 := by
    rw [store_func (cell_of (alloc_heap w (.cells #[.nilFunc] FT)) 0) (frozen_of (alloc_heap w (.cells #[.nilFunc] FT)) 0), ← hw1]
  have h1 : w1.heap[w.heap.size]? = some (.cells #[.func (.func d) #[] #[]] FT (0, 0)) := by rw [← hw1]; exact heap_setCell_same (alloc_heap _ _) _
  have hb1 : Below w.heap.size w w1 := by rw [← hw1]; exact (belowA (Below.refl _ _) _).setCell (Nat.le_refl _) _
  have hs1 : w1.heap.size = w.heap.size + 1 := by rw [← hw1, World.size_setCell, alloc_size]
  have x1 : w1.cell? ⟨w.heap.size, 0, none⟩ = some (.func (.func d) #[] #[]) := cell_of h1 0
  have hef : ∀ (W : World) (fn : Fn) (fi ca : Array Value), (binOp BinOp.eql FT (.func fn fi ca) .nilFunc).run Tryz.prog W = .ok (.bool false) W := fun _ _ _ _ => rfl
  obtain ⟨i0, hi, hz0, hz1, hz2⟩ := info_parts info_text
  have h2p := alloc_heap w1 (.cells #[.slice none 0 0] 22)
  rw [hs1] at h2p
  have hb2 := belowA hb1 (.cells #[.slice none 0 0] 22)
  have h2d := (alloc_heap_old w1 (.cells #[.slice none 0 0] 22) (by omega)).trans h1
  have h2a := (hb2.block ab (lt_of_heap ha)).trans ha
  have hs2 := alloc_size w1 (.cells #[.slice none 0 0] 22)
  obtain ⟨w2, hw2⟩ : ∃ w2, w1.alloc (.cells #[.slice none 0 0] 22) = w2 := ⟨_, rfl⟩
  rw [hw2] at h2p hb2 h2d h2a hs2
  have p0 : w2.drew.cell? ⟨w.heap.size + 1, 0, none⟩ = some (.slice none 0 0) := cell_of (w := w2.drew) h2p 0
  have HA2 : Hid (∀ (j : Nat) (u : Value), [Value.string a1][j]? = some u → w2.drew.cell? ((⟨ab, 1, none⟩ : Addr).add j) = some u) := Lib.hid (fun j u hj => by
    have hadd : (⟨ab, 1, none⟩ : Addr).add j = ⟨ab, 1 + j, none⟩ := by unfold Addr.add; split <;> simp_all
    rw [hadd]
    refine (cell_of (w := w2.drew) h2a _).trans ?_
    cases j with
    | zero => exact hj
    | succ j => cases hj)
  have HB2 := Lib.hid hb2
  have H2P : Hid (w2.drew.heap[w.heap.size + 1]? = some (.cells #[.slice none 0 0] 22 (0, 0))) := Lib.hid h2p
  have H2D : Hid (w2.drew.heap[w.heap.size]? = some (.cells #[.func (.func d) #[] #[]] FT (0, 0))) := Lib.hid h2d
  have HS2 : Hid (w2.drew.heap.size = w.heap.size + 2) := Lib.hid (show w2.heap.size = w.heap.size + 2 by omega)
  have HSN := Lib.hid (fun W => snew_any (w := W) prog (.func 27) #[] #[.pointer (some ⟨w.heap.size, 0, none⟩), .pointer (some ⟨w.heap.size + 1, 0, none⟩)])
  have hmf : ∀ (fn : Fn) (first cap : Array Value) (w : World), (Instr.makeFunc fn first cap).run Tryz.prog w = .ok (.func fn first cap) w := fun _ _ _ _ => rfl
  clear h2p hb2 h2d h2a hs2 hp ha hw1 h1 hb1
  unfold FT at hst hef
  go_enter Tryz.func12, Tryz.ntmps12
  go_wp2_with fail
  refine HP.out.mono ?_
  rintro e w' ⟨rfl, rfl⟩
  go_wp2_with fail
  go_still_tail 3, (by kernel_rfl)
  change wpList _ _ _ _ _ w2.drew
  have HB3 := Lib.hid HB2.out.drew
  clear HB2 hw2 hst x1 hs1
  generalize w2.drew = w3 at *
  refine wpList_append_own _ rfl _ _ 22 rfl w'.heap.size 9 i0 (.string ByteArray.empty) 1 16 Tryz.underlying22 hi hz0 hz1 hz2 rfl (by decide) _ _ _ rfl (World.ownsRow_nil _ _ _ _) ⟨ab, 1, none⟩ 1 1 [.string a1] rfl rfl HA2.out (by simp [Value.oneCell']) (by unfold maxLen; omega) (by omega) (by have := HS2.out; omega) ?_
  intro v2 w4 hown4 hgrow4 hnil4
  obtain ⟨hge, b4, cap4, cur4, rfl, q1, q2⟩ := own_word hown4
  have hb4 : Below w3.heap.size w3 w4 := below_grown (Below.refl _ _) (Nat.le_refl _) hgrow4 (fun k hk => by cases hk)
  have h4p := (hb4.block _ (lt_of_heap H2P.out)).trans H2P.out
  have h4d := (hb4.block _ (lt_of_heap H2D.out)).trans H2D.out
  have c4 := cell_of h4p 0
  have f4 := frozen_of h4p 0
  rw [show (#[Value.slice none 0 0] : Array Value)[0]? = some (.slice none 0 0) from rfl] at c4
  have hne : b4 ≠ w'.heap.size + 1 := fun e => by
    subst e; rw [q1] at h4p; injection h4p with h4p; injection h4p with _ h4p _; exact absurd h4p (by decide)
  have hb5 := ((HB3.out.trans (hb4.mono (by have := HS2.out; omega))).setCell (p := ⟨w'.heap.size + 1, 0, none⟩) (show w'.heap.size ≤ w'.heap.size + 1 by omega) (.slice (some ⟨b4, 0, none⟩) 1 cap4))
  obtain ⟨w5, hw5⟩ : ∃ w5, w4.setCell ⟨w'.heap.size + 1, 0, none⟩ (.slice (some ⟨b4, 0, none⟩) 1 cap4) = w5 := ⟨_, rfl⟩
  rw [hw5] at hb5
  have h5p : w5.heap[w'.heap.size + 1]? = some (.cells #[.slice (some ⟨b4, 0, none⟩) 1 cap4] 22 (0, 0)) := by rw [← hw5]; exact heap_setCell_same h4p _
  have h5d : w5.heap[w'.heap.size]? = some (.cells #[.func (.func d) #[] #[]] FT (0, 0)) := by rw [← hw5]; exact (Below.heap_setCell _ _ _ _ (fun e => by have e' : w'.heap.size = w'.heap.size + 1 := e; omega)).trans h4d
  have h5w : w5.heap[b4]? = some (.cells cur4 9 (0, 0)) := by rw [← hw5]; exact (Below.heap_setCell _ _ _ _ hne).trans q1
  have HB5 := Lib.hid hb5
  have H5P := Lib.hid h5p
  have H5D := Lib.hid h5d
  have H5W : Hid (Words w5 (.slice (some ⟨b4, 0, none⟩) 1 cap4) a1) := Lib.hid ⟨b4, cap4, cur4, rfl, h5w, q2⟩
  clear hown4 hgrow4 hnil4 hge q1 q2 hb4 h4p h4d hb5 h5p h5d h5w hne HB3 H2P H2D HS2 HA2 p0
  go_wp2_with fail
  refine (HSN.out _).mono ?_
  rintro e w6 ⟨p, v, rfl, h1, h2, h3, h4⟩
  have hge : w'.heap.size ≤ p := by have := HB5.out.size; omega
  have HL := Lib.hid (alloc_heap w6 (.cells #[.pointer (some ⟨p, 0, none⟩)] LT))
  have hk6 := Kb.below h4
  have hk7 : Kb w6 (w6.alloc (.cells #[.pointer (some ⟨p, 0, none⟩)] LT)) := Kb.below ((Below.refl _ _).alloc (Nat.le_refl _) _)
  have H1 := Lib.hid (h1.alloc (.cells #[.pointer (some ⟨p, 0, none⟩)] LT))
  have H2 := Lib.hid (h2.kb hk7)
  have HD := Lib.hid (hk7 _ _ _ (by decide) (by decide) (hk6 _ _ _ (by decide) (by decide) H5D.out))
  have HW := Lib.hid (hk7 _ _ _ (by decide) (by decide) (hk6 _ _ _ (by decide) (by decide) H5P.out))
  have HWW := Lib.hid ((H5W.out.kb hk6).kb hk7)
  have HBB := Lib.hid (belowA (HB5.out.trans (h4.mono HB5.out.size)) (.cells #[.pointer (some ⟨p, 0, none⟩)] LT))
  clear h1 h2 h3 h4 hk6 hk7
  go_wp2
  go_ret
  exact ⟨_, p, _, _, v, _, ⟨rfl, HL.out, H1.out, H2.out, HD.out, HW.out, HWW.out, hge, HBB.out⟩⟩
end Go.Proofs.YtlhlehdajkoogaaGreatDoor
