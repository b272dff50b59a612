/-
  It is proved that WalkOwners returns true for every input of bulk at most 1048576: whatever tree some steps have made and whoever asks Chmod or Chown of it: if an inode has another mode, owner or group behind it, the one who asked is 0 or owned it; 0 alone gives another owner; and behind a Chown that is OK set-user-id is off and the owner and group are those asked for.
  Conditions: none beyond the statement's own (the reading of the arguments, its bulk; internal/bytealg.MaxLen is named, not read).
-/
import Derived.Test.YtafonmnfeibaiaaGreatAll4
import Derived.Test.YtafonmnfeibaiaaGreatAll5
import Derived.Test.YtafonmnfeibaiaaGreatAll6
import Derived.Test.YtafonmnfeibaiaaGreatRows
import Derived.WalkKit
import Derived.ProofKit
import Derived.OpenShut
import Derived.ShutString
import Derived.ChangeOld
import Derived.SliceStrings
import Derived.JoinedCond
import Derived.Below
set_option linter.all false
set_option maxRecDepth 100000
set_option maxHeartbeats 40000000
namespace Go.Proofs.YtafonmnfeibaiaaGreat
open Go.RowKit
def statF (T : IT.Tr) (k j : Nat) : Int := match T k with
 | none => 0
 | some m => match j with
   | 0 => k
   | 1 => m.kind
   | 2 => m.mode
   | 3 => m.owner
   | 4 => m.group
   | 5 => (IT.lnk T k : Nat)
   | 6 => (m.data.length + m.names.length : Nat)
   | _ => m.tty
theorem stat_F (T : IT.Tr) (k : Nat) : statV T k = .agg #[.int .i64 (statF T k 0), .int .i64 (statF T k 1), .int .i64 (statF T k 2), .int .i64 (statF T k 3), .int .i64 (statF T k 4), .int .i64 (statF T k 5), .int .i64 (statF T k 6), .int .i64 (statF T k 7)] := by
 unfold statV statF
 cases T k <;> rfl
def wasA (F : Nat → Nat → Int) : Array Value := Array.ofFn (n := 1608) fun i => .int .i64 (F (i.val / 8) (i.val % 8))
theorem wasA_size (F : Nat → Nat → Int) : (wasA F).size = 1608 := by simp [wasA]
theorem wasA_get (F : Nat → Nat → Int) {i : Nat} (h : i < 1608) : (wasA F)[i]? = some (.int .i64 (F (i / 8) (i % 8))) := by simp [wasA, h]
theorem wasA_cell (F : Nat → Nat → Int) {d j : Nat} (hd : d < 201) (hj : j < 8) : (wasA F)[d * 8 + j]? = some (.int .i64 (F d j)) := by
 rw [wasA_get F (by omega)]
 congr 3
 · congr 1; omega
 · omega
theorem wasA_zero : wasA (fun _ _ => 0) = Array.replicate 1608 (.int .i64 0) := by
 apply Array.ext_getElem?
 intro i
 by_cases hi : i < 1608
 · rw [wasA_get _ hi]; simp [hi]
 · rw [Array.getElem?_eq_none (by rw [wasA_size]; omega), Array.getElem?_eq_none (by simp; omega)]
def setF (F : Nat → Nat → Int) (d : Nat) (v : Nat → Int) : Nat → Nat → Int := fun k j => if k = d then v j else F k j
theorem wasA_set (F : Nat → Nat → Int) {d : Nat} (hd : d < 201) (v : Nat → Int) : ((((((((wasA F).setIfInBounds (d * 8) (.int .i64 (v 0))).setIfInBounds (d * 8 + 1) (.int .i64 (v 1))).setIfInBounds (d * 8 + 2) (.int .i64 (v 2))).setIfInBounds (d * 8 + 3) (.int .i64 (v 3))).setIfInBounds (d * 8 + 4) (.int .i64 (v 4))).setIfInBounds (d * 8 + 5) (.int .i64 (v 5))).setIfInBounds (d * 8 + 6) (.int .i64 (v 6))).setIfInBounds (d * 8 + 7) (.int .i64 (v 7)) = wasA (setF F d v) := by
 apply Array.ext_getElem?
 intro i
 simp only [Array.getElem?_setIfInBounds, Array.size_setIfInBounds, wasA_size]
 by_cases hi : i < 1608
 · rw [wasA_get _ hi, wasA_get _ hi]
   unfold setF
   by_cases e : i / 8 = d
   · rw [if_pos e]
     have hm : i % 8 < 8 := Nat.mod_lt _ (by decide)
     have hx : i = d * 8 + i % 8 := by omega
     generalize i % 8 = j at *
     subst hx
     obtain rfl | rfl | rfl | rfl | rfl | rfl | rfl | rfl : j = 0 ∨ j = 1 ∨ j = 2 ∨ j = 3 ∨ j = 4 ∨ j = 5 ∨ j = 6 ∨ j = 7 := by omega
     all_goals
      repeat (first | rw [if_pos (by omega), if_pos (by omega)] | rw [if_neg (by omega)])
   · rw [if_neg e]
     repeat rw [if_neg (by omega)]
 · rw [Array.getElem?_eq_none (by rw [wasA_size]; omega), Array.getElem?_eq_none (by rw [wasA_size]; omega)]
   repeat rw [if_neg (by omega)]
structure WO (n0 : Nat) (w1 wr : World) (t : Nat) (S : Tab) (T : IT.Tr) (b5 b6 b7 : Nat) (V C A : Array Value) : Prop where
 tro : Tro n0 w1 wr t S T
 op : wr.heap[b5]? = some (.cells V 24 (0, 0))
 cr : wr.heap[b6]? = some (.cells C 36 (0, 0))
 was : wr.heap[b7]? = some (.cells A 48 (0, 0))
 l7 : n0 ≤ b7
theorem WO.below {n0 : Nat} {w1 wr w' : World} {t : Nat} {S : Tab} {T : IT.Tr} {b5 b6 b7 : Nat} {V C A : Array Value} (h : WO n0 w1 wr t S T b5 b6 b7 V C A) (hb : Below wr.heap.size wr w') : WO n0 w1 w' t S T b5 b6 b7 V C A :=
 ⟨h.tro.below hb, (hb.block _ (lt_of_heap h.op)).trans h.op, (hb.block _ (lt_of_heap h.cr)).trans h.cr, (hb.block _ (lt_of_heap h.was)).trans h.was, h.l7⟩
theorem WO.step {n0 : Nat} {w1 wr w' : World} {t : Nat} {S : Tab} {T : IT.Tr} {b5 b6 b7 : Nat} {V C A : Array Value} (h : WO n0 w1 wr t S T b5 b6 b7 V C A) {R : IT.Tr → Prop} (g : Stp wr t S R w') (hR : ∀ T', R T' → IT.Sound okN T') : ∃ S' T', WO n0 w1 w' t S' T' b5 b6 b7 V C A ∧ R T' := by
 obtain ⟨S', T', h1, h2, h3⟩ := h.tro.lay g hR
 exact ⟨S', T', ⟨h1, h3.2 _ _ _ _ h.op (by decide) (by decide) (by decide), h3.2 _ _ _ _ h.cr (by decide) (by decide) (by decide), h3.2 _ _ _ _ h.was (by decide) (by decide) (by decide), h.l7⟩, h2⟩
theorem WO.cell {n0 : Nat} {w1 wr : World} {t : Nat} {S : Tab} {T : IT.Tr} {b5 b6 b7 : Nat} {V C : Array Value} {F : Nat → Nat → Int} (h : WO n0 w1 wr t S T b5 b6 b7 V C (wasA F)) {d j : Nat} (hd : d < 201) (hj : j < 8) : wr.cell? ⟨b7, d * 8 + j, none⟩ = some (.int .i64 (F d j)) := (cell_of h.was _).trans (wasA_cell F hd hj)
def sets (W : World) (b : Nat) (l : List (Nat × Value)) : World := l.foldl (fun W x => W.setCell ⟨b, x.1, none⟩ x.2) W
theorem sets_other {b c : Nat} (hne : c ≠ b) : ∀ (l : List (Nat × Value)) (W : World), (sets W b l).heap[c]? = W.heap[c]?
 | [], _ => rfl
 | x :: l, W => (sets_other hne l _).trans (Below.heap_setCell _ _ _ _ hne)
theorem sets_same {b : Nat} : ∀ (l : List (Nat × Value)) (W : World) (C : Array Value) (T : TypeId) (f : Nat × Nat), W.heap[b]? = some (.cells C T f) → (sets W b l).heap[b]? = some (.cells (l.foldl (fun C x => C.setIfInBounds x.1 x.2) C) T f)
 | [], _, _, _, _, h => h
 | x :: l, W, C, T, f, h => sets_same l _ _ T f (heap_setCell_same h x.2)
theorem sets_rest (b : Nat) : ∀ (l : List (Nat × Value)) (W : World), (sets W b l).os = W.os ∧ (sets W b l).tape = W.tape ∧ (sets W b l).output = W.output ∧ (sets W b l).heap.size = W.heap.size
 | [], _ => ⟨rfl, rfl, rfl, rfl⟩
 | x :: l, W => by
   obtain ⟨h1, h2, h3, h4⟩ := sets_rest b l (W.setCell ⟨b, x.1, none⟩ x.2)
   exact ⟨h1, h2, h3, h4.trans (World.size_setCell ..)⟩
theorem WO.fill {n0 : Nat} {w1 wr : World} {t : Nat} {S : Tab} {T : IT.Tr} {b5 b6 b7 : Nat} {V C A : Array Value} (h : WO n0 w1 wr t S T b5 b6 b7 V C A) (l : List (Nat × Value)) : WO n0 w1 (sets wr b7 l) t S T b5 b6 b7 V C (l.foldl (fun C x => C.setIfInBounds x.1 x.2) A) := by
 have hs := sets_same l wr _ _ _ h.was
 have ho := fun c (hc : c ≠ b7) => sets_other hc l wr
 obtain ⟨r1, r2, r3, r4⟩ := sets_rest b7 l wr
 have ty : ∀ {c : Nat} {A : Array Value} {Y : TypeId} {f : Nat × Nat}, wr.heap[c]? = some (.cells A Y f) → Y ≠ 48 → c ≠ b7 := fun hh hy e => by
  subst e
  have e2 := hh.symm.trans h.was
  simp only [Option.some.injEq, Obj.cells.injEq] at e2
  exact hy e2.2.1
 have hle := h.l7
 exact ⟨⟨⟨h.tro.own.rep.same fun c hc => ho c fun e => not_foot h.tro.own.rep h.was (by decide) (by decide) (e ▸ hc), h.tro.own.below.trans ⟨r1, r2, r3, Nat.le_of_eq r4.symm, fun c hc => ho c (by omega)⟩, by rw [r4]; exact h.tro.own.le, h.tro.own.own⟩, h.tro.ties, h.tro.snd⟩, (ho _ (ty h.op (by decide))).trans h.op, (ho _ (ty h.cr (by decide))).trans h.cr, hs, h.l7⟩
theorem WO.fill8 {n0 : Nat} {w1 wr : World} {t : Nat} {S : Tab} {T : IT.Tr} {b5 b6 b7 : Nat} {V C A : Array Value} (h : WO n0 w1 wr t S T b5 b6 b7 V C A) (o0 o1 o2 o3 o4 o5 o6 o7 : Nat) (v0 v1 v2 v3 v4 v5 v6 v7 : Value) : WO n0 w1 ((((((((wr.setCell ⟨b7, o0, none⟩ v0).setCell ⟨b7, o1, none⟩ v1).setCell ⟨b7, o2, none⟩ v2).setCell ⟨b7, o3, none⟩ v3).setCell ⟨b7, o4, none⟩ v4).setCell ⟨b7, o5, none⟩ v5).setCell ⟨b7, o6, none⟩ v6).setCell ⟨b7, o7, none⟩ v7) t S T b5 b6 b7 V C ((((((((A.setIfInBounds o0 v0).setIfInBounds o1 v1).setIfInBounds o2 v2).setIfInBounds o3 v3).setIfInBounds o4 v4).setIfInBounds o5 v5).setIfInBounds o6 v6).setIfInBounds o7 v7) := by
 have := h.fill [(o0, v0), (o1, v1), (o2, v2), (o3, v3), (o4, v4), (o5, v5), (o6, v6), (o7, v7)]
 simp only [sets, List.foldl_cons, List.foldl_nil] at this
 exact this
theorem fill_next (T : IT.Tr) (d : Nat) : setF (fun j i => if j < d then statF T j i else 0) d (statF T d) = fun j i => if j < d + 1 then statF T j i else 0 := by
 funext j i
 unfold setF
 by_cases e : j = d
 · subst e; rw [if_pos rfl, if_pos (by omega)]
 · rw [if_neg e]
   show (if j < d then _ else _) = _
   by_cases e2 : j < d
   · rw [if_pos e2, if_pos (by omega)]
   · rw [if_neg e2, if_neg (by omega)]
theorem wo_cells {n0 : Nat} {w1 wr : World} {t : Nat} {S : Tab} {T : IT.Tr} {b5 b6 b7 : Nat} {A : Array Value} {K cwd uid gid : Int} {s u : ByteArray} {mo N oa ob : Int} (h : WO n0 w1 wr t S T b5 b6 b7 (op7 K cwd uid gid s u mo N oa ob) #[.int .i64 uid, .int .i64 uid, .int .i64 uid, .int .i64 gid, .int .i64 gid] A) :
  wr.cell? ⟨b5, 0, none⟩ = some (.int .i64 K) ∧ wr.cell? ⟨b5, 1, none⟩ = some (.int .i64 cwd) ∧ wr.cell? ⟨b5, 2, none⟩ = some (.int .i64 uid) ∧ wr.cell? ⟨b5, 4, none⟩ = some (.string s) ∧ wr.cell? ⟨b5, 6, none⟩ = some (.int .i64 mo) ∧ wr.cell? ⟨b5, 8, none⟩ = some (.int .i64 oa) ∧ wr.cell? ⟨b5, 9, none⟩ = some (.int .i64 ob) ∧ wr.cell? ⟨b6, 0, none⟩ = some (.int .i64 uid) ∧ wr.cell? ⟨b6, 1, none⟩ = some (.int .i64 uid) ∧ wr.cell? ⟨b6, 2, none⟩ = some (.int .i64 uid) ∧ wr.cell? ⟨b6, 3, none⟩ = some (.int .i64 gid) ∧ wr.cell? ⟨b6, 4, none⟩ = some (.int .i64 gid) :=
 ⟨cell_of h.op 0, cell_of h.op 1, cell_of h.op 2, cell_of h.op 4, cell_of h.op 6, cell_of h.op 8, cell_of h.op 9, cell_of h.cr 0, cell_of h.cr 1, cell_of h.cr 2, cell_of h.cr 3, cell_of h.cr 4⟩
theorem and1 (n : Int) : 0 ≤ bits .and .i64 n 1 ∧ bits .and .i64 n 1 ≤ 1 := by
 have h : bits .and .i64 n 1 = IntKind.i64.wrap (((BitVec.ofInt 64 n).toNat &&& 1 : Nat) : Int) := by
  simp only [bits, BitVec.toNat_and]; rfl
 have h7 : (BitVec.ofInt 64 n).toNat &&& 1 ≤ 1 := Nat.and_le_right
 rw [h, IntKind.wrap_i64]; omega
theorem owners7_any (a : Option Addr) (len cap : Nat) (w : World) (hl : len ≤ maxLen) (h0 : Ops7 w w.heap.size a len) (K cwd uid gid : Int) (s u : ByteArray) (mo N oa ob : Int) :
  Calls Tryz.prog 4 #[.slice a len cap, .agg #[.int .i64 K, .int .i64 cwd, .int .i64 uid, .int .i64 gid, .string s, .string u, .int .i64 mo, .int .i64 N, .int .i64 oa, .int .i64 ob]] w fun e w' => e = .returned (.bool true) ∧ Below w.heap.size w w' := by
 have HS := Hd h0
 have hz : ∀ w : World, (zeroValue 48).run Tryz.prog w = .ok (.agg (Array.replicate 1608 (.int .i64 0))) w := fun _ => by kernel_rfl
 clear h0
 go_enter Tryz.func4, Tryz.ntmps4
 go_wp2_with fail
 refine (shown7_any _).mono ?_
 rintro e w1 ⟨rfl, hb⟩
 have HB1 := Hd (one_below hb)
 have h1 : w1.heap[w.heap.size]? = some (.cells (op7 K cwd uid gid s u mo N oa ob) 24 (0, 0)) := (hb.block _ (by rw [alloc_size]; omega)).trans (alloc_heap w _)
 have HO := Hd h1
 clear hb h1
 go_wp2_with fail
 refine (some7_any a len cap w w1 hl HS.out HB1.out).mono ?_
 rintro e w2 ⟨t, S, T, rfl, hd, hhb, hmr⟩
 have h1 := (hd.own.below.block _ (lt_of_heap HO.out)).trans HO.out
 have HD := Hd hd
 have HMR := Hd hmr
 clear hd hhb hmr HO HS
 have o0 : w2.cell? ⟨w.heap.size, 0, none⟩ = some (.int .i64 K) := cell_of h1 0
 have o1 : w2.cell? ⟨w.heap.size, 1, none⟩ = some (.int .i64 cwd) := cell_of h1 1
 have o2 : w2.cell? ⟨w.heap.size, 2, none⟩ = some (.int .i64 uid) := cell_of h1 2
 have o3 : w2.cell? ⟨w.heap.size, 3, none⟩ = some (.int .i64 gid) := cell_of h1 3
 have o4 : w2.cell? ⟨w.heap.size, 4, none⟩ = some (.string s) := cell_of h1 4
 have o5 : w2.cell? ⟨w.heap.size, 5, none⟩ = some (.string u) := cell_of h1 5
 have o6 : w2.cell? ⟨w.heap.size, 6, none⟩ = some (.int .i64 mo) := cell_of h1 6
 have o7 : w2.cell? ⟨w.heap.size, 7, none⟩ = some (.int .i64 N) := cell_of h1 7
 have o8 : w2.cell? ⟨w.heap.size, 8, none⟩ = some (.int .i64 oa) := cell_of h1 8
 have o9 : w2.cell? ⟨w.heap.size, 9, none⟩ = some (.int .i64 ob) := cell_of h1 9
 have HO := Hd h1
 clear h1
 have HWHO : Hid (∀ W', Calls Tryz.prog 13 #[.int .i64 uid, .int .i64 gid] W' fun e w' => e = .returned (.agg #[.int .i64 uid, .int .i64 uid, .int .i64 uid, .int .i64 gid, .int .i64 gid]) ∧ Below W'.heap.size W' w') := Hd (fun W' => who_any uid gid W')
 go_wp2_with fail
 refine (HWHO.out _).mono ?_
 rintro e w3 ⟨rfl, hb3⟩
 have HB3 := Hd hb3
 clear hb3
 go_upto_region 7 with fail
 have hb4 : Below w3.heap.size w3 ((w3.alloc (.cells #[.int .i64 uid, .int .i64 uid, .int .i64 uid, .int .i64 gid, .int .i64 gid] 36)).alloc (.cells (Array.replicate 1608 (.int .i64 0)) 48)) := belowA (belowA (Below.refl _ _) _) _
 have hwo : WO w1.heap.size w1 ((w3.alloc (.cells #[.int .i64 uid, .int .i64 uid, .int .i64 uid, .int .i64 gid, .int .i64 gid] 36)).alloc (.cells (Array.replicate 1608 (.int .i64 0)) 48)) t S T w.heap.size w3.heap.size (w3.heap.size + 1) (op7 K cwd uid gid s u mo N oa ob) #[.int .i64 uid, .int .i64 uid, .int .i64 uid, .int .i64 gid, .int .i64 gid] (wasA fun j i => if j < 1 then statF T j i else 0) := by
  refine ⟨(HD.out.below HB3.out).below hb4, (hb4.block _ (lt_of_heap ((HB3.out.block _ (lt_of_heap HO.out)).trans HO.out))).trans ((HB3.out.block _ (lt_of_heap HO.out)).trans HO.out), (alloc_heap_old _ _ (by rw [alloc_size]; omega)).trans (alloc_heap _ _), ?_, ?_⟩
  · have h0 : (fun j i => if j < 1 then statF T j i else 0) = fun _ _ => 0 := by
     funext j i
     split
     · have hj : j = 0 := by omega
       subst hj
       unfold statF
       cases e : T 0 with
       | none => rfl
       | some m => have := (HD.out.snd.1.rng 0 m e).1; omega
     · rfl
    rw [h0, wasA_zero]
    have := alloc_heap (w3.alloc (.cells #[.int .i64 uid, .int .i64 uid, .int .i64 uid, .int .i64 gid, .int .i64 gid] 36)) (.cells (Array.replicate 1608 (.int .i64 0)) 48)
    rw [alloc_size] at this
    exact this
  · have := HB3.out.size
    have := HD.out.own.le
    omega
 generalize (w3.alloc (.cells #[.int .i64 uid, .int .i64 uid, .int .i64 uid, .int .i64 gid, .int .i64 gid] 36)).alloc (.cells (Array.replicate 1608 (.int .i64 0)) 48) = W at *
 generalize w3.heap.size = b6 at *
 have HW := Hd hwo
 clear hwo hb4 HB3 HO HD hz o0 o1 o2 o3 o4 o5 o6 o7 o8 o9
 go_wp2_with fail
 go_loopg [9] 200 (fun g dv wr => ∃ (d : Nat), dv = .int .i64 (d : Int) ∧ d + g = 201 ∧ 1 ≤ d ∧ Hid (WO w1.heap.size w1 wr t S T w.heap.size b6 (b6 + 1) (op7 K cwd uid gid s u mo N oa ob) #[.int .i64 uid, .int .i64 uid, .int .i64 uid, .int .i64 gid, .int .i64 gid] (wasA fun j i => if j < d then statF T j i else 0)))
 case atStart => exact ⟨1, rfl, rfl, by omega, HW⟩
 case round =>
  clear HW
  obtain ⟨d, rfl, hdg, hd1, HW⟩ := hrel
  by_cases hd : d ≤ 200
  · obtain ⟨og, rfl⟩ : ∃ og, gk = og + 1 := ⟨gk - 1, by omega⟩
    have hd2 : (d : Int) ≤ 200 := by omega
    have HST : Hid (Calls Tryz.prog 17 #[.pointer (some ⟨t, 0, none⟩), .int .i64 (d : Int)] wr fun e w' => e = .returned (.tuple #[.agg #[.int .i64 (statF T d 0), .int .i64 (statF T d 1), .int .i64 (statF T d 2), .int .i64 (statF T d 3), .int .i64 (statF T d 4), .int .i64 (statF T d 5), .int .i64 (statF T d 6), .int .i64 (statF T d 7)], .bool (T d).isSome]) ∧ Below wr.heap.size wr w') := Hd (by
     have := stat_any HW.out.tro.tre (d : Int)
     rw [Int.toNat_natCast, stat_F] at this
     exact this)
    go_wp2_with fail
    refine HST.out.mono ?_
    rintro e w5 ⟨rfl, hb⟩
    have HW5 := Hd (HW.out.below hb)
    clear HW HST hb
    have p0 : w5.cell? ⟨b6 + 1, d * 8, none⟩ = some (.int .i64 _) := HW5.out.cell (d := d) (j := 0) (by omega) (by decide)
    have p1 : w5.cell? ⟨b6 + 1, d * 8 + 1, none⟩ = some (.int .i64 _) := HW5.out.cell (d := d) (j := 1) (by omega) (by decide)
    have p2 : w5.cell? ⟨b6 + 1, d * 8 + 2, none⟩ = some (.int .i64 _) := HW5.out.cell (d := d) (j := 2) (by omega) (by decide)
    have p3 : w5.cell? ⟨b6 + 1, d * 8 + 3, none⟩ = some (.int .i64 _) := HW5.out.cell (d := d) (j := 3) (by omega) (by decide)
    have p4 : w5.cell? ⟨b6 + 1, d * 8 + 4, none⟩ = some (.int .i64 _) := HW5.out.cell (d := d) (j := 4) (by omega) (by decide)
    have p5 : w5.cell? ⟨b6 + 1, d * 8 + 5, none⟩ = some (.int .i64 _) := HW5.out.cell (d := d) (j := 5) (by omega) (by decide)
    have p6 : w5.cell? ⟨b6 + 1, d * 8 + 6, none⟩ = some (.int .i64 _) := HW5.out.cell (d := d) (j := 6) (by omega) (by decide)
    have p7 : w5.cell? ⟨b6 + 1, d * 8 + 7, none⟩ = some (.int .i64 _) := HW5.out.cell (d := d) (j := 7) (by omega) (by decide)
    have f0 := frozen_of HW5.out.was (d * 8)
    have f1 := frozen_of HW5.out.was (d * 8 + 1)
    have f2 := frozen_of HW5.out.was (d * 8 + 2)
    have f3 := frozen_of HW5.out.was (d * 8 + 3)
    have f4 := frozen_of HW5.out.was (d * 8 + 4)
    have f5 := frozen_of HW5.out.was (d * 8 + 5)
    have f6 := frozen_of HW5.out.was (d * 8 + 6)
    have f7 := frozen_of HW5.out.was (d * 8 + 7)
    go_wp2_with fail
    have hn := HW5.out.fill8 (d * 8) (d * 8 + 1) (d * 8 + 2) (d * 8 + 3) (d * 8 + 4) (d * 8 + 5) (d * 8 + 6) (d * 8 + 7) (.int .i64 (statF T d 0)) (.int .i64 (statF T d 1)) (.int .i64 (statF T d 2)) (.int .i64 (statF T d 3)) (.int .i64 (statF T d 4)) (.int .i64 (statF T d 5)) (.int .i64 (statF T d 6)) (.int .i64 (statF T d 7))
    rw [wasA_set _ (by omega) (statF T d), fill_next] at hn
    have HN := Hd hn
    clear hn HW5 p0 p1 p2 p3 p4 p5 p6 p7 f0 f1 f2 f3 f4 f5 f6 f7
    go_roundg og
    case measure => omega
    case rel => exact ⟨d + 1, by go_num, by omega, by omega, HN⟩
  · obtain rfl : d = 201 := by omega
    have hd2 : (200 : Int) < (201 : Nat) := by omega
    clear hd
    obtain ⟨o0, o1, o2, o4, o6, o8, o9, c0, c1, c2, c3, c4⟩ := wo_cells HW.out
    have hq : bits .and .i64 K 1 = 0 ∨ bits .and .i64 K 1 = 1 := by have := and1 K; omega
    have HF : Hid (∀ T1 W' S1 b7 A, WO w1.heap.size w1 W' t S1 T1 w.heap.size b6 b7 (op7 K cwd uid gid s u mo N oa ob) #[.int .i64 uid, .int .i64 uid, .int .i64 uid, .int .i64 gid, .int .i64 gid] A → Calls Tryz.prog 20 #[.pointer (some ⟨t, 0, none⟩), .int .i64 cwd, .agg #[.int .i64 uid, .int .i64 uid, .int .i64 uid, .int .i64 gid, .int .i64 gid], .string s] W' fun e w' => e = .returned (.tuple #[.int .i64 ((findT T1 (whoC uid gid) cwd (bs s)).1 : Nat), .int .i64 (findT T1 (whoC uid gid) cwd (bs s)).2]) ∧ Below W'.heap.size W' w') := Hd fun T1 W' S1 b7 A hh => by
     obtain ⟨⟨fk, fr⟩, hg⟩ : ∃ g, findT T1 (whoC uid gid) cwd (bs s) = g := ⟨_, rfl⟩
     have := walkFind_any hh.tro.tre cwd (whoC uid gid) s hg
     rw [find_zero hg] at this
     rw [hg]
     exact this
    have HSN := Hd HW.out.tro.snd
    rcases hq with hq | hq
    case' inl =>
     have hk1 : (bits .and .i64 K 1 == 1) = false := by rw [hq]; rfl
     have hk0 : (bits .and .i64 K 1 == 0) = true := by rw [hq]; rfl
     clear hq
     go_wp2_with fail
     refine (walkChown_any HW.out.tro.tre cwd (whoC uid gid) s oa ob).mono ?_
     rintro e w6 ⟨r, rfl, hst⟩
     obtain ⟨S1, T1, hw6, hr1⟩ := HW.out.step hst (fun _ hh => isChown.sound hh HSN.out)
     have HO1 := Hd (chown_owns HSN.out hr1)
     have HK : Hid (∀ j, r = 0 → findT T1 (whoC uid gid) cwd (bs s) = (j, 0) → ∃ mo' a1 a5 a6 a7 : Int, statV T1 j = .agg #[.int .i64 j, .int .i64 a1, .int .i64 mo', .int .i64 oa, .int .i64 ob, .int .i64 a5, .int .i64 a6, .int .i64 a7] ∧ (bits .and .i64 mo' 2048 == 0) = true ∧ (T1 j).isSome = true) := Hd fun j h0 hf => by
      subst h0
      exact chown_ok HMR.out hr1 hf
     have HW6 := Hd hw6
     clear hst hr1 hw6
    case' inr =>
     have hk1 : (bits .and .i64 K 1 == 1) = true := by rw [hq]; rfl
     have hk0 : (bits .and .i64 K 1 == 0) = false := by rw [hq]; rfl
     clear hq
     go_wp2_with fail
     refine (walkChmod_any HW.out.tro.tre cwd (whoC uid gid) s mo).mono ?_
     rintro e w6 ⟨r, rfl, hst⟩
     obtain ⟨S1, T1, hw6, hr1⟩ := HW.out.step hst (fun _ hh => isChmod.sound hh HSN.out)
     have HO1 := Hd (chmod_owns HSN.out hr1)
     have HW6 := Hd hw6
     clear hst hr1 hw6
    all_goals
     clear HW o0 o1 o2 o4 o6 o8 o9 c0 c1 c2 c3 c4
     obtain ⟨o0, o1, o2, o4, o6, o8, o9, c0, c1, c2, c3, c4⟩ := wo_cells HW6.out
     go_wp2_with fail
     refine (HF.out _ _ _ _ _ HW6.out).mono ?_
     rintro e w7 ⟨rfl, hb⟩
     have HW7 := Hd (HW6.out.below hb)
     clear hb HF HW6 o0 o1 o2 o4 o6 o8 o9 c0 c1 c2 c3 c4
     obtain ⟨⟨fk, fr⟩, hg⟩ : ∃ g, findT T1 (whoC uid gid) cwd (bs s) = g := ⟨_, rfl⟩
     rw [hg]
     have HG := Hd hg
     clear hg
     go_wp2_with fail
     go_loopg [13] 200 (fun g dv wr => ∃ (d : Nat), dv = .int .i64 (d : Int) ∧ d + g = 201 ∧ 1 ≤ d ∧ Hid (WO w1.heap.size w1 wr t S1 T1 w.heap.size b6 (b6 + 1) (op7 K cwd uid gid s u mo N oa ob) #[.int .i64 uid, .int .i64 uid, .int .i64 uid, .int .i64 gid, .int .i64 gid] (wasA fun j i => if j < 201 then statF T j i else 0)))
     case atStart => exact ⟨1, rfl, rfl, by omega, HW7⟩
     case round =>
      clear HW7
      obtain ⟨d, rfl, hdg, hd1, HW7⟩ := hrel
      by_cases hd : d ≤ 200
      · obtain ⟨og, rfl⟩ : ∃ og, gk = og + 1 := ⟨gk - 1, by omega⟩
        have hd2 : (d : Int) ≤ 200 := by omega
        have HST : Hid (Calls Tryz.prog 17 #[.pointer (some ⟨t, 0, none⟩), .int .i64 (d : Int)] wr fun e w' => e = .returned (.tuple #[.agg #[.int .i64 (statF T1 d 0), .int .i64 (statF T1 d 1), .int .i64 (statF T1 d 2), .int .i64 (statF T1 d 3), .int .i64 (statF T1 d 4), .int .i64 (statF T1 d 5), .int .i64 (statF T1 d 6), .int .i64 (statF T1 d 7)], .bool (T1 d).isSome]) ∧ Below wr.heap.size wr w') := Hd (by
         have := stat_any HW7.out.tro.tre (d : Int)
         rw [Int.toNat_natCast, stat_F] at this
         exact this)
        go_wp2_with fail
        refine HST.out.mono ?_
        rintro e w8 ⟨rfl, hb⟩
        have HW8 := Hd (HW7.out.below hb)
        clear HW7 HST hb
        go_upto_region 20 with fail
        have hw9 := HW8.out.below ((Below.refl _ _).alloc (Nat.le_refl _) (.cells #[.int .i64 (statF T1 d 0), .int .i64 (statF T1 d 1), .int .i64 (statF T1 d 2), .int .i64 (statF T1 d 3), .int .i64 (statF T1 d 4), .int .i64 (statF T1 d 5), .int .i64 (statF T1 d 6), .int .i64 (statF T1 d 7)] 44))
        have hx := alloc_heap w8 (.cells #[.int .i64 (statF T1 d 0), .int .i64 (statF T1 d 1), .int .i64 (statF T1 d 2), .int .i64 (statF T1 d 3), .int .i64 (statF T1 d 4), .int .i64 (statF T1 d 5), .int .i64 (statF T1 d 6), .int .i64 (statF T1 d 7)] 44)
        generalize w8.alloc (.cells #[.int .i64 (statF T1 d 0), .int .i64 (statF T1 d 1), .int .i64 (statF T1 d 2), .int .i64 (statF T1 d 3), .int .i64 (statF T1 d 4), .int .i64 (statF T1 d 5), .int .i64 (statF T1 d 6), .int .i64 (statF T1 d 7)] 44) = W at *
        generalize w8.heap.size = x8 at *
        have HW9 := Hd hw9
        clear hw9 HW8
        have p0 : W.cell? ⟨b6 + 1, d * 8, none⟩ = some (.int .i64 (statF T d 0)) := (HW9.out.cell (d := d) (j := 0) (by omega) (by decide)).trans (by rw [if_pos (by omega)])
        have p1 : W.cell? ⟨b6 + 1, d * 8 + 1, none⟩ = some (.int .i64 (statF T d 1)) := (HW9.out.cell (d := d) (j := 1) (by omega) (by decide)).trans (by rw [if_pos (by omega)])
        have p2 : W.cell? ⟨b6 + 1, d * 8 + 2, none⟩ = some (.int .i64 (statF T d 2)) := (HW9.out.cell (d := d) (j := 2) (by omega) (by decide)).trans (by rw [if_pos (by omega)])
        have p3 : W.cell? ⟨b6 + 1, d * 8 + 3, none⟩ = some (.int .i64 (statF T d 3)) := (HW9.out.cell (d := d) (j := 3) (by omega) (by decide)).trans (by rw [if_pos (by omega)])
        have p4 : W.cell? ⟨b6 + 1, d * 8 + 4, none⟩ = some (.int .i64 (statF T d 4)) := (HW9.out.cell (d := d) (j := 4) (by omega) (by decide)).trans (by rw [if_pos (by omega)])
        have p5 : W.cell? ⟨b6 + 1, d * 8 + 5, none⟩ = some (.int .i64 (statF T d 5)) := (HW9.out.cell (d := d) (j := 5) (by omega) (by decide)).trans (by rw [if_pos (by omega)])
        have p6 : W.cell? ⟨b6 + 1, d * 8 + 6, none⟩ = some (.int .i64 (statF T d 6)) := (HW9.out.cell (d := d) (j := 6) (by omega) (by decide)).trans (by rw [if_pos (by omega)])
        have p7 : W.cell? ⟨b6 + 1, d * 8 + 7, none⟩ = some (.int .i64 (statF T d 7)) := (HW9.out.cell (d := d) (j := 7) (by omega) (by decide)).trans (by rw [if_pos (by omega)])
        have x0 : W.cell? ⟨x8, 0, none⟩ = some (.int .i64 (statF T1 d 0)) := cell_of hx 0
        have x1 : W.cell? ⟨x8, 1, none⟩ = some (.int .i64 (statF T1 d 1)) := cell_of hx 1
        have x2 : W.cell? ⟨x8, 2, none⟩ = some (.int .i64 (statF T1 d 2)) := cell_of hx 2
        have x3 : W.cell? ⟨x8, 3, none⟩ = some (.int .i64 (statF T1 d 3)) := cell_of hx 3
        have x4 : W.cell? ⟨x8, 4, none⟩ = some (.int .i64 (statF T1 d 4)) := cell_of hx 4
        have x5 : W.cell? ⟨x8, 5, none⟩ = some (.int .i64 (statF T1 d 5)) := cell_of hx 5
        have x6 : W.cell? ⟨x8, 6, none⟩ = some (.int .i64 (statF T1 d 6)) := cell_of hx 6
        have x7 : W.cell? ⟨x8, 7, none⟩ = some (.int .i64 (statF T1 d 7)) := cell_of hx 7
        obtain ⟨o0, o1, o2, o4, o6, o8, o9, c0, c1, c2, c3, c4⟩ := wo_cells HW9.out
        obtain ⟨bq, hcmp⟩ := info_cmp (statF T1 d 0) (statF T1 d 1) (statF T1 d 2) (statF T1 d 3) (statF T1 d 4) (statF T1 d 5) (statF T1 d 6) (statF T1 d 7) (statF T d 0) (statF T d 1) (statF T d 2) (statF T d 3) (statF T d 4) (statF T d 5) (statF T d 6) (statF T d 7)
        have hbq : bq = true ∨ (uid = 0 ∨ statF T d 3 = uid ∧ statF T1 d 3 = uid) := by
         rcases HO1.out d with h | ⟨m, m', h1, h2, h3⟩
         · left
           rw [stat_F, stat_F] at h
           simp only [Value.agg.injEq, Array.mk.injEq, List.cons.injEq, Value.int.injEq, true_and, and_true] at h
           obtain ⟨e0, e1, e2, e3, e4, e5, e6, e7⟩ := h
           have h1 := hcmp W
           rw [e0, e1, e2, e3, e4, e5, e6, e7, info_same] at h1
           injection h1 with h1
           injection h1 with h1
           exact h1.symm
         · right
           rcases h3 with h3 | ⟨h3, h4⟩
           · exact .inl h3
           · refine .inr ⟨?_, ?_⟩
             · unfold statF; rw [h1]; exact h3.symm
             · unfold statF; rw [h2]; exact h4.trans h3.symm
        have HXB := Hd hx
        clear hx
        go_wp2_with fail
        cases bq with
        | true =>
          go_quiet (fail)
          rename_i nq
          have HN := Hd (HW9.out.below (belowDrewN (Below.refl _ _) nq))
          clear HW9 HXB hcmp p0 p1 p2 p3 p4 p5 p6 p7 x0 x1 x2 x3 x4 x5 x6 x7 o0 o1 o2 o4 o6 o8 o9 c0 c1 c2 c3 c4
          go_wp2
          go_roundg og
          case measure => omega
          case rel => exact ⟨d + 1, by go_num, by omega, by omega, HN⟩
        | false =>
          go_quiet (fail)
          rename_i nq
          have hw9 := HW9.out.below (belowDrewN (Below.refl _ _) nq)
          have hx := ((belowDrewN (Below.refl W.heap.size W) nq).block _ (lt_of_heap HXB.out)).trans HXB.out
          clear HW9 HXB hcmp p0 p1 p2 p3 p4 p5 p6 p7 x0 x1 x2 x3 x4 x5 x6 x7 o0 o1 o2 o4 o6 o8 o9 c0 c1 c2 c3 c4
          generalize W.drewN nq = W at *
          have HW9 := Hd hw9
          have p3 : W.cell? ⟨b6 + 1, d * 8 + 3, none⟩ = some (.int .i64 (statF T d 3)) := (HW9.out.cell (d := d) (j := 3) (by omega) (by decide)).trans (by rw [if_pos (by omega)])
          have x3 : W.cell? ⟨x8, 3, none⟩ = some (.int .i64 (statF T1 d 3)) := cell_of hx 3
          obtain ⟨o0, o1, o2, o4, o6, o8, o9, c0, c1, c2, c3, c4⟩ := wo_cells HW9.out
          clear hw9 hx
          have hu3 : uid = 0 ∨ uid ≠ 0 ∧ statF T d 3 = uid ∧ statF T1 d 3 = uid := by
           by_cases e : uid = 0
           · exact .inl e
           · exact .inr ⟨e, (hbq.resolve_left (by decide)).resolve_left e⟩
          rcases hu3 with hu | ⟨hu, h3, h4⟩
          case' inl =>
           have hu1 : (uid != 0) = false := by rw [hu]; rfl
           clear hu hbq
           go_wp2_with fail
           go_quiet (fail)
          case' inr =>
           have hu1 : (uid != 0) = true := by simpa using hu
           rw [h3] at p3
           rw [h4] at x3
           have huu : (uid != uid) = false := by simp
           clear hu hbq h3 h4
           go_wp2_with fail
           go_quiet (fail)
          all_goals
           have HN := Hd (HW9.out.below (belowDrewN (Below.refl _ _) nq))
           clear HW9 p3 x3 o0 o1 o2 o4 o6 o8 o9 c0 c1 c2 c3 c4
           go_wp2
           go_roundg og
           case measure => omega
           case rel => exact ⟨d + 1, by go_num, by omega, by omega, HN⟩
      · obtain rfl : d = 201 := by omega
        have hd2 : (200 : Int) < (201 : Nat) := by omega
        clear hd
        have HFIN : Hid (∀ W', Below wr.heap.size wr W' → Below w.heap.size w W') := Hd fun W' hb => HB1.out.trans ((HW7.out.below hb).tro.own.below.mono HB1.out.size)
        obtain ⟨o0, o1, o2, o4, o6, o8, o9, c0, c1, c2, c3, c4⟩ := wo_cells HW7.out
        first
         | (have hk0' : (bits .and .i64 K 1 == 0) = false := hk0
            go_wp2
            go_ret
            exact ⟨rfl, HFIN.out _ (Below.refl _ _)⟩)
         | (have hk0' : (bits .and .i64 K 1 == 0) = true := hk0
            by_cases hr : r = 0 ∧ fr = 0
            · obtain ⟨rfl, rfl⟩ := hr
              obtain ⟨mo', a1, a5, a6, a7, hst, hmz, his⟩ := HK.out fk rfl HG.out
              have HST : Hid (Calls Tryz.prog 17 #[.pointer (some ⟨t, 0, none⟩), .int .i64 fk] wr fun e w' => e = .returned (.tuple #[.agg #[.int .i64 fk, .int .i64 a1, .int .i64 mo', .int .i64 oa, .int .i64 ob, .int .i64 a5, .int .i64 a6, .int .i64 a7], .bool true]) ∧ Below wr.heap.size wr w') := Hd (by
               have := stat_any HW7.out.tro.tre fk
               rw [Int.toNat_natCast, hst, his] at this
               exact this)
              clear hst his
              go_wp2_with fail
              refine HST.out.mono ?_
              rintro e wc ⟨rfl, hb⟩
              have HWC := Hd (HW7.out.below hb)
              have HBC := Hd hb
              clear hb o0 o1 o2 o4 o6 o8 o9 c0 c1 c2 c3 c4
              obtain ⟨o0, o1, o2, o4, o6, o8, o9, c0, c1, c2, c3, c4⟩ := wo_cells HWC.out
              have l5 : w.heap.size < wc.heap.size := lt_of_heap HWC.out.op
              go_wp2
              go_ret
              exact ⟨rfl, HFIN.out _ (belowA HBC.out _)⟩
            · by_cases hr0 : r = 0
              · have hr1 : (fr == 0) = false := by simpa using fun e => hr ⟨hr0, e⟩
                subst hr0
                clear hr
                go_wp2
                go_ret
                exact ⟨rfl, HFIN.out _ (Below.refl _ _)⟩
              · have hr1 : (r == 0) = false := by simpa using hr0
                clear hr hr0
                go_wp2
                go_ret
                exact ⟨rfl, HFIN.out _ (Below.refl _ _)⟩)
end Go.Proofs.YtafonmnfeibaiaaGreat
namespace Go.Proofs.YtafonmnfeibaiaaGreat.walkOwners
open Go.ChangeShapes Go.WideShapes Go.ChangeAt Go.RowKit
open Go.ChangeMaps (open_string shut_string)
set_option linter.unusedVariables false
theorem own : ownKnob Tryz.prog.godebug = none := by kernel_rfl
theorem laidOut : laidOutB Tryz.prog = true := by kernel_rfl
theorem lifted (os : Os) (started : os.Started) (H : Type) (enc : TypeId × Value → H) (F0 : Stop.Interp) :
  ReturnsInHanded {} Tryz.checked os 4 .any ((Rows.OpenSpec.upto Rows.walkOwnersSpec).pre6 enc Tryz.prog Tryz.f4 Rows.walkOwnersUptoRow.domain false) (((Rows.OpenSpec.upto Rows.walkOwnersSpec).at F0).post enc Tryz.prog Tryz.f4 false true false false) := by
 refine returnsInHanded_of_cond (C := Tryz.checked) (s := (Rows.OpenSpec.upto Rows.walkOwnersSpec)) (k := Rows.uptoSmall) rfl own started (by kernel_rfl) Tryz.func4
  (OpenSpec.witness (enc := enc) (C := Tryz.checked) (s := (Rows.OpenSpec.upto Rows.walkOwnersSpec)) (k := Rows.uptoSmall) rfl false ⟨#[], #[.slice none 0 0, .agg #[.int .i64 0, .int .i64 0, .int .i64 0, .int .i64 0, .string ⟨#[]⟩, .string ⟨#[]⟩, .int .i64 0, .int .i64 0, .int .i64 0, .int .i64 0]], []⟩ 8 (by kernel_rfl) (by kernel_rfl) (by kernel_rfl)
    (x := ([.nil, .agg [.lit (.int .i64 0), .lit (.int .i64 0), .lit (.int .i64 0), .lit (.int .i64 0), .lit (.string []), .lit (.string []), .lit (.int .i64 0), .lit (.int .i64 0), .lit (.int .i64 0), .lit (.int .i64 0)]], [], [])) (by kernel_rfl) (by kernel_rfl) (by kernel_rfl)) ?_
 intro W base args ds gs before hval0 hW hcnd hu0 _
 have hval : ∀ (j : Nat) t v, Tryz.f4.params[j]? = some t → args[j]? = some v → Value.okWide Tryz.prog W .any base t v := hval0
 have hW' := hW
 obtain ⟨p, q, hA0, hV, rfl, hfz, hnd⟩ := hW
 have hA : DataW.TrodAll enc Tryz.prog W 0 (fun _ => true) true Tryz.f4.params.toList args.toList ds p := hA0
 rw [Tryz.params4] at hA hval
 obtain ⟨v0, vs0, d0, ds0, p0, q0, hargs, rfl, rfl, h0, r0⟩ := trodAll_cons hA
 obtain ⟨v1, vs1, d1, ds1, p1, q1, rfl, rfl, rfl, h1, r1⟩ := trodAll_cons r0
 obtain ⟨rfl, rfl, rfl⟩ := trodAll_nil r1
 obtain rfl : args = #[v0, v1] := by cases args; simp_all
 obtain ⟨rfl, rfl⟩ := trodVars_none hV
 have hu : Rows.uptoBulkAll [d0, d1] ≤ 1048576 := of_decide_eq_true hu0
 simp only [Rows.uptoBulkAll] at hu
 obtain ⟨a0, len0, cap0, rfl⟩ := okWide_slice Tryz.underlying22 (hval 0 22 v0 rfl rfl)
 have lt0 : ∀ x ∈ p0, x.block < W.heap.size := by obtain ⟨m, hm⟩ := h0; exact DataW.trod_lt m _ _ _ hm
 obtain ⟨m0, w0⟩ := ops7_of h0 (by omega)
 have lt1 : ∀ x ∈ p1, x.block < W.heap.size := by obtain ⟨m, hm⟩ := h1; exact DataW.trod_lt m _ _ _ hm
 obtain ⟨K1, cwd1, uid1, gid1, s1, u1, mo1, N1, oa1, ob1, rfl, w1⟩ := op7_arg (hval 1 24 v1 rfl rfl) h1 (by omega)
 clear hA0 hval0
 refine (owners7_any a0 len0 cap0 W m0 w0 K1 cwd1 uid1 gid1 s1 u1 mo1 N1 oa1 ob1).mono fun e W' ⟨he, bel⟩ => ?_
 subst he
 exact ⟨_, rfl, _, _, _, [], _, [], hW', trodAll_mk1 (shut_bool Tryz.underlying4 _), (trodAll_cons_mk (Below.trod laidOut (by kernel_rfl) (of_decide_eq_true (by kernel_rfl)) h0 bel lt0) (trodAll_cons_mk (Below.trod laidOut (by kernel_rfl) (of_decide_eq_true (by kernel_rfl)) h1 bel lt1) trodAll_mk0)), rfl, bel.frame _, fun h => by cases h⟩
theorem proved : Rows.WalkOwnersUptoSaid :=
 OpenClaim.holds_of_cond 4 Tryz.f4 rfl rfl rfl rfl rfl rfl rfl ⟨rfl, rfl, rfl, rfl, rfl⟩ rfl rfl rfl rfl rfl (by kernel_rfl) Tryz.func4 (by kernel_rfl)
  (of_decide_eq_true (by kernel_rfl)) (by unfold Func.isWrapper; first | (rw [if_pos (by decide +kernel)]; kernel_rfl) | (rw [if_neg (by decide +kernel)]; exact ⟨rfl, rfl⟩))
  (fun os started H enc _ F0 => lifted os started H enc F0)
#print axioms proved
end Go.Proofs.YtafonmnfeibaiaaGreat.walkOwners
