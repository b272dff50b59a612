/- Part 7 of the proof: contracts of functions that the statement reaches, and plain lemmas. -/
import Derived.Test.YtafonmnfeibaiaaGreatAll5
set_option linter.all false
set_option maxRecDepth 100000
set_option maxHeartbeats 100000000
namespace Go.Proofs.YtafonmnfeibaiaaGreat
open Go.RowKit
def RowK (W : World) (v : Value) (Ty : TypeId) (l : List Value) : Prop := ∃ a cap, v = .slice a l.length cap ∧ l.length ≤ cap ∧ cap ≤ maxLen ∧ ∀ (j : Nat) (x : Value), l[j]? = some x → ∃ (g : Nat) (C : Array Value) (f : Nat × Nat), a = some ⟨g, 0, none⟩ ∧ W.heap[g]? = some (.cells C Ty f) ∧ C[j]? = some x
theorem RowK.of_own {w : World} {base : Nat} {Ty : TypeId} {v : Value} {xs : List Value} (h : w.ownsRow base Ty 1 v xs.length xs) : RowK w v Ty xs := by
 obtain ⟨_, ⟨rfl, h0⟩ | ⟨g, cap, cur, rfl, hb, hh, hn, hc, hs, ht⟩⟩ := h
 · exact ⟨none, 0, by rw [h0], by omega, by decide, fun j x hx => by have := (List.getElem?_eq_some_iff.1 hx).1; omega⟩
 · refine ⟨_, cap, rfl, by omega, hc, fun j x hx => ⟨g, _, _, rfl, hh, ?_⟩⟩
   have hj := (List.getElem?_eq_some_iff.1 hx).1
   rw [← ht, List.getElem?_take_of_lt (by omega)] at hx
   simpa using hx
theorem RowK.keep {w w' : World} {v : Value} {Ty : TypeId} {l : List Value} (h : RowK w v Ty l) (hk : ∀ (g : Nat) (C : Array Value) (f : Nat × Nat), w.heap[g]? = some (.cells C Ty f) → w'.heap[g]? = some (.cells C Ty f)) : RowK w' v Ty l := by
 obtain ⟨a, cap, e, h1, h2, h3⟩ := h
 refine ⟨a, cap, e, h1, h2, fun j x hx => ?_⟩
 obtain ⟨g, C, f, e1, e2, e3⟩ := h3 j x hx
 exact ⟨g, C, f, e1, hk _ _ _ e2, e3⟩
theorem RowK.below {w w' : World} {v : Value} {Ty : TypeId} {l : List Value} (h : RowK w v Ty l) (hb : Below w.heap.size w w') : RowK w' v Ty l := h.keep fun g C f e => (hb.block g (lH e)).trans e
theorem RowK.cell {w : World} {v : Value} {Ty : TypeId} {l : List Value} (h : RowK w v Ty l) : ∃ a cap, v = .slice a l.length cap ∧ l.length ≤ cap ∧ cap ≤ maxLen ∧ ∀ (j : Nat) (x : Value), l[j]? = some x → ∃ g : Nat, a = some ⟨g, 0, none⟩ ∧ g < w.heap.size ∧ w.cell? ⟨g, j, none⟩ = some x := by
 obtain ⟨a, cap, e, h1, h2, h3⟩ := h
 refine ⟨a, cap, e, h1, h2, fun j x hx => ?_⟩
 obtain ⟨g, C, f, e1, e2, e3⟩ := h3 j x hx
 exact ⟨g, e1, lH e2, (cO e2 j).trans e3⟩
theorem RowK.sl {w : World} {v : Value} {l : List ByteArray} (h : RowK w v 9 (l.map .string)) : Sl w v l := by
 obtain ⟨a, cap, e, _, _, h3⟩ := h.cell
 rw [List.length_map] at e
 refine ⟨a, cap, e, fun j hj => ?_⟩
 obtain ⟨g, e1, _, e2⟩ := h3 j (.string l[j]) (by simp [hj])
 exact ⟨g, 0, e1, by simpa using e2⟩
def dirA (F : Nat → Nat → Value) : Array Value := Array.ofFn (n := 1206) fun i => F (i.val / 6) (i.val % 6)
theorem dirA_size (F : Nat → Nat → Value) : (dirA F).size = 1206 := by simp [dirA]
theorem dirA_get (F : Nat → Nat → Value) {i : Nat} (h : i < 1206) : (dirA F)[i]? = some (F (i / 6) (i % 6)) := by simp [dirA, h]
theorem dirA_cell (F : Nat → Nat → Value) {d j : Nat} (hd : d < 201) (hj : j < 6) : (dirA F)[d * 6 + j]? = some (F d j) := by
 rw [dirA_get F (by omega)]
 congr 2
 · omega
 · omega
def dirV (v0 v1 v2 v3 v4 v5 : Value) (i : Nat) : Value := match i with
 | 0 => v0
 | 1 => v1
 | 2 => v2
 | 3 => v3
 | 4 => v4
 | _ => v5
def zeroF : Nat → Value := dirV (.bool false) (.slice none 0 0) (.slice none 0 0) (.int .i64 0) (.int .i64 0) (.bool false)
def setD (F : Nat → Nat → Value) (d : Nat) (v : Nat → Value) : Nat → Nat → Value := fun k => if k = d then v else F k
theorem dirA_set (F : Nat → Nat → Value) {d : Nat} (hd : d < 201) (v0 v1 v2 v3 v4 v5 : Value) : (((((((dirA F).setIfInBounds (d * 6) v0).setIfInBounds (d * 6 + 1) v1).setIfInBounds (d * 6 + 2) v2).setIfInBounds (d * 6 + 3) v3).setIfInBounds (d * 6 + 4) v4).setIfInBounds (d * 6 + 5) v5) = dirA (setD F d (dirV v0 v1 v2 v3 v4 v5)) := by
 apply Array.ext_getElem?
 intro i
 simp only [Array.getElem?_setIfInBounds, Array.size_setIfInBounds, dirA_size]
 by_cases hi : i < 1206
 · rw [dirA_get _ hi, dirA_get _ hi]
   unfold setD
   by_cases e : i / 6 = d
   · rw [if_pos e]
     have hm : i % 6 < 6 := Nat.mod_lt _ (by decide)
     have hx : i = d * 6 + i % 6 := by omega
     generalize i % 6 = j at *
     subst hx
     obtain rfl | rfl | rfl | rfl | rfl | rfl : j = 0 ∨ j = 1 ∨ j = 2 ∨ j = 3 ∨ j = 4 ∨ j = 5 := by omega
     all_goals
      repeat (first | rw [if_pos (by omega), if_pos (by omega)] | rw [if_neg (by omega)])
      rfl
   · rw [if_neg e]
     repeat rw [if_neg (by omega)]
 · rw [Array.getElem?_eq_none (by rw [dirA_size]; omega), Array.getElem?_eq_none (by rw [dirA_size]; omega)]
   repeat rw [if_neg (by omega)]
def nmV (m : IT.Nd) : List Value := (m.names.map (·.1)).map fun n => .string (tx n)
def owV (T : IT.Tr) (m : IT.Nd) : List Value := m.names.map fun p => .int .i64 (statF T p.2 3)
structure Kept7 (W : World) (T : IT.Tr) (uid gid : Int) (j : Nat) (m : IT.Nd) (F : Nat → Value) : Prop where
 is : F 0 = .bool true
 nm : RowK W (F 1) 9 (nmV m)
 ow : RowK W (F 2) 3 (owV T m)
 mo : F 3 = .int .i64 m.mode
 own : F 4 = .int .i64 m.owner
 wr : F 5 = .bool (mayT T j uid gid 2)
structure RW (W : World) (T : IT.Tr) (uid gid : Int) (d : Nat) (F : Nat → Nat → Value) : Prop where
 dir : ∀ j m, T j = some m → m.kind = 1 → j < d → Kept7 W T uid gid j m (F j)
 no : ∀ j, (∀ m, T j = some m → m.kind = 1 → ¬ j < d) → F j = zeroF
theorem RW.keep {w w' : World} {T : IT.Tr} {uid gid : Int} {d : Nat} {F : Nat → Nat → Value} (h : RW w T uid gid d F) (hs : ∀ (g : Nat) (C : Array Value) (f : Nat × Nat), w.heap[g]? = some (.cells C 9 f) → w'.heap[g]? = some (.cells C 9 f)) (hi : ∀ (g : Nat) (C : Array Value) (f : Nat × Nat), w.heap[g]? = some (.cells C 3 f) → w'.heap[g]? = some (.cells C 3 f)) : RW w' T uid gid d F :=
 ⟨fun j m h1 h2 h3 => let k := h.dir j m h1 h2 h3; ⟨k.is, k.nm.keep hs, k.ow.keep hi, k.mo, k.own, k.wr⟩, h.no⟩
theorem RW.below {w w' : World} {T : IT.Tr} {uid gid : Int} {d : Nat} {F : Nat → Nat → Value} (h : RW w T uid gid d F) (hb : Below w.heap.size w w') : RW w' T uid gid d F :=
 h.keep (fun g C f e => (hb.block g (lH e)).trans e) fun g C f e => (hb.block g (lH e)).trans e
theorem RW.lay {w w' : World} {T : IT.Tr} {uid gid : Int} {d : Nat} {F : Nat → Nat → Value} (h : RW w T uid gid d F) (hl : Lay w w') : RW w' T uid gid d F :=
 h.keep (fun g C f e => hl.2 _ _ _ _ e (by decide) (by decide) (by decide)) fun g C f e => hl.2 _ _ _ _ e (by decide) (by decide) (by decide)
theorem RW.skip {w : World} {T : IT.Tr} {uid gid : Int} {d : Nat} {F : Nat → Nat → Value} (h : RW w T uid gid d F) (hd : ∀ m, T d = some m → m.kind ≠ 1) : RW w T uid gid (d + 1) F :=
 ⟨fun j m h1 h2 h3 => h.dir j m h1 h2 (by
  by_cases e : j = d
  · subst e; exact absurd h2 (hd m h1)
  · omega), fun j hj => h.no j fun m h1 h2 h3 => hj m h1 h2 (by omega)⟩
theorem RW.add {w : World} {T : IT.Tr} {uid gid : Int} {d : Nat} {F : Nat → Nat → Value} (h : RW w T uid gid d F) {m : IT.Nd} (hm : T d = some m) (hk : m.kind = 1) {v : Nat → Value} (hv : Kept7 w T uid gid d m v) : RW w T uid gid (d + 1) (setD F d v) := by
 refine ⟨fun j m1 h1 h2 h3 => ?_, fun j hj => ?_⟩
 · unfold setD
   by_cases e : j = d
   · subst e
     rw [hm] at h1
     obtain rfl := oI h1
     rw [if_pos rfl]
     exact hv
   · rw [if_neg e]
     exact h.dir j m1 h1 h2 (by omega)
 · unfold setD
   by_cases e : j = d
   · subst e; exact absurd (Nat.lt_succ_self j) (hj m hm hk)
   · rw [if_neg e]
     exact h.no j fun m1 h1 h2 h3 => hj m1 h1 h2 (by omega)
structure WE (n0 : Nat) (w1 wr : World) (t : Nat) (S : Tab) (T : IT.Tr) (b5 b7 : Nat) (V A : Array Value) : Prop where
 tro : Tro n0 w1 wr t S T
 op : wr.heap[b5]? = some (.cells V 24 (0, 0))
 was : wr.heap[b7]? = some (.cells A 60 (0, 0))
 l7 : n0 ≤ b7
theorem WE.below {n0 : Nat} {w1 wr w' : World} {t : Nat} {S : Tab} {T : IT.Tr} {b5 b7 : Nat} {V A : Array Value} (h : WE n0 w1 wr t S T b5 b7 V A) (hb : Below wr.heap.size wr w') : WE n0 w1 w' t S T b5 b7 V A :=
 ⟨h.tro.below hb, (hb.block _ (lH h.op)).trans h.op, (hb.block _ (lH h.was)).trans h.was, h.l7⟩
theorem WE.step {n0 : Nat} {w1 wr w' : World} {t : Nat} {S : Tab} {T : IT.Tr} {b5 b7 : Nat} {V A : Array Value} (h : WE n0 w1 wr t S T b5 b7 V A) {R : IT.Tr → Prop} (g : Stp wr t S R w') (hR : ∀ T', R T' → IT.Sound okN T') : ∃ S' T', WE n0 w1 w' t S' T' b5 b7 V A ∧ R T' ∧ Lay wr w' := by
 obtain ⟨S', T', h1, h2, h3⟩ := h.tro.lay g hR
 exact ⟨S', T', ⟨h1, h3.2 _ _ _ _ h.op (by decide) (by decide) (by decide), h3.2 _ _ _ _ h.was (by decide) (by decide) (by decide), h.l7⟩, h2, h3⟩
theorem WE.cell {n0 : Nat} {w1 wr : World} {t : Nat} {S : Tab} {T : IT.Tr} {b5 b7 : Nat} {V : Array Value} {F : Nat → Nat → Value} (h : WE n0 w1 wr t S T b5 b7 V (dirA F)) {d j : Nat} (hd : d < 201) (hj : j < 6) : wr.cell? ⟨b7, d * 6 + j, none⟩ = some (F d j) := (cO h.was _).trans (dirA_cell F hd hj)
theorem tro_sets {n0 : Nat} {w1 wr : World} {t : Nat} {S : Tab} {T : IT.Tr} (h : Tro n0 w1 wr t S T) {b : Nat} {A : Array Value} {Ty : TypeId} {f : Nat × Nat} (hb : wr.heap[b]? = some (.cells A Ty f)) (h1 : Ty ≠ 105) (h2 : Ty ≠ 83) (hl : n0 ≤ b) (l : List (Nat × Value)) : Tro n0 w1 (sets wr b l) t S T := by
 have ho := fun c (hc : c ≠ b) => sets_other hc l wr
 obtain ⟨r1, r2, r3, r4⟩ := sets_rest b l wr
 exact ⟨⟨h.own.rep.same fun c hc => ho c fun e => not_foot h.own.rep hb h1 h2 (e ▸ hc), h.own.below.trans ⟨r1, r2, r3, Nat.le_of_eq r4.symm, fun c hc => ho c (by omega)⟩, by rw [r4]; exact h.own.le, h.own.own⟩, h.ties, h.snd⟩
theorem ne_block {W : World} {b c : Nat} {A B : Array Value} {X Y : TypeId} {f g : Nat × Nat} (h1 : W.heap[b]? = some (.cells A X f)) (h2 : W.heap[c]? = some (.cells B Y g)) (h : X ≠ Y) : b ≠ c := fun e => by
 subst e
 have e2 := h1.symm.trans h2
 simp only [Option.some.injEq, Obj.cells.injEq] at e2
 exact h e2.2.1
theorem WE.fill {n0 : Nat} {w1 wr : World} {t : Nat} {S : Tab} {T : IT.Tr} {b5 b7 : Nat} {V A : Array Value} (h : WE n0 w1 wr t S T b5 b7 V A) (l : List (Nat × Value)) : WE n0 w1 (sets wr b7 l) t S T b5 b7 V (l.foldl (fun C x => C.setIfInBounds x.1 x.2) A) :=
 ⟨tro_sets h.tro h.was (by decide) (by decide) h.l7 l, (sets_other (ne_block h.op h.was (by decide)) l wr).trans h.op, sets_same l wr _ _ _ h.was, h.l7⟩
theorem RW.fill {wr : World} {T : IT.Tr} {uid gid : Int} {d b7 : Nat} {F : Nat → Nat → Value} {A : Array Value} (h : RW wr T uid gid d F) (hw : wr.heap[b7]? = some (.cells A 60 (0, 0))) (l : List (Nat × Value)) : RW (sets wr b7 l) T uid gid d F :=
 h.keep (fun g C f e => (sets_other (ne_block e hw (by decide)) l wr).trans e) fun g C f e => (sets_other (ne_block e hw (by decide)) l wr).trans e
theorem zero_dirs : ∀ w : World, (zeroValue 60).run Tryz.prog w = .ok (.agg (dirA fun _ => zeroF)) w := fun _ => by kernel_rfl
end Go.Proofs.YtafonmnfeibaiaaGreat
