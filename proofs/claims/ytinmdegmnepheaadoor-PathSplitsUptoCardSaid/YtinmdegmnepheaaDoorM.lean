/- A row appended to a row, at a step of a region that draws its order. -/
import Derived.Test.YtinmdegmnepheaaDoorF
import Derived.Deep.AppendLies
import Derived.Laws.OwnMore
namespace Go.Proofs.YtinmdegmnepheaaDoor
open Go.RowKit

theorem own_below {W w : World} {base n : Nat} {v : Value} {xs : List Value} (h : W.ownsRow base 9 1 v n xs) (hb : Below W.heap.size W w) : w.ownsRow base 9 1 v n xs :=
  own_same h fun g o _ hg => by
    have hlt : g < W.heap.size := by
      rcases Nat.lt_or_ge g W.heap.size with h | h
      · exact h
      · rw [Array.getElem?_eq_none h] at hg; cases hg
    rw [hb.block g hlt]; exact hg
theorem at_new (w : World) (o : Obj) : (w.alloc o).heap[w.heap.size]? = some o := by
  show (w.heap.push o)[w.heap.size]? = some o
  simp
theorem own_new (w : World) (cs : Array Value) (base n B : Nat) (hB : w.heap.size = B) (hb : base ≤ w.heap.size) (hn : cs.size = n) (hm : n ≤ maxLen) :
    (w.alloc (.cells cs 9)).ownsRow base 9 1 (.slice (some ⟨B, 0, none⟩) n n) n cs.toList :=
  hB ▸ ⟨by simp [hn], .inr ⟨w.heap.size, n, cs, rfl, hb, at_new _ _, Nat.le_refl _, hm, by omega, by rw [List.take_of_length_le (by simp [hn])]⟩⟩
theorem own_drew {w : World} {base n : Nat} {v : Value} {xs : List Value} (h : w.ownsRow base 9 1 v n xs) : w.drew.ownsRow base 9 1 v n xs := own_same h fun _ _ _ h => h
theorem sl_n {w : World} {base n : Nat} {v : Value} {xs : List Value} {l : List ByteArray} (h : w.ownsRow base 9 1 v n xs) (hn : l.length = n) (hx : xs = l.map .string) : Sl w v l := by
  subst hn; subst hx; exact Sl.of_own h
theorem partsA_len : ∀ (l acc : Bytes), (partsA l acc).length ≤ l.length + 1
  | [], acc => by by_cases e : acc = [] <;> simp [partsA, e]
  | c :: l, acc => by
    by_cases hc : c = 47
    · have := partsA_len l []
      by_cases e : acc = []
      · simp only [partsA, hc, e, if_true, List.length_cons]; omega
      · simp only [partsA, hc, e, if_true, if_false, List.length_cons]; omega
    · have := partsA_len l (c :: acc)
      simp only [partsA, hc, if_false, List.length_cons]; omega

theorem run_app_row {P : Program} (w : World) (t ty : TypeId) (base : Nat) (e : TypeId) (i : TypeInfo) (z : Value) (bytes : Nat) (ht : P.underlying t = some (.slice e)) (hi : P.info? e = some i) (hz : i.zero = some z)
    (hsize : i.size = 1) (hby : i.bytes = bytes) (hzs : z.cells.size = 1)
    (v : Value) (n : Nat) (xs : List Value) (hown : w.ownsRow base e 1 v n xs)
    (bu : Nat) (u : Value) (m : Nat) (news : List Value) (hu : w.ownsRow bu e 1 u m news) (h1 : ∀ u ∈ news, u.oneCell' = true)
    (h63 : n + m ≤ maxLen) (hbytes : (n + m) * bytes ≤ 140737488355328) (hbase : base ≤ w.heap.size) :
    ∃ v' w', (Builtin.append_ #[t, t] ty #[v, u]).run P w = .ok v' w' ∧ w'.ownsRow base e 1 v' (n + m) (xs ++ news) ∧ w.grownBy w' v.ownBlock := by
  rcases hu.2 with ⟨rfl, h0⟩ | ⟨g, cap, cur, rfl, hb, hh, hn, hc, hs, htk⟩
  · subst h0
    have hnil : news = [] := List.eq_nil_of_length_eq_zero (by rw [hu.1])
    subst hnil
    exact ⟨v, w, run_append_owned_none (P := P) w base t ty e i 1 ht hi v n xs hown, by simpa using hown, World.grownBy.refl _ _⟩
  · obtain ⟨v', w', hr, h2, h3, _, _⟩ := run_append_own_at (P := P) w base t ty e i z 1 bytes ht hi hz hsize hby hzs (by decide) v n xs hown ⟨g, 0, none⟩ m cap news hu.1 (hu.cells rfl) h1 h63 hbytes hbase
    exact ⟨v', w', hr, h2, h3⟩

theorem step_app_row {P : Program} {w : World} {ops : Array Oper} {o : Oper} {a : Act} {K : Act → World → Prop} {Q : Exit → Act → World → Prop} {E : Prop} (hgd : o.guard = none) (s x : Operand) (t : TypeId)
    (ho : o.op = .call { callee := .builtin .append, args := #[s, x], argTypes := #[t, t] })
    (base : Nat) (e : TypeId) (i : TypeInfo) (z : Value) (bytes : Nat) (ht : P.underlying t = some (.slice e)) (hi : P.info? e = some i) (hz : i.zero = some z)
    (hsize : i.size = 1) (hby : i.bytes = bytes) (hzs : z.cells.size = 1)
    (v : Value) (n : Nat) (xs : List Value) (hs : a.eval s = v) (hown : w.ownsRow base e 1 v n xs)
    (bu : Nat) (u : Value) (m : Nat) (news : List Value) (hx : a.eval x = u) (hu : w.ownsRow bu e 1 u m news) (h1 : ∀ u ∈ news, u.oneCell' = true)
    (h63 : n + m ≤ maxLen) (hbytes : (n + m) * bytes ≤ 140737488355328) (hbase : base ≤ w.heap.size)
    (h : ∀ v' w', w'.ownsRow base e 1 v' (n + m) (xs ++ news) → w.grownBy w' v.ownBlock → Below base w w' → K (a.put o.dst v') w') :
    if Region.wanted o (yielded ops a.tmps) = true then Oper.wp P o a w K Q else E := by
  have hw : Region.wanted o (yielded ops a.tmps) = true := by simp [Region.wanted, hgd]
  rw [if_pos hw]
  obtain ⟨v', w', hr, h2, h3⟩ := run_app_row (P := P) w t o.type base e i z bytes ht hi hz hsize hby hzs v n xs hown bu u m news hu h1 h63 hbytes hbase
  unfold Oper.wp execOp
  simp only [ho, resolve, invoke, builtin, Sem.run_bind, Sem.run_pure, Result.andThen_ok, List.map_toArray, List.map_cons, List.map_nil, hs, hx, hr]
  exact h v' w' h2 h3 ((Below.refl _ _).grown h3 hbase (own_ge hown))
theorem ba_inj {l l' : List ByteArray} (h : l.map (fun x : ByteArray => x.data.toList) = l'.map (fun x : ByteArray => x.data.toList)) : l = l' := by
  induction l generalizing l' with
  | nil => cases l' with
    | nil => rfl
    | cons => simp at h
  | cons a l ih =>
    cases l' with
    | nil => simp at h
    | cons b l' =>
      simp only [List.map_cons, List.cons.injEq] at h
      obtain ⟨h1, h2⟩ := h
      rw [ih h2]
      have : a = b := by apply ByteArray.ext; apply Array.ext'; exact h1
      rw [this]
end Go.Proofs.YtinmdegmnepheaaDoor
