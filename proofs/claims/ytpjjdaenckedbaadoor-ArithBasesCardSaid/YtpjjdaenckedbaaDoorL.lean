/- Expressions: a name is set. -/
import Derived.Test.YtpjjdaenckedbaaDoorK
namespace Go.Proofs.YtpjjdaenckedbaaDoor
open Go.RowKit

theorem add_at (g o : Nat) : (⟨g, 0, none⟩ : Addr).add o = ⟨g, o, none⟩ := by unfold Addr.add; split <;> simp_all
theorem own_val {w : World} {N : Nat} {a : Option Addr} {c : Nat} {L : List VarS} (ho : OwnV w N (.slice a L.length c) L) {k : Nat} (hk : k < L.length) :
    ∃ g, a = some ⟨g, 0, none⟩ ∧ N ≤ g ∧ w.cell? ⟨g, k * 4 + 1, none⟩ = some (.string (B L[k].value)) ∧ w.frozen? ⟨g, k * 4 + 1, none⟩ = false ∧
      ∀ p, OwnV (w.setCell ⟨g, k * 4 + 1, none⟩ (.string (B p))) N (.slice a L.length c) (L.set k ⟨L[k].name, p⟩) := by
  have hpos : (cellsV L)[k * 4 + 1]? = some (.string (B L[k].value)) := by rw [cellsV_at L k hk 1 (by omega)]; rfl
  have hcell : ∀ g : Nat, (Value.slice a L.length c).ownBlock = some g → ∀ (j : Nat) (u : Value), (cellsV L)[j]? = some u → w.cell? ((⟨g, 0, none⟩ : Addr).add j) = some u := fun g hg => ho.cells hg
  rcases ho.2 with ⟨_, h0⟩ | ⟨g, c2, cur, he, hg0, hg, hcap, _, hcs, _⟩
  · omega
  · obtain ⟨rfl, rfl⟩ : a = some ⟨g, 0, none⟩ ∧ c = c2 := by simp at he; exact he
    refine ⟨g, rfl, hg0, ?_, frozen_of_row _ _ _ _ _ hg, fun p => ?_⟩
    · have := hcell g rfl (k * 4 + 1) _ hpos
      rwa [add_at] at this
    · unfold OwnV
      rw [List.length_set, cellsV_set]
      have ho' : w.ownsRow N 25 4 (.slice (some ⟨g, 0, none⟩) L.length c) L.length (cellsV L) := ho
      exact (ho'.stored (k * 4 + 1) (.string (B p))).1
theorem own_set {w : World} {N b i : Nat} {v u : Value} {L : List VarS} (h : OwnV w N v L) (hb : b < N) : OwnV (w.setCell ⟨b, i, none⟩ u) N v L := by
  obtain ⟨h1, ⟨h2, h3⟩ | ⟨g, cap, cur, h2, hB, hh, rest⟩⟩ := h
  · exact ⟨h1, .inl ⟨h2, h3⟩⟩
  · exact ⟨h1, .inr ⟨g, cap, cur, h2, hB, (Below.heap_setCell _ _ _ _ (by show g ≠ b; omega)).trans hh, rest⟩⟩
theorem heap_set_other {w : World} {b c i : Nat} {o : Obj} (h : w.heap[c]? = some o) (v : Value) (hne : c ≠ b) : (w.setCell ⟨b, i, none⟩ v).heap[c]? = some o := by
  rw [Below.heap_setCell _ _ _ _ hne]; exact h
theorem St.hit {w0 w : World} {a1 a2 : Value} {g k : Nat} {st' : List VarS} {p : Value} (hb : Below w0.heap.size w0 w) (hw : w.heap[w0.heap.size]? = some (.cells #[a1, a2] 47 (0, 0))) (hg : w0.heap.size + 1 ≤ g)
    (ho : OwnV (w.setCell ⟨g, k, none⟩ p) (w0.heap.size + 1) a2 st') : St w0 a1 st' (w.setCell ⟨g, k, none⟩ p) :=
  ⟨hb.setCell (by simp; omega) _, a2, heap_set_other hw _ (by omega), ho⟩
theorem info25 : (Tryd.prog.info? 25).map (fun i => (i.zero, i.size, i.bytes)) = some (some (.agg #[.string ⟨#[]⟩, .string ⟨#[]⟩, .bool false, .bool false]), 4, 40) := by kernel_rfl
theorem four_new (W : World) (C : Array Value) (T : TypeId) (f : Nat × Nat) (j : Nat) (x : Value) (h : C.toList[j]? = some x) : (W.alloc (.cells C T f)).cell? ((⟨W.heap.size, 0, none⟩ : Addr).add j) = some x := by
  rw [add_at, heap_cell (at_new W _) j]
  simpa using h
theorem OwnV.snoc {w : World} {N : Nat} {v : Value} {L : List VarS} {u : VarS} (h : w.ownsRow N 25 4 v (L.length + 1) (cellsV L ++ varL u)) : OwnV w N v (L ++ [u]) := by
  unfold OwnV
  rw [cellsV_snoc, List.length_append]
  exact h
theorem own_ge {w : World} {base sz n : Nat} {e : TypeId} {v : Value} {xs : List Value} (h : w.ownsRow base e sz v n xs) : ∀ k, v.ownBlock = some k → base ≤ k := fun k hk => (h.lt k hk).1
theorem below_grown {w0 w w' : World} {N : Nat} {row : Option Nat} (h : Below N w0 w) (hB : N ≤ w0.heap.size) (hg : w.grownBy w' row) (hrow : ∀ k, row = some k → N ≤ k) : Below N w0 w' :=
  ⟨hg.os.trans h.os, hg.tape.trans h.tape, hg.output.trans h.output, Nat.le_trans h.size hg.size, fun j hj => (hg.block j (Nat.lt_of_lt_of_le hj (Nat.le_trans hB h.size)) (fun e => by have := hrow j e.symm; omega)).trans (h.block j hj)⟩
theorem grown_at {w w' : World} {N : Nat} {row : Option Nat} {o : Obj} (hg : w.grownBy w' row) (hrow : ∀ k, row = some k → N + 1 ≤ k) (h : w.heap[N]? = some o) : w'.heap[N]? = some o :=
  (hg.block N (Array.getElem?_eq_some_iff.1 h).1 (fun e => by have := hrow N e.symm; omega)).trans h
theorem own_form {w : World} {N n : Nat} {v : Value} {xs : List Value} (h : w.ownsRow N 25 4 v n xs) : ∃ a c, v = .slice a n c := by
  obtain ⟨_, ⟨rfl, h0⟩ | ⟨g, cap, cur, rfl, _⟩⟩ := h
  · exact ⟨_, 0, by rw [h0]⟩
  · exact ⟨_, _, rfl⟩
def StP (w0 : World) (v1 : Value) (st : List VarS) (n : Int) (e : Ending) (w' : World) : Prop := e = .returned (.int .i64 n) ∧ St w0 v1 st w'
set_option maxHeartbeats 4000000 in
set_option maxRecDepth 100000 in
theorem store_any {w0 w : World} {v1 : Value} {st : List VarS} (x : Bytes) (n : Int) (hn : IsI n) (h : St w0 v1 st w) (hP : HasP w0) (hsl : st.length ≤ 1000) :
    Calls Tryd.prog 26 #[ptr0 w0.heap.size, .string (B x), .int .i64 n] w (StP w0 v1 (putV x (decI n) st) n) := by
  have HFM := Lib.hid (format_any n hn w (hP.below h.1))
  have HST0 := Lib.hid h
  have HL := Lib.hid hsl
  clear h hn hP hsl
  generalize decI n = dn at *
  cases hf : findV x st with
  | some s =>
    obtain ⟨k, hk, hs1, hs2, hput⟩ := findI_some x s st 0 hf
    replace hs2 : findI x st 0 = (k : Int) := by simpa using hs2
    rw [hput dn]
    have HI := Lib.hid hs2
    clear hput hs1 hs2 hf
    have hk1 : (k : Int) < st.length := by omega
    have hk0 : (0 : Int) ≤ k := by omega
    unfold ptr0
    go_enter Tryd.func26, Tryd.ntmps26
    go_wp2_with fail
    refine HFM.out.mono ?_
    rintro e w1 ⟨rfl, hb1⟩
    obtain ⟨hb, v2, hw2, ho2⟩ := HST0.out.below hb1
    have HF := Lib.hid (find_any v2 st x w1 ho2.inV (by have := HL.out; omega))
    rw [HI.out] at HF
    obtain ⟨a2, c2, hv2, hjunk⟩ := ho2.inV
    clear hjunk
    subst hv2
    have HB := Lib.hid hb
    have HW := Lib.hid hw2
    have HO := Lib.hid ho2
    have q1 : w1.cell? ⟨w0.heap.size, 1, none⟩ = some (.slice a2 st.length c2) := heap_cell hw2 1
    clear hb1 hb hw2 ho2
    go_wp2_with fail
    refine HF.out.mono ?_
    rintro e w2 ⟨rfl, hb2⟩
    have HB2 := Lib.hid (HB.out.trans (hb2.mono HB.out.size))
    have hw2 : w2.heap[w0.heap.size]? = some (.cells #[v1, .slice a2 st.length c2] 47 (0, 0)) := (hb2.block _ (Array.getElem?_eq_some_iff.1 HW.out).1).trans HW.out
    have HO2 := Lib.hid (HO.out.below hb2)
    have HW2 := Lib.hid hw2
    obtain ⟨g, rfl, hg, hcg, hfg, hset⟩ := own_val HO2.out hk
    have HSET := Lib.hid (hset dn)
    have HG := Lib.hid hg
    have q2 : w2.cell? ⟨w0.heap.size, 1, none⟩ = some (.slice (some ⟨g, 0, none⟩) st.length c2) := heap_cell hw2 1
    clear hb2 hset hw2 q1 hg
    go_wp2
    go_ret
    exact ⟨rfl, St.hit HB2.out HW2.out HG.out HSET.out⟩
  | none =>
    have HI := Lib.hid (findI_none x st 0 hf)
    rw [putV_none x dn st hf]
    clear hf
    obtain ⟨i0, hi, hz0, hz1, hz4⟩ := info_parts info25
    unfold ptr0
    go_enter Tryd.func26, Tryd.ntmps26
    go_wp2_with fail
    refine HFM.out.mono ?_
    rintro e w1 ⟨rfl, hb1⟩
    obtain ⟨hb, v2, hw2, ho2⟩ := HST0.out.below hb1
    have HF := Lib.hid (find_any v2 st x w1 ho2.inV (by have := HL.out; omega))
    rw [HI.out] at HF
    obtain ⟨a2, c2, hv2, hjunk⟩ := ho2.inV
    clear hjunk
    subst hv2
    have HB := Lib.hid hb
    have HW := Lib.hid hw2
    have HO := Lib.hid ho2
    have q1 : w1.cell? ⟨w0.heap.size, 1, none⟩ = some (.slice a2 st.length c2) := heap_cell hw2 1
    clear hb1 hb hw2 ho2
    go_wp2_with fail
    refine HF.out.mono ?_
    rintro e w2 ⟨rfl, hb2⟩
    have HB2 := Lib.hid (HB.out.trans (hb2.mono HB.out.size))
    have hw2 : w2.heap[w0.heap.size]? = some (.cells #[v1, .slice a2 st.length c2] 47 (0, 0)) := (hb2.block _ (Array.getElem?_eq_some_iff.1 HW.out).1).trans HW.out
    have HO2 := Lib.hid (HO.out.below hb2)
    have HW2 := Lib.hid hw2
    have q2 : w2.cell? ⟨w0.heap.size, 1, none⟩ = some (.slice a2 st.length c2) := heap_cell hw2 1
    have HS0 := Lib.hid (show w0.heap.size + 1 ≤ w2.heap.size from (Array.getElem?_eq_some_iff.1 hw2).1)
    clear hb2 hw2 q1
    have hoA : OwnV (w2.alloc (.cells #[.string (B x), .string (B dn), .bool false, .bool false] 25)) (w0.heap.size + 1) (.slice a2 st.length c2) st := HO2.out.below ((Below.refl _ _).alloc (Nat.le_refl _) _)
    have HOA := Lib.hid hoA
    have HA2 : Hid ((w2.alloc (.cells #[.string (B x), .string (B dn), .bool false, .bool false] 25)).heap[w0.heap.size]? = some (.cells #[v1, .slice a2 st.length c2] 47 (0, 0))) := Lib.hid ((Below.heap_alloc _ _ _ (by have := HS0.out; omega)).trans HW2.out)
    clear hoA
    go_wp2_with (at_builtin; refine wpList_append_own _ rfl _ _ 26 rfl (w0.heap.size + 1) 25 i0 (.agg #[.string ⟨#[]⟩, .string ⟨#[]⟩, .bool false, .bool false]) 4 40 Tryd.underlying26 hi hz0 hz1 hz4 rfl (by decide) _ _ _ rfl HOA.out ⟨_, 0, none⟩ 1 1 [.string (B x), .string (B dn), .bool false, .bool false] rfl rfl (four_new _ _ _ _) (by simp [Value.oneCell']) (by unfold maxLen; have := HL.out; omega) (by have := HL.out; omega) (by have := HS0.out; simp; omega) ?_; intro v' w6 hown' hgrow _; obtain ⟨a6, c6, hv6⟩ := own_form hown'; subst hv6; have HO6 := Lib.hid hown'; have h6 := grown_at hgrow (own_ge HOA.out) HA2.out; have q6 := heap_cell h6 1; have f6 := heap_free h6 1; have H6 := Lib.hid h6; have HG6 := Lib.hid hgrow; clear hown' hgrow h6)
    have HB6 := Lib.hid (below_grown (HB2.out.alloc HB2.out.size _) (Nat.le_refl _) HG6.out (fun k hk => Nat.le_trans (Nat.le_succ _) (own_ge HOA.out k hk)))
    go_ret
    refine ⟨rfl, HB6.out.setCell (Nat.le_refl _) _, _, set_same H6.out _, ?_⟩
    have := OwnV.snoc (u := ⟨x, dn⟩) HO6.out
    exact own_set this (by omega)
end Go.Proofs.YtpjjdaenckedbaaDoor
