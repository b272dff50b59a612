/- Expressions: the rows of signs, as they lie; the rows of two. -/
import Derived.Test.YtpjjdaenckedbaaDoorG
import Derived.Test.YtpjjdaenckedbaaDoorLe
import Derived.Deep.LoopGhost
namespace Go.Proofs.YtpjjdaenckedbaaDoor
open Go.RowKit

def allocs (w : World) (os : List Obj) : World := os.foldl World.alloc w
theorem allocs_heap : ∀ (os : List Obj) (w : World), (allocs w os).heap.toList = w.heap.toList ++ os
  | [], w => by simp [allocs]
  | o :: os, w => by
    have h := allocs_heap os (w.alloc o)
    show (allocs (w.alloc o) os).heap.toList = _
    rw [h]
    show (w.heap.push o).toList ++ os = _
    simp
theorem allocs_at (w : World) (os : List Obj) (k : Nat) (h : k < os.length) : (allocs w os).heap[w.heap.size + k]? = some (os[k]'h) := by
  rw [← Array.getElem?_toList, allocs_heap, List.getElem?_append_right (by simp)]
  simp [h]
theorem allocs_below : ∀ (os : List Obj) (w : World), Below w.heap.size w (allocs w os)
  | [], w => Below.refl _ _
  | o :: os, w => ((Below.refl w.heap.size w).alloc (Nat.le_refl _) o).trans ((allocs_below os (w.alloc o)).mono (by rw [World.size_alloc]; omega))
/-- The rows, as they lie. -/
def RowsC (w : World) (b n : Nat) : Prop := n ≠ b ∧ ∃ C : Array Value, w.heap[n]? = some (.cells C 54 (0, 0)) ∧ ∀ i, i < 10 → ∃ a, a ≠ b ∧ C[i]? = some (.slice (some ⟨a, 0, none⟩) (opsAt i).length (opsAt i).length) ∧ StrC w a (opsAt i)
theorem RowsC.still {w w' : World} {b n : Nat} (h : RowsC w b n) (hm : Mo b w w') : RowsC w' b n := by
  obtain ⟨hn, C, h1, h2⟩ := h
  exact ⟨hn, C, hm.keep hn h1, fun i hi => by
    obtain ⟨a, ha, h3, h4⟩ := h2 i hi
    exact ⟨a, ha, h3, hm.keep ha h4⟩⟩
def strO (l : List Bytes) : Obj := .cells (l.map fun s => Value.string (B s)).toArray 9
def outO (n : Nat) : Obj := .cells #[.slice (some ⟨n, 0, none⟩) 1 1, .slice (some ⟨n + 1, 0, none⟩) 1 1, .slice (some ⟨n + 1 + 1, 0, none⟩) 1 1, .slice (some ⟨n + 1 + 1 + 1, 0, none⟩) 1 1, .slice (some ⟨n + 1 + 1 + 1 + 1, 0, none⟩) 1 1, .slice (some ⟨n + 1 + 1 + 1 + 1 + 1, 0, none⟩) 2 2, .slice (some ⟨n + 1 + 1 + 1 + 1 + 1 + 1, 0, none⟩) 4 4, .slice (some ⟨n + 1 + 1 + 1 + 1 + 1 + 1 + 1, 0, none⟩) 2 2, .slice (some ⟨n + 1 + 1 + 1 + 1 + 1 + 1 + 1 + 1, 0, none⟩) 2 2, .slice (some ⟨n + 1 + 1 + 1 + 1 + 1 + 1 + 1 + 1 + 1, 0, none⟩) 3 3] 54
def rowsO (n : Nat) : List Obj := [strO (opsAt 0), strO (opsAt 1), strO (opsAt 2), strO (opsAt 3), strO (opsAt 4), strO (opsAt 5), strO (opsAt 6), strO (opsAt 7), strO (opsAt 8), strO (opsAt 9), outO n]
theorem rows_at (w : World) (b : Nat) (hb : b < w.heap.size) : RowsC (allocs w (rowsO w.heap.size)) b (w.heap.size + 10) := by
  have h : ∀ k (hk : k < 11), (allocs w (rowsO w.heap.size)).heap[w.heap.size + k]? = some ((rowsO w.heap.size)[k]'hk) := fun k hk => allocs_at w (rowsO w.heap.size) k hk
  refine ⟨by omega, _, h 10 (by omega), fun i hi => ⟨w.heap.size + i, by omega, ?_, ?_⟩⟩
  · obtain rfl | rfl | rfl | rfl | rfl | rfl | rfl | rfl | rfl | rfl : i = 0 ∨ i = 1 ∨ i = 2 ∨ i = 3 ∨ i = 4 ∨ i = 5 ∨ i = 6 ∨ i = 7 ∨ i = 8 ∨ i = 9 := by omega
    all_goals rfl
  · obtain rfl | rfl | rfl | rfl | rfl | rfl | rfl | rfl | rfl | rfl : i = 0 ∨ i = 1 ∨ i = 2 ∨ i = 3 ∨ i = 4 ∨ i = 5 ∨ i = 6 ∨ i = 7 ∨ i = 8 ∨ i = 9 := by omega
    · exact h 0 (by omega)
    · exact h 1 (by omega)
    · exact h 2 (by omega)
    · exact h 3 (by omega)
    · exact h 4 (by omega)
    · exact h 5 (by omega)
    · exact h 6 (by omega)
    · exact h 7 (by omega)
    · exact h 8 (by omega)
    · exact h 9 (by omega)
set_option maxRecDepth 100000 in
theorem rows_any (w : World) (b : Nat) (hb : b < w.heap.size) : Calls Tryd.prog 46 #[] w fun e w' => e = .returned (.slice (some ⟨w.heap.size + 10, 0, none⟩) 10 10) ∧ RowsC w' b (w.heap.size + 10) ∧ Below w.heap.size w w' := by
  have H1 := Lib.hid (rows_at w b hb)
  have H2 := Lib.hid (allocs_below (rowsO w.heap.size) w)
  clear hb
  go_enter Tryd.func46, Tryd.ntmps46
  go_wp2
  go_ret
  exact ⟨rfl, H1.out, H2.out⟩
theorem RowsC.at {w : World} {b n i : Nat} (h : RowsC w b n) (hi : i < 10) : ∃ a, w.cell? ⟨n, i, none⟩ = some (.slice (some ⟨a, 0, none⟩) (opsAt i).length (opsAt i).length) ∧ StrC w a (opsAt i) := by
  obtain ⟨_, C, h1, h2⟩ := h
  obtain ⟨a, _, h3, h4⟩ := h2 i hi
  exact ⟨a, (heap_cell h1 i).trans h3, h4⟩
def RowC (R k : Nat) : Prop := ∀ (b : Nat) (s : Bytes) (w : World) (i : Nat), i + k = 10 → RD w b s (25 - R : Int) → s.length ≤ 256 → R ≤ 24 → Calls Tryd.prog 36 #[ptr b, .int .i64 i] w (PE (rowR (PL R) k s) b (25 - R) w)
theorem row_0 {R : Nat} (HL : Lev R) : RowC R 0 := by
  intro b s w i hi h hs hR
  obtain rfl : i = 10 := by omega
  show Calls Tryd.prog 36 _ w (PE (PL R .one s) b _ w)
  have HRW := Lib.hid (rows_any w b h.lt)
  have H := Lib.hid h
  have HLv := Lib.hid (fun w h => HL .one b s w h hs (by omega))
  clear h HL hi hs hR
  generalize (25 - R : Int) = d at *
  generalize PL R .one s = X at *
  go_enter Tryd.func36, Tryd.ntmps36
  go_wp2_with fail
  refine HRW.out.mono ?_
  rintro e w1 ⟨rfl, hr, hb1⟩
  have H1 := Lib.hid (H.out.still hb1)
  have HM1 := Lib.hid (Mo.of (b := b) hb1)
  clear hr hb1
  go_wp2_with fail
  refine (HLv.out w1 H1.out).mono ?_
  rintro e w9 ⟨hm, he⟩
  cases hx : X with
  | none =>
    rw [hx] at he
    replace he : e = faultE := he
    unfold faultE at he
    subst he
    have HM9 := Lib.hid (HM1.out.trans hm)
    have HX := Lib.hid hx
    clear hm hx
    go_wp2
    exact ⟨rfl, PE.no (by first | rfl | exact HX.out) HM9.out⟩
  | some p =>
    obtain ⟨t9, r9⟩ := p
    rw [hx] at he
    obtain ⟨k9, rfl, ht, hr, hl⟩ := he
    have HM9 := Lib.hid (HM1.out.trans hm)
    have HT9 := Lib.hid ht
    have HR9 := Lib.hid hr
    have HL9 := Lib.hid hl
    have HX := Lib.hid hx
    clear hm hx ht hr hl
    go_wp2
    go_ret
    exact PE.yes (by first | rfl | exact HX.out) HM9.out HT9.out HR9.out HL9.out
theorem node_two {w : World} {b k1 k2 : Nat} {t1 t2 : T} (hb : b < w.heap.size) (h1 : TV w b k1 t1) (h2 : TV w b k2 t2) (sg : Bytes) :
    TV ((w.alloc (.cells #[ptr k1, ptr k2] 42)).alloc (.cells #[.string (B sg), kv w.heap.size 2, .string (B []), .int .i64 0] 57)) b (w.heap.size + 1) (.two sg t1 t2) :=
  .two (by omega) (by omega) (nd_at _ sg _ [] 0) (kd_at [k1, k2] _) ((h1.put _).put _) ((h2.put _).put _)
theorem loop_once (f : Bytes → Res) (ops : List Bytes) (g : Nat) (n : T) (l : Bytes) : loopR f ops (g + 1) n l = if ops.contains (sgn (blank l)) then
      (match f ((blank l).drop (sgn (blank l)).length) with
      | none => none
      | some (m, r) => loopR f ops g (.two (sgn (blank l)) n m) r)
    else some (n, blank l) := rfl
theorem ops_len (i : Nat) : (opsAt i).length ≤ 100 := by
  by_cases h : i < 10
  · obtain rfl | rfl | rfl | rfl | rfl | rfl | rfl | rfl | rfl | rfl : i = 0 ∨ i = 1 ∨ i = 2 ∨ i = 3 ∨ i = 4 ∨ i = 5 ∨ i = 6 ∨ i = 7 ∨ i = 8 ∨ i = 9 := by omega
    all_goals decide
  · have : opsAt i = [] := by
      unfold opsAt
      rw [List.getD_eq_getElem?_getD, List.getElem?_eq_none (by simp [rowsL]; omega)]; rfl
    rw [this]; decide
set_option maxHeartbeats 4000000 in
theorem row_step {R k : Nat} (HR : RowC R k) : RowC R (k + 1) := by
  intro b s w i hi h hs hR
  have hik : 9 - k = i := by omega
  have HRW := Lib.hid (rows_any w b h.lt)
  have H := Lib.hid h
  have HRk := Lib.hid (fun s w h hs => HR b s w (i + 1) (by omega) h hs hR)
  have HOK := Lib.hid (fun s t r hl => ok_row (ok_PL R) k s t r hl)
  have hi10 : (i : Int) < 10 := by omega
  have hi10n : i < 10 := by omega
  have hne : ((i : Int) == 10) = false := by simp; omega
  have HS := Lib.hid hs
  have HE : Hid (rowR (PL R) (k + 1) s = match rowR (PL R) k s with
    | none => none
    | some (n, r) => loopR (rowR (PL R) k) (opsAt i) (r.length + 1) n r) := Lib.hid (by rw [← hik]; rfl)
  obtain ⟨Y, hY⟩ : ∃ Y, rowR (PL R) (k + 1) s = Y := ⟨_, rfl⟩
  rw [hY] at HE ⊢
  clear h HR hi hs hR hik hY
  generalize (25 - R : Int) = d at *
  generalize rowR (PL R) k = f at *
  have HF := Lib.hid (HRk.out s)
  go_enter Tryd.func36, Tryd.ntmps36
  go_wp2_with fail
  refine HRW.out.mono ?_
  rintro e w1 ⟨rfl, hr, hb1⟩
  have H1 := Lib.hid (H.out.still hb1)
  have HM1 := Lib.hid (Mo.of (b := b) hb1)
  have HRC := Lib.hid hr
  clear hr hb1
  generalize w.heap.size + 10 = n at *
  go_wp2_with fail
  refine (HRk.out s w1 H1.out HS.out).mono ?_
  rintro e w2 ⟨hm, he⟩
  cases hx : f s with
  | none =>
    rw [hx] at he HE
    replace he : e = faultE := he
    unfold faultE at he
    subst he
    have HM9 := Lib.hid (HM1.out.trans hm)
    have HX := Lib.hid HE.out
    clear hm hx
    go_wp2
    exact ⟨rfl, PE.no HX.out HM9.out⟩
  | some p =>
    obtain ⟨t0, r0⟩ := p
    rw [hx] at he HE
    obtain ⟨k0, rfl, ht, hr, hl⟩ := he
    have HM2 := Lib.hid (HM1.out.trans hm)
    have HT2 := Lib.hid ht
    have HR2 := Lib.hid hr
    have HL2 := Lib.hid hl
    have HRC2 := Lib.hid (HRC.out.still hm)
    have HX := Lib.hid HE.out
    clear hm hx ht hr hl HE HRC
    go_wp2
    go_loopg [6, 7] (r0.length + 1) (fun g v6 v7 wr => ∃ (kn : Nat) (tn : T) (l : Bytes), v6 = ptr kn ∧ l.length < g ∧ Hid (TV wr b kn tn ∧ RD wr b l d ∧ Mo b w wr ∧ RowsC wr b n ∧ l.length ≤ 256 ∧ loopR f (opsAt i) g tn l = Y))
    case atStart => exact ⟨k0, t0, r0, rfl, by omega, Lib.hid ⟨HT2.out, HR2.out, HM2.out, HRC2.out, HL2.out, HX.out.symm⟩⟩
    case round =>
      obtain ⟨kn, tn, l, rfl, hg, HH⟩ := hrel
      obtain ⟨g, rfl⟩ : ∃ g, gk = g + 1 := ⟨gk - 1, by omega⟩
      have HSG := Lib.hid (sign_any b l d wr HH.out.2.1)
      have HBL := Lib.hid (bl_le l)
      have HLE := Lib.hid (loop_once f (opsAt i) g tn l)
      have he2 : (B (blank l)).extract (B (sgn (blank l))).size (B (blank l)).size = B ((blank l).drop (sgn (blank l)).length) := B_drop _ _
      have hle2 : (B (sgn (blank l))).size ≤ (B (blank l)).size := sgn_le _
      have HDL : Hid ((opsAt i).contains (sgn (blank l)) = true → ((blank l).drop (sgn (blank l)).length).length < l.length) := Lib.hid (fun hc => by
        have h1 := bl_le l
        have h2 := sgn_le (blank l)
        rw [List.length_drop]
        cases hz : sgn (blank l) with
        | nil => rw [hz, ops_nil] at hc; cases hc
        | cons a m => rw [hz] at h2; simp at h2 ⊢; omega)
      generalize blank l = y at *
      generalize sgn y = sg at *
      go_wp2_with fail
      refine HSG.out.mono ?_
      rintro e w3 ⟨rfl, h3, hm3⟩
      have HR3 := Lib.hid h3
      have HM3 := Lib.hid (HH.out.2.2.1.trans hm3)
      have HT3 := Lib.hid (HH.out.1.still hm3)
      have HRC3 := Lib.hid (HH.out.2.2.2.1.still hm3)
      obtain ⟨a, ca, hsa⟩ := HRC3.out.at hi10n
      have c3 := h3.c0
      have f3 := h3.f 0
      have HCN := Lib.hid (contains_any a (opsAt i).length (opsAt i) sg w3 (ops_len i) hsa)
      clear h3 hm3 hsa
      cases hc : (opsAt i).contains sg with
      | false =>
        rw [hc] at HCN
        have HX9 : Hid (Y = some (tn, y)) := Lib.hid (by rw [← HH.out.2.2.2.2.2, HLE.out, hc]; rfl)
        clear hc
        go_wp2_with fail
        refine HCN.out.mono ?_
        rintro e w4 ⟨rfl, rfl⟩
        go_wp2
        go_ret
        exact PE.yes HX9.out HM3.out HT3.out HR3.out (Nat.le_trans HBL.out HH.out.2.2.2.2.1)
      | true =>
        rw [hc] at HCN
        have HDL2 := Lib.hid (HDL.out hc)
        have HX9 : Hid (Y = match f (y.drop sg.length) with
          | none => none
          | some (m, q) => loopR f (opsAt i) g (.two sg tn m) q) := Lib.hid (by rw [← HH.out.2.2.2.2.2, HLE.out, hc]; rfl)
        clear hc
        obtain ⟨z, hz⟩ : ∃ z, y.drop sg.length = z := ⟨_, rfl⟩
        rw [hz] at he2 HX9 HDL2
        clear hz HDL
        go_wp2_with fail
        refine HCN.out.mono ?_
        rintro e w4 ⟨rfl, rfl⟩
        have HM4 := Lib.hid (HM3.out.set (i := 0) (.string (B z)))
        have HT4 := Lib.hid (HT3.out.still ((Mo.refl b w4).set (i := 0) (.string (B z))))
        have HRC4 := Lib.hid (HRC3.out.still ((Mo.refl b w4).set (i := 0) (.string (B z))))
        have hzl : z.length ≤ 256 := by have := HDL2.out; have := HH.out.2.2.2.2.1; omega
        have HZL := Lib.hid hzl
        clear hzl
        go_wp2_with fail
        refine (HRk.out z _ (HR3.out.text z) HZL.out).mono ?_
        rintro e w5 ⟨hm, he⟩
        cases hx : f z with
        | none =>
          rw [hx] at he HX9
          replace he : e = faultE := he
          unfold faultE at he
          subst he
          have HM9 := Lib.hid (HM4.out.trans hm)
          clear hm hx
          go_wp2
          exact ⟨rfl, PE.no HX9.out HM9.out⟩
        | some p =>
          obtain ⟨m, q⟩ := p
          have HQ := Lib.hid (HOK.out z m q (by have := HZL.out; omega) hx).1
          rw [hx] at he HX9
          obtain ⟨k5, rfl, ht, hr, hl⟩ := he
          have HM5 := Lib.hid (HM4.out.trans hm)
          have HT5 := Lib.hid ht
          have HR5 := Lib.hid hr
          have HL5 := Lib.hid hl
          have HTA := Lib.hid (HT4.out.still hm)
          have HRC5 := Lib.hid (HRC4.out.still hm)
          clear hm hx ht hr hl
          go_wp2
          go_roundg g
          case measure => omega
          case rel =>
            refine ⟨w5.heap.size + 1, .two sg tn m, q, rfl, ?_, Lib.hid ⟨node_two HR5.out.lt HTA.out HT5.out sg, (HR5.out.put _).put _, (HM5.out.alloc _).alloc _, (HRC5.out.still ((Mo.refl _ _).alloc _)).still ((Mo.refl _ _).alloc _), HL5.out, HX9.out.symm⟩⟩
            have := HQ.out
            have := HDL2.out
            omega
theorem fn_row {R : Nat} (HL : Lev R) : ∀ k, RowC R k
  | 0 => row_0 HL
  | k + 1 => row_step (fn_row HL k)
end Go.Proofs.YtpjjdaenckedbaaDoor
