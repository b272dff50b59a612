/- Expressions: what a tree makes. -/
import Derived.Test.YtpjjdaenckedbaaDoorL
import Derived.Test.YtpjjdaenckedbaaDoorF
import Derived.Deep.RegionWith
import Derived.Deep.QuietTactic
import Derived.BigQuiet
namespace Go.Proofs.YtpjjdaenckedbaaDoor
open Go.RowKit

def errE (c : Int) : Ending := .panicked [{ v := .iface 27 (.int .i64 c), recovered := false }]
/-- What a reckoning ends with. -/
def EvP (w0 : World) (v1 : Value) (x : Ev) (e : Ending) (w' : World) : Prop := match x with
  | .ok (n, st) => e = .returned (.int .i64 n) ∧ St w0 v1 st w'
  | .error c => e = errE c ∧ Below w0.heap.size w0 w'
theorem EvP.yes {w0 w' : World} {v1 : Value} {x : Ev} {n : Int} {st : List VarS} (hx : x = .ok (n, st)) (h : St w0 v1 st w') : EvP w0 v1 x (.returned (.int .i64 n)) w' := by subst hx; exact ⟨rfl, h⟩
theorem EvP.no {w0 w' : World} {v1 : Value} {x : Ev} {c : Int} (hx : x = .error c) (h : Below w0.heap.size w0 w') : EvP w0 v1 x (.panicked [{ v := .iface 27 (.int .i64 c), recovered := false }]) w' := by subst hx; exact ⟨rfl, h⟩
/-- The contract of a tree. -/
def RkC (w0 : World) (v1 : Value) (vars : List VarS) (b : Nat) (t : T) : Prop := ∀ (k : Nat) (st : List VarS) (w : World), TV w0 b k t → WF t → St w0 v1 st w → VS st → st.length + cnt t ≤ 1000 →
  Calls Tryd.prog 16 #[ptr0 w0.heap.size, ptr0 k] w (EvP w0 v1 (ev vars t st))
theorem ND.c {w : World} {k : Nat} {sg nm : Bytes} {kids : Value} {n : Int} (h : ND w k sg kids nm n) : w.cell? ⟨k, 0, none⟩ = some (.string (B sg)) ∧ w.cell? ⟨k, 1, none⟩ = some kids ∧ w.cell? ⟨k, 2, none⟩ = some (.string (B nm)) ∧ w.cell? ⟨k, 3, none⟩ = some (.int .i64 n) := ⟨heap_cell h 0, heap_cell h 1, heap_cell h 2, heap_cell h 3⟩
theorem ND.on {w0 w : World} {k : Nat} {sg nm : Bytes} {kids : Value} {n : Int} (h : ND w0 k sg kids nm n) (hb : Below w0.heap.size w0 w) : ND w k sg kids nm n := (hb.block k (Array.getElem?_eq_some_iff.1 h).1).trans h
theorem KD.on {w0 w : World} {a : Nat} {l : List Nat} (h : KD w0 a l) (hb : Below w0.heap.size w0 w) : KD w a l := (hb.block a (Array.getElem?_eq_some_iff.1 h).1).trans h
theorem KD.c {w : World} {a : Nat} {l : List Nat} (h : KD w a l) (i : Nat) (hi : i < l.length) : w.cell? ⟨a, i, none⟩ = some (ptr0 l[i]) := by
  rw [heap_cell h i]; simp [hi, ptr, ptr0]
set_option maxRecDepth 100000 in
theorem rk_num (w0 : World) (v1 : Value) (vars : List VarS) (b : Nat) (n : Int) : RkC w0 v1 vars b (.num n) := by
  intro k st w ht hw hs hS hl
  cases ht with
  | num hk hn =>
    have HST := Lib.hid hs
    obtain ⟨c0, c1, c2, c3⟩ := (hn.on hs.1).c
    have hb0 : ((B []).toList == []) = true := by rw [B_list]; rfl
    have HX : Hid (ev vars (.num n) st = .ok (n, st)) := Lib.hid rfl
    clear hn hk hs hS hl hw
    unfold ptr0
    go_enter Tryd.func16, Tryd.ntmps16
    go_wp2
    go_ret
    exact EvP.yes HX.out HST.out
set_option maxRecDepth 100000 in
theorem rk_name {w0 : World} {v1 : Value} {vars : List VarS} (hv : InV w0 v1 vars) (hV : VS vars) (hvl : vars.length ≤ 140737488355328) (b : Nat) (x : Bytes) : RkC w0 v1 vars b (.name x) := by
  intro k st w ht hw hs hS hl
  cases ht with
  | name hk hn =>
    have HST := Lib.hid hs
    obtain ⟨c0, c1, c2, c3⟩ := (hn.on hs.1).c
    have hb0 : ((B []).toList == []) = true := by rw [B_list]; rfl
    have hx0 : ((B x).toList == []) = false := by rw [B_list]; simpa using hw.1
    have HVA := Lib.hid (value_any x hs hv hS hV (by omega) hvl)
    have HX : Hid (ev vars (.name x) st = ofE (numV (lookV vars st x)) 20 st) := Lib.hid rfl
    clear hn hk hs hS hl hw hv hV hvl
    generalize ev vars (.name x) st = Y at *
    cases hq : numV (lookV vars st x) with
    | none =>
      rw [hq] at HX
      unfold ValP at HVA
      rw [hq] at HVA
      clear hq
      unfold ptr0
      go_enter Tryd.func16, Tryd.ntmps16
      go_wp2_with fail
      refine HVA.out.mono ?_
      rintro e w1 ⟨he, h1⟩
      replace he : e = .panicked [{ v := .iface 27 (.int .i64 20), recovered := false }] := he
      subst he
      have H1 := Lib.hid h1
      clear h1
      go_wp2
      exact ⟨rfl, EvP.no HX.out H1.out.1⟩
    | some n =>
      rw [hq] at HX
      unfold ValP at HVA
      rw [hq] at HVA
      clear hq
      unfold ptr0
      go_enter Tryd.func16, Tryd.ntmps16
      go_wp2_with fail
      refine HVA.out.mono ?_
      rintro e w1 ⟨he, h1⟩
      replace he : e = .returned (.int .i64 n) := he
      subst he
      have H1 := Lib.hid h1
      clear h1
      go_wp2
      go_ret
      exact EvP.yes HX.out H1.out
theorem un_neg (n : Int) (st : List VarS) : (Except.ok (w64 (0 - n), st) : Ev) = .ok (wrap64 (-n), st) := by rw [w64_wrap, Int.zero_sub]
set_option maxHeartbeats 4000000 in
set_option maxRecDepth 100000 in
theorem rk_un {w0 : World} {v1 : Value} {vars : List VarS} {b : Nat} {t : T} (s : Bytes) (ih : RkC w0 v1 vars b t) : RkC w0 v1 vars b (.un s t) := by
  intro k st w ht hw hs hS hl
  cases ht with
  | @un _ a c _ _ hk ha hn hd htc =>
    have HN := Lib.hid hn
    have HD := Lib.hid hd
    obtain ⟨c0, c1, c2, c3⟩ := (hn.on hs.1).c
    have ca : w.cell? ⟨a, 0, none⟩ = some (.pointer (some ⟨c, 0, none⟩)) := (hd.on hs.1).c 0 (by simp)
    have hb0 : ((B []).toList == []) = true := by rw [B_list]; rfl
    have HKC := Lib.hid (ih c st w htc hw.2 hs hS hl)
    have HX : Hid (ev vars (.un s t) st = bindE (ev vars t st) fun x st => .ok (unV s x, st)) := Lib.hid rfl
    have hu4 : s = [43] ∨ s = [45] ∨ s = [126] ∨ s = [33] := by
      have hu := hw.1
      unfold isUn at hu
      simp only [Bool.or_eq_true, beq_iff_eq] at hu
      rcases hu with ((h | h) | h) | h
      · exact .inl h
      · exact .inr (.inl h)
      · exact .inr (.inr (.inl h))
      · exact .inr (.inr (.inr h))
    clear hn hk ha hd htc hs hS hl hw
    generalize ev vars (.un s t) st = Y at *
    unfold ptr0 at *
    rcases hu4 with rfl | rfl | rfl | rfl
    · have hcmp := B_cmp [43]
      go_enter Tryd.func16, Tryd.ntmps16
      go_wp2_with fail
      refine (HKC.out).mono ?_
      rintro e w1 he
      cases hx1 : ev vars t st with
      | error c =>
        rw [hx1] at he
        obtain ⟨he, hb⟩ := he
        unfold errE at he
        subst he
        have HB := Lib.hid hb
        have HX1 := Lib.hid hx1
        clear hb hx1
        go_wp2
        exact ⟨rfl, EvP.no (by rw [HX.out, HX1.out]; rfl) HB.out⟩
      | ok p =>
        obtain ⟨n1, st1⟩ := p
        rw [hx1] at he
        obtain ⟨rfl, hst⟩ := he
        have HST1 := Lib.hid hst
        have HX1 := Lib.hid hx1
        clear hst
        clear hx1
        obtain ⟨d0, d1, d2, d3⟩ := (HN.out.on HST1.out.1).c
        clear c0 c1 c2 c3 ca
        go_wp2
        go_ret
        exact EvP.yes (by rw [HX.out, HX1.out]; rfl) HST1.out
    · have hcmp := B_cmp [45]
      go_enter Tryd.func16, Tryd.ntmps16
      go_wp2_with fail
      refine (HKC.out).mono ?_
      rintro e w1 he
      cases hx1 : ev vars t st with
      | error c =>
        rw [hx1] at he
        obtain ⟨he, hb⟩ := he
        unfold errE at he
        subst he
        have HB := Lib.hid hb
        have HX1 := Lib.hid hx1
        clear hb hx1
        go_wp2
        exact ⟨rfl, EvP.no (by rw [HX.out, HX1.out]; rfl) HB.out⟩
      | ok p =>
        obtain ⟨n1, st1⟩ := p
        rw [hx1] at he
        obtain ⟨rfl, hst⟩ := he
        have HST1 := Lib.hid hst
        have HX1 := Lib.hid hx1
        clear hst
        clear hx1
        obtain ⟨d0, d1, d2, d3⟩ := (HN.out.on HST1.out.1).c
        clear c0 c1 c2 c3 ca
        go_wp2
        go_ret
        exact EvP.yes (by rw [HX.out, HX1.out]; exact un_neg n1 st1) HST1.out
    · have hcmp := B_cmp [126]
      go_enter Tryd.func16, Tryd.ntmps16
      go_wp2_with fail
      refine (HKC.out).mono ?_
      rintro e w1 he
      cases hx1 : ev vars t st with
      | error c =>
        rw [hx1] at he
        obtain ⟨he, hb⟩ := he
        unfold errE at he
        subst he
        have HB := Lib.hid hb
        have HX1 := Lib.hid hx1
        clear hb hx1
        go_wp2
        exact ⟨rfl, EvP.no (by rw [HX.out, HX1.out]; rfl) HB.out⟩
      | ok p =>
        obtain ⟨n1, st1⟩ := p
        rw [hx1] at he
        obtain ⟨rfl, hst⟩ := he
        have HST1 := Lib.hid hst
        have HX1 := Lib.hid hx1
        clear hst
        clear hx1
        obtain ⟨d0, d1, d2, d3⟩ := (HN.out.on HST1.out.1).c
        clear c0 c1 c2 c3 ca
        go_wp2
        go_ret
        exact EvP.yes (by rw [HX.out, HX1.out]; rfl) HST1.out
    · have hcmp := B_cmp [33]
      go_enter Tryd.func16, Tryd.ntmps16
      go_wp2_with fail
      refine (HKC.out).mono ?_
      rintro e w1 he
      cases hx1 : ev vars t st with
      | error c =>
        rw [hx1] at he
        obtain ⟨he, hb⟩ := he
        unfold errE at he
        subst he
        have HB := Lib.hid hb
        have HX1 := Lib.hid hx1
        clear hb hx1
        go_wp2
        exact ⟨rfl, EvP.no (by rw [HX.out, HX1.out]; rfl) HB.out⟩
      | ok p =>
        obtain ⟨n1, st1⟩ := p
        rw [hx1] at he
        obtain ⟨rfl, hst⟩ := he
        have HST1 := Lib.hid hst
        have HX1 := Lib.hid hx1
        clear hst
        clear hx1
        obtain ⟨d0, d1, d2, d3⟩ := (HN.out.on HST1.out.1).c
        clear c0 c1 c2 c3 ca
        go_wp2_with fail
        refine (truth_any _ _).mono ?_
        rintro e w2 ⟨rfl, rfl⟩
        go_wp2
        go_ret
        exact EvP.yes (by rw [HX.out, HX1.out]; rfl) HST1.out
set_option maxHeartbeats 4000000 in
set_option maxRecDepth 100000 in
theorem rk_cond {w0 : World} {v1 : Value} {vars : List VarS} {b : Nat} {t1 t2 t3 : T} (i1 : RkC w0 v1 vars b t1) (i2 : RkC w0 v1 vars b t2) (i3 : RkC w0 v1 vars b t3) : RkC w0 v1 vars b (.cond t1 t2 t3) := by
  intro k st w ht hw hs hS hl
  cases ht with
  | @cond _ a c1 c2 c3 _ _ _ hk ha hn hd ht1 ht2 ht3 =>
    have HN := Lib.hid hn
    have HD := Lib.hid hd
    obtain ⟨c0, c1', c2', c3'⟩ := (hn.on hs.1).c
    have ca : w.cell? ⟨a, 0, none⟩ = some (.pointer (some ⟨c1, 0, none⟩)) := (hd.on hs.1).c 0 (by simp)
    have hb0 : ((B []).toList == []) = true := by rw [B_list]; rfl
    have hcmp := B_cmp [63]
    have hl1 : st.length + cnt t1 ≤ 1000 := by simp only [cnt] at hl; omega
    have HKC := Lib.hid (i1 c1 st w ht1 hw.1 hs hS hl1)
    have HEV := Lib.hid (fun n st1 h => ev_ok vars t1 st n st1 hw.1 hS h)
    have HL := Lib.hid (show st.length + (cnt t1 + cnt t2 + cnt t3) ≤ 1000 from hl)
    have HX : Hid (ev vars (.cond t1 t2 t3) st = bindE (ev vars t1 st) fun x st => if x ≠ 0 then ev vars t2 st else ev vars t3 st) := Lib.hid rfl
    have HT2 := Lib.hid ht2
    have HT3 := Lib.hid ht3
    have HW2 := Lib.hid hw.2.1
    have HW3 := Lib.hid hw.2.2
    clear hn hk ha hd ht1 ht2 ht3 hs hS hl hw hl1
    generalize ev vars (.cond t1 t2 t3) st = Y at *
    unfold ptr0 at *
    go_enter Tryd.func16, Tryd.ntmps16
    go_wp2_with fail
    refine (HKC.out).mono ?_
    rintro e w1 he
    cases hx1 : ev vars t1 st with
    | error c =>
      rw [hx1] at he
      obtain ⟨he, hb⟩ := he
      unfold errE at he
      subst he
      have HB := Lib.hid hb
      have HX1 := Lib.hid hx1
      clear hb hx1
      go_wp2
      exact ⟨rfl, EvP.no (by rw [HX.out, HX1.out]; rfl) HB.out⟩
    | ok p =>
      obtain ⟨n1, st1⟩ := p
      rw [hx1] at he
      obtain ⟨rfl, hst⟩ := he
      have HST1 := Lib.hid hst
      have HX1 := Lib.hid hx1
      clear hst
      have HE1 := Lib.hid (HEV.out n1 st1 hx1)
      obtain ⟨d0, d1, d2, d3⟩ := (HN.out.on HST1.out.1).c
      clear c0 c1' c2' c3' ca hx1
      by_cases hz : n1 = 0
      · have z1 : (n1 == 0) = true := by rw [hz]; rfl
        have z2 : (n1 != 0) = false := by rw [hz]; rfl
        have HXX : Hid (Y = ev vars t3 st1) := Lib.hid (by rw [HX.out, HX1.out]; simp only [bindE]; rw [if_neg (by simpa using hz)])
        have HK2 := Lib.hid (i3 c3 st1 w1 HT3.out HW3.out HST1.out HE1.out.2.1 (by have := HE1.out.2.2; have := HL.out; omega))
        have ca : w1.cell? ⟨a, 2, none⟩ = some (.pointer (some ⟨c3, 0, none⟩)) := (HD.out.on HST1.out.1).c 2 (by simp)
        clear hz
        unfold ptr0 at *
        go_wp2_with fail
        refine (HK2.out).mono ?_
        rintro e w9 he
        cases hx9 : ev vars t3 st1 with
        | error c =>
          rw [hx9] at he
          obtain ⟨he, hb⟩ := he
          unfold errE at he
          subst he
          have HB := Lib.hid hb
          have HX9 := Lib.hid hx9
          clear hb hx9
          go_wp2
          exact ⟨rfl, EvP.no (by rw [HXX.out, HX9.out]) HB.out⟩
        | ok p =>
          obtain ⟨n9, st9⟩ := p
          rw [hx9] at he
          obtain ⟨rfl, hst⟩ := he
          have HST9 := Lib.hid hst
          have HX9 := Lib.hid hx9
          clear hst hx9
          go_wp2
          go_ret
          exact EvP.yes (by rw [HXX.out, HX9.out]) HST9.out
      · have z1 : (n1 == 0) = false := by simpa using hz
        have z2 : (n1 != 0) = true := by simpa using hz
        have HXX : Hid (Y = ev vars t2 st1) := Lib.hid (by rw [HX.out, HX1.out]; simp only [bindE]; rw [if_pos hz])
        have HK2 := Lib.hid (i2 c2 st1 w1 HT2.out HW2.out HST1.out HE1.out.2.1 (by have := HE1.out.2.2; have := HL.out; omega))
        have ca : w1.cell? ⟨a, 1, none⟩ = some (.pointer (some ⟨c2, 0, none⟩)) := (HD.out.on HST1.out.1).c 1 (by simp)
        clear hz
        unfold ptr0 at *
        go_wp2_with fail
        refine (HK2.out).mono ?_
        rintro e w9 he
        cases hx9 : ev vars t2 st1 with
        | error c =>
          rw [hx9] at he
          obtain ⟨he, hb⟩ := he
          unfold errE at he
          subst he
          have HB := Lib.hid hb
          have HX9 := Lib.hid hx9
          clear hb hx9
          go_wp2
          exact ⟨rfl, EvP.no (by rw [HXX.out, HX9.out]) HB.out⟩
        | ok p =>
          obtain ⟨n9, st9⟩ := p
          rw [hx9] at he
          obtain ⟨rfl, hst⟩ := he
          have HST9 := Lib.hid hst
          have HX9 := Lib.hid hx9
          clear hst hx9
          go_wp2
          go_ret
          exact EvP.yes (by rw [HXX.out, HX9.out]) HST9.out
theorem B_last (s : Bytes) : (B s).extract 0 (s.length - 1) = B s.dropLast := by rw [B_take, List.dropLast_eq_take]
set_option maxHeartbeats 4000000 in
set_option maxRecDepth 100000 in
theorem rk_set {w0 : World} {v1 : Value} {vars : List VarS} (hv : InV w0 v1 vars) (hV : VS vars) (hP : HasP w0) (hvl : vars.length ≤ 140737488355328) {b : Nat} {t : T} (s x : Bytes) (ih : RkC w0 v1 vars b t) : RkC w0 v1 vars b (.set s x t) := by
  intro k st w ht hw hs hS hl
  cases ht with
  | @set _ a c _ _ _ hk ha hn hd htc =>
    have HN := Lib.hid hn
    have HD := Lib.hid hd
    obtain ⟨c0, c1, c2, c3⟩ := (hn.on hs.1).c
    have ca : w.cell? ⟨a, 0, none⟩ = some (.pointer (some ⟨c, 0, none⟩)) := (hd.on hs.1).c 0 (by simp)
    have hsne : s ≠ [] := by
      have := hw.1
      rintro rfl; cases this
    have hx0 : ((B x).toList == []) = false := by rw [B_list]; simpa using hw.2.2.1
    have hs0 : ((B s).toList == []) = false := by rw [B_list]; simpa using hsne
    have hl1 : st.length + cnt t ≤ 1000 := by simp only [cnt] at hl; omega
    have HKC := Lib.hid (ih c st w htc hw.2.2.2.2 hs hS hl1)
    have HEV := Lib.hid (fun n st1 h => ev_ok vars t st n st1 hw.2.2.2.2 hS h)
    have HL := Lib.hid (show st.length + (cnt t + 1) ≤ 1000 from hl)
    have HX : Hid (ev vars (.set s x t) st = bindE (ev vars t st) fun v st => setE vars s x v st) := Lib.hid rfl
    have HVA := Lib.hid (fun (st : List VarS) (w : World) (h : St w0 v1 st w) (hS : VS st) (hl : st.length ≤ 1000) => value_any x h hv hS hV hl hvl)
    have HSA := Lib.hid (fun (n : Int) (hn : IsI n) (st : List VarS) (w : World) (h : St w0 v1 st w) (hl : st.length ≤ 1000) => store_any x n hn h hP hl)
    have hsz : (B s).size = s.length := rfl
    have hlen : 1 ≤ s.length := by cases s with
      | nil => exact absurd rfl hsne
      | cons a b => simp
    have hmax : s.length ≤ 1000 := hw.2.1
    have hel := B_last s
    obtain ⟨op, hop⟩ : ∃ op, s.dropLast = op := ⟨_, rfl⟩
    have HOP := Lib.hid hop
    rw [hop] at hel
    clear hop
    clear hn hk ha hd htc hs hS hl hw hl1 hv hV hP hvl hsne
    generalize ev vars (.set s x t) st = Y at *
    unfold ptr0 at *
    go_enter Tryd.func16, Tryd.ntmps16
    go_wp2_with fail
    refine (HKC.out).mono ?_
    rintro e w1 he
    cases hx1 : ev vars t st with
    | error c =>
      rw [hx1] at he
      obtain ⟨he, hb⟩ := he
      unfold errE at he
      subst he
      have HB := Lib.hid hb
      have HX1 := Lib.hid hx1
      clear hb hx1
      go_wp2
      exact ⟨rfl, EvP.no (by rw [HX.out, HX1.out]; rfl) HB.out⟩
    | ok p =>
      obtain ⟨n1, st1⟩ := p
      rw [hx1] at he
      obtain ⟨rfl, hst⟩ := he
      have HST1 := Lib.hid hst
      have HX1 := Lib.hid hx1
      clear hst
      have HE1 := Lib.hid (HEV.out n1 st1 hx1)
      have HE2 : Hid (Y = setE vars s x n1 st1) := Lib.hid (by rw [HX.out, hx1]; rfl)
      obtain ⟨d0, d1, d2, d3⟩ := (HN.out.on HST1.out.1).c
      clear c0 c1 c2 c3 ca hx1
      by_cases ho : op = []
      · subst ho
        have hie : (B []).toList.isEmpty = true := by rw [B_list]; rfl
        have HE3 : Hid (Y = storeE x n1 st1) := Lib.hid (by rw [HE2.out]; unfold setE; rw [if_pos HOP.out])
        go_wp2
        go_quiet (fail)
        go_wp2_with fail
        refine (HSA.out n1 HE1.out.1 st1 _ (HST1.out.below (drewN_below _ _)) (by have := HE1.out.2.2; have := HL.out; omega)).mono ?_
        rintro e w3 ⟨rfl, h3⟩
        have H3 := Lib.hid h3
        clear h3
        go_wp2
        go_ret
        exact EvP.yes HE3.out H3.out
      · have hie : (B op).toList.isEmpty = false := by
          rw [B_list]; cases op with
          | nil => exact absurd rfl ho
          | cons a b => rfl
        have HE3 : Hid (Y = bindE (ofE (numV (lookV vars st1 x)) 20 st1) fun a st => bindE (ofE (twoV op a n1) 22 st) fun u st => storeE x u st) := Lib.hid (by rw [HE2.out]; unfold setE; rw [if_neg (by rw [HOP.out]; exact ho), HOP.out])
        clear ho
        have HV1 := Lib.hid (fun n => HVA.out st1 (w1.drewN n) (HST1.out.below (drewN_below _ _)) HE1.out.2.1 (by have := HE1.out.2.2; have := HL.out; omega))
        unfold ValP at HV1
        cases hq : numV (lookV vars st1 x) with
        | none =>
          rw [hq] at HE3
          rw [hq] at HV1
          clear hq
          go_wp2
          go_quiet (fail)
          go_wp2_with fail
          refine (HV1.out _).mono ?_
          rintro e w3 ⟨he, h3⟩
          replace he : e = .panicked [{ v := .iface 27 (.int .i64 20), recovered := false }] := he
          subst he
          have H3 := Lib.hid h3
          clear h3
          go_wp2
          exact ⟨rfl, EvP.no HE3.out H3.out.1⟩
        | some u =>
          have HU := Lib.hid (numV_is hq)
          rw [hq] at HE3
          rw [hq] at HV1
          clear hq
          have HTW := Lib.hid (fun w => two_any op u n1 HU.out w)
          cases hr : twoV op u n1 with
          | none =>
            have HE4 : Hid (Y = .error 22) := Lib.hid (by rw [HE3.out]; simp only [ofE, bindE, hr])
            rw [hr] at HTW
            clear hr
            go_wp2
            go_quiet (fail)
            go_wp2_with fail
            refine (HV1.out _).mono ?_
            rintro e w3 ⟨he, h3⟩
            replace he : e = .returned (.int .i64 u) := he
            subst he
            have H3 := Lib.hid h3
            clear h3
            go_wp2_with fail
            refine (HTW.out _).mono ?_
            rintro e w4 ⟨he, hw4⟩
            replace he : e = .panicked [{ v := .iface 27 (.int .i64 22), recovered := false }] := he
            subst he
            subst hw4
            go_wp2
            exact ⟨rfl, EvP.no HE4.out H3.out.1⟩
          | some m =>
            have HM := Lib.hid (twoV_is HU.out hr)
            have HE4 : Hid (Y = storeE x m st1) := Lib.hid (by rw [HE3.out]; simp only [ofE, bindE, hr])
            rw [hr] at HTW
            clear hr
            go_wp2
            go_quiet (fail)
            go_wp2_with fail
            refine (HV1.out _).mono ?_
            rintro e w3 ⟨he, h3⟩
            replace he : e = .returned (.int .i64 u) := he
            subst he
            have H3 := Lib.hid h3
            clear h3
            obtain ⟨f0, f1, f2, f3⟩ := (HN.out.on H3.out.1).c
            clear d0 d1 d2 d3
            go_wp2_with fail
            refine (HTW.out _).mono ?_
            rintro e w4 ⟨he, hw4⟩
            replace he : e = .returned (.int .i64 m) := he
            subst he
            subst hw4
            go_wp2_with fail
            refine (HSA.out m HM.out st1 _ H3.out (by have := HE1.out.2.2; have := HL.out; omega)).mono ?_
            rintro e w5 ⟨rfl, h5⟩
            have H5 := Lib.hid h5
            clear h5
            go_wp2
            go_ret
            exact EvP.yes HE4.out H5.out
end Go.Proofs.YtpjjdaenckedbaaDoor
