/- Users in a row of the call's own; Parse. -/
import Derived.Test.YtmfbmjnoepcigaaGreatDoorLa
import Derived.Maps.AppendAt
namespace Go.Proofs.YtmfbmjnoepcigaaGreatDoor
open Go.RowKit

def cellsU (L : List UserS) : List Value := L.flatMap (fun u => (userC u).toList)
theorem cellsU_nil : cellsU [] = [] := rfl
theorem cellsU_cons (u : UserS) (L : List UserS) : cellsU (u :: L) = (userC u).toList ++ cellsU L := by simp [cellsU]
theorem cellsU_snoc (L : List UserS) (u : UserS) : cellsU (L ++ [u]) = cellsU L ++ (userC u).toList := by simp [cellsU]
theorem userC_len (u : UserS) : (userC u).toList.length = 6 := rfl
theorem cellsU_len : ∀ L : List UserS, (cellsU L).length = L.length * 6
  | [] => rfl
  | u :: L => by rw [cellsU_cons, List.length_append, userC_len, cellsU_len L, List.length_cons]; omega
theorem cellsU_at : ∀ (L : List UserS) (j : Nat) (hj : j < L.length) (i : Nat), i < 6 → (cellsU L)[j * 6 + i]? = (userC L[j])[i]?
  | [], j, hj, _, _ => absurd hj (Nat.not_lt_zero j)
  | u :: L, 0, _, i, hi => by
    rw [cellsU_cons, Nat.zero_mul, Nat.zero_add, List.getElem?_append_left (by rw [userC_len]; exact hi)]
    simp
  | u :: L, j + 1, hj, i, hi => by
    rw [cellsU_cons, List.getElem?_append_right (by rw [userC_len]; omega), userC_len, show (j + 1) * 6 + i - 6 = j * 6 + i by omega]
    have := cellsU_at L j (by simpa using hj) i hi
    simpa using this
theorem own_inU {w : World} {B : Nat} {v : Value} {L : List UserS} (h : w.ownsRow B 29 6 v L.length (cellsU L)) : InU w v L := by
  obtain ⟨hl, h2⟩ := h
  rcases h2 with ⟨rfl, h0⟩ | ⟨g, cap, cur, rfl, hB, hg, hcap, hmax, hsz, htake⟩
  · refine ⟨none, 0, by rw [h0], fun j hj => by omega⟩
  · refine ⟨some ⟨g, 0, none⟩, cap, rfl, fun j hj => ⟨g, 0, rfl, fun i hi => ?_⟩⟩
    rw [heap_cell hg, ← cellsU_at L j hj i hi, ← htake, List.getElem?_take, if_pos (by omega)]
    simp
def OwnU (w : World) (B : Nat) (v : Value) (L : List UserS) : Prop := w.ownsRow B 29 6 v L.length (cellsU L)
theorem OwnU.form {w : World} {B : Nat} {v : Value} {L : List UserS} (h : OwnU w B v L) : ∃ a c, v = .slice a L.length c := by
  obtain ⟨_, ⟨rfl, h0⟩ | ⟨g, cap, cur, rfl, _⟩⟩ := h
  · exact ⟨_, 0, by rw [h0]⟩
  · exact ⟨_, _, rfl⟩
theorem OwnU.grown {w w' : World} {B : Nat} {v : Value} {L : List UserS} (h : OwnU w B v L) (hb : Below w.heap.size w w') : OwnU w' B v L := own_below h hb
/-- What Parse tells. -/
noncomputable def parseR (t : Bytes) : List UserS × Nat × Int :=
  if 4096 < t.length then ([], 0, 10) else match parseL [] 1 t with
    | .ok L => (L, 0, 0)
    | .error (n, e) => ([], n, e)
theorem find_mem (x : ByteArray) (L : List UserS) : (0 ≤ findU (isName x) L 0) ↔ x ∈ namesU L := by
  rcases findU_cases (isName x) L with ⟨h1, h2⟩ | ⟨k, hk, h1, h2, h3⟩
  · rw [h1]
    refine ⟨fun h => by omega, fun h => ?_⟩
    unfold namesU at h
    obtain ⟨u, hu, rfl⟩ := List.mem_map.1 h
    have := h2 u hu
    simp [isName] at this
  · rw [h3]
    refine ⟨fun _ => ?_, fun _ => by omega⟩
    unfold isName at h1
    have h1' : L[k].name = x := by simpa using h1
    exact List.mem_map.2 ⟨L[k], List.getElem_mem _, h1'⟩
theorem info33 : (Tryz.prog.info? 29).map (fun i => (i.zero, i.size, i.bytes)) = some (some (.agg (userC zeroU)), 6, 80) := by kernel_rfl
theorem own_ge {w : World} {base sz n : Nat} {e : TypeId} {v : Value} {xs : List Value} (h : w.ownsRow base e sz v n xs) : ∀ k, v.ownBlock = some k → base ≤ k := fun k hk => (h.lt k hk).1
theorem below_grown {w0 w w' : World} {B : Nat} {row : Option Nat} (h : Below B w0 w) (hB : B ≤ w0.heap.size) (hg : w.grownBy w' row) (hrow : ∀ k, row = some k → B ≤ k) : Below B w0 w' :=
  ⟨hg.os.trans h.os, hg.tape.trans h.tape, hg.output.trans h.output, Nat.le_trans h.size hg.size, fun j hj => (hg.block j (Nat.lt_of_lt_of_le hj (Nat.le_trans hB h.size)) (fun e => by have := hrow j e.symm; omega)).trans (h.block j hj)⟩
def strSz : Value → Nat
  | .string s => s.size
  | _ => 0
theorem parse_long {t : Bytes} (h : 4096 < t.length) : parseR t = ([], 0, 10) := by unfold parseR; rw [if_pos h]
theorem parse_err {t : Bytes} (h : ¬ 4096 < t.length) {n : Nat} {e : Int} (hp : parseL [] 1 t = .error (n, e)) : parseR t = ([], n, e) := by unfold parseR; rw [if_neg h, hp]
theorem parse_ok {t : Bytes} (h : ¬ 4096 < t.length) {L : List UserS} (hp : parseL [] 1 t = .ok L) : parseR t = (L, 0, 0) := by unfold parseR; rw [if_neg h, hp]
def ParseP (s : ByteArray) (w : World) (e : Ending) (w' : World) : Prop :=
  ∃ v, e = .returned (.tuple #[v, .int .i64 (parseR s.data.toList).2.1, .int .i64 (parseR s.data.toList).2.2]) ∧ OwnU w' w.heap.size v (parseR s.data.toList).1 ∧ Below w.heap.size w w'
theorem parseP_err {s : ByteArray} {w w' : World} {n : Nat} {e : Int} (h : parseR s.data.toList = ([], n, e)) (hb : Below w.heap.size w w') {E : Ending} (hE : E = .returned (.tuple #[.slice none 0 0, .int .i64 n, .int .i64 e])) : ParseP s w E w' :=
  ⟨.slice none 0 0, by rw [hE, h], by rw [h]; exact World.ownsRow_nil _ _ _ _, hb⟩
theorem parseP_ok {s : ByteArray} {w w' : World} {L : List UserS} {v : Value} (h : parseR s.data.toList = (L, 0, 0)) (ho : OwnU w' w.heap.size v L) (hb : Below w.heap.size w w') {E : Ending} (hE : E = .returned (.tuple #[v, .int .i64 0, .int .i64 0])) : ParseP s w E w' :=
  ⟨v, by rw [hE, h]; rfl, by rw [h]; exact ho, hb⟩
theorem six_new (W : World) (C : Array Value) (T : TypeId) (f : Nat × Nat) (j : Nat) (x : Value) (h : C.toList[j]? = some x) : (W.alloc (.cells C T f)).cell? ((⟨W.heap.size, 0, none⟩ : Addr).add j) = some x := by
  have hadd : (⟨W.heap.size, 0, none⟩ : Addr).add j = ⟨W.heap.size, j, none⟩ := by unfold Addr.add; split <;> simp_all
  rw [hadd, heap_cell (at_new W _) j]
  simpa using h
theorem OwnU.snoc {w : World} {B : Nat} {v : Value} {L : List UserS} {u : UserS} (h : w.ownsRow B 29 6 v (L.length + 1) (cellsU L ++ (userC u).toList)) : OwnU w B v (L ++ [u]) := by
  unfold OwnU
  rw [cellsU_snoc, List.length_append]
  exact h
/-- One round of Parse. -/
theorem round_bad {t a b : ByteArray} {ok : Bool} {L : List UserS} {n : Nat} (h0 : 0 < t.size)
    (hc : (ok = true ∧ t.data.toList = a.data.toList ++ 10 :: b.data.toList ∧ 10 ∉ a.data.toList) ∨ (ok = false ∧ 10 ∉ t.data.toList ∧ a = t ∧ b = ⟨#[]⟩))
    (h : (∀ v, ¬ IsLine a.data.toList v) ∨ ok = false) : parseL L n t.data.toList = .error (n, 17) := by
  have hne : t.data.toList ≠ [] := fun e => by have := sz t; rw [e] at this; simp at this; omega
  rcases hc with ⟨rfl, h1, h2⟩ | ⟨rfl, h1, rfl, rfl⟩
  · rcases h with h | h
    · exact parseL_bad hne (by rw [h1, lineOf_app h2]; exact h)
    · cases h
  · exact parseL_last hne h1
open Classical in
theorem round_line {t a b : ByteArray} {L : List UserS} {n : Nat} {u : UserS} (hc : t.data.toList = a.data.toList ++ 10 :: b.data.toList) (h : IsLine a.data.toList u) :
    parseL L n t.data.toList = if u.name ∈ namesU L then .error (n, 5) else if L.length = 8 then .error (n, 12) else parseL (L ++ [u]) (n + 1) b.data.toList := by
  rw [hc, ← h.2, parseL_step h.1]
theorem emp_iff (s : ByteArray) : s.toList.isEmpty = decide (s.size = 0) := by
  rw [toList_data]
  cases hh : s.data.toList with
  | nil => have := sz s; rw [hh] at this; simp at this; rw [decide_eq_true this.symm]; rfl
  | cons c l => have := sz s; rw [hh] at this; simp at this; rw [decide_eq_false (by omega)]; rfl
set_option maxHeartbeats 4000000 in
set_option maxRecDepth 100000 in
theorem parse_any (s : ByteArray) (w : World) (hW : HasW w) : Calls Tryz.prog 8 #[.string s] w (ParseP s w) := by
  have HW := Lib.hid hW
  clear hW
  by_cases hlong : 4096 < s.size
  · have hl1 : (4096 : Int) < s.size := by omega
    have HP : Hid (parseR s.data.toList = ([], 0, 10)) := Lib.hid (parse_long (by rw [sz]; exact hlong))
    clear hlong
    go_enter Tryz.func8, Tryz.ntmps8
    go_wp2
    exact bodyPost_ret (v := .tuple #[.slice none 0 0, .int .i64 0, .int .i64 10]) (by simp [results, Tryz.results8, go_sem]) rfl (parseP_err HP.out (Below.refl _ _) rfl)
  · have hl1 : ¬ (4096 : Int) < s.size := by omega
    have HE := Lib.hid (fun n e (h : parseL [] 1 s.data.toList = .error (n, e)) => parse_err (by rw [sz]; exact hlong) h)
    have HK := Lib.hid (fun L (h : parseL [] 1 s.data.toList = .ok L) => parse_ok (by rw [sz]; exact hlong) h)
    have hs : s.size ≤ 4096 := by omega
    obtain ⟨i0, hi, hz0, hz1, hz4⟩ := info_parts info33
    clear hlong
    go_enter Tryz.func8, Tryz.ntmps8
    go_wp2
    go_loopw [0, 5, 6, 7, 8, 9, 10, 11] (fun v0 v5 v6 v7 v8 v9 v10 v11 wr => ∃ (t : ByteArray) (L : List UserS) (n : Nat), v0 = .string t ∧ v6 = .int .i64 n ∧ n + t.size ≤ s.size + 1 ∧ L.length ≤ 8 ∧ Hid (OwnU wr w.heap.size v5 L ∧ Below w.heap.size w wr ∧ parseL L n t.data.toList = parseL [] 1 s.data.toList)) (fun v0 v5 v6 v7 v8 v9 v10 v11 _ => strSz v0)
    case atStart => exact ⟨s, [], 1, rfl, rfl, by omega, by simp, Lib.hid ⟨World.ownsRow_nil _ _ _ _, Below.refl _ _, rfl⟩⟩
    case round =>
      obtain ⟨t, L, n, rfl, rfl, hn, hL, HH⟩ := hrel
      obtain ⟨la, lc, rfl⟩ := HH.out.1.form
      have he := emp_iff t
      by_cases ht : t.size = 0
      · rw [decide_eq_true ht] at he
        have HT : Hid (parseL [] 1 s.data.toList = .ok L) := Lib.hid (by
          rw [← HH.out.2.2]
          have : t.data.toList = [] := List.length_eq_zero_iff.1 (by rw [sz]; exact ht)
          rw [this, parseL_nil])
        clear ht
        go_wp2
        exact bodyPost_ret (v := .tuple #[.slice la L.length lc, .int .i64 0, .int .i64 0]) (by simp [results, Tryz.results8, go_sem]) rfl (parseP_ok (HK.out _ HT.out) HH.out.1 HH.out.2.1 rfl)
      · rw [decide_eq_false ht] at he
        have ht0 : 0 < t.size := by omega
        clear ht
        go_wp2_with fail
        refine (cut_any 10 t _ (by omega)).mono ?_
        rintro e w1 ⟨a, b, ok, rfl, ⟨k, rfl⟩, ha, hb, hc⟩
        have HCUT := Lib.hid hc
        have hB1 := drewN_below (Below.refl wr.heap.size wr) k
        have HB1 := Lib.hid (HH.out.2.1.trans (hB1.mono HH.out.2.1.size))
        have HO1 := Lib.hid (HH.out.1.grown hB1)
        clear hc hB1
        generalize wr.drewN k = W1 at *
        go_wp2_with fail
        refine (read_any a W1 (by omega) (HW.out.below HB1.out)).mono ?_
        rintro e w2 ⟨u, ok2, rfl, hb2, h1, h2⟩
        have HB2 := Lib.hid (HB1.out.trans (hb2.mono HB1.out.size))
        have HO2 := Lib.hid (HO1.out.grown hb2)
        have H1 := Lib.hid h1
        have H2 := Lib.hid h2
        clear hb2 h1 h2 HB1 HO1
        unfold userC
        cases ok2 with
        | false =>
          have HR := Lib.hid (HE.out n 17 (by rw [← HH.out.2.2]; exact round_bad ht0 HCUT.out (.inl (H2.out rfl))))
          go_wp2
          exact bodyPost_ret (v := .tuple #[.slice none 0 0, .int .i64 n, .int .i64 17]) (by simp [results, Tryz.results8, go_sem]) rfl (parseP_err HR.out (HB2.out.alloc HB2.out.size _) rfl)
        | true =>
          cases ok with
          | false =>
            have HR := Lib.hid (HE.out n 17 (by rw [← HH.out.2.2]; exact round_bad ht0 HCUT.out (.inr rfl)))
            go_wp2
            exact bodyPost_ret (v := .tuple #[.slice none 0 0, .int .i64 n, .int .i64 17]) (by simp [results, Tryz.results8, go_sem]) rfl (parseP_err HR.out (HB2.out.alloc HB2.out.size _) rfl)
          | true =>
            have h3 : t.data.toList = a.data.toList ++ 10 :: b.data.toList := by
              rcases HCUT.out with ⟨_, h, _⟩ | ⟨h, _⟩
              · exact h
              · cases h
            have hsz : b.size + 1 ≤ t.size := by
              have := congrArg List.length h3
              rw [List.length_append, List.length_cons, sz, sz, sz] at this
              omega
            have HSTEP := Lib.hid (round_line (L := L) (n := n) h3 (H1.out rfl))
            clear h3 HCUT H1 H2
            go_upto_region 11 with fail
            have hw4 : Below w2.heap.size w2 (w2.alloc (.cells (userC u) 29)) := (Below.refl _ _).alloc (Nat.le_refl _) _
            have hu4 : UC (w2.alloc (.cells (userC u) 29)) w2.heap.size 0 u := box_six (u := 29) (Below.refl _ _)
            have HB4 := Lib.hid (HB2.out.trans (hw4.mono HB2.out.size))
            have HO4 := Lib.hid (HO2.out.grown hw4)
            clear hw4
            have hW : ∃ W4, w2.alloc (.cells (userC u) 29) = W4 := ⟨_, rfl⟩
            obtain ⟨W4, hW4⟩ := hW
            rw [hW4] at hu4 HB4 HO4
            have hW4' : w2.alloc (.cells #[.string u.name, .string u.pass, .int .i64 u.id, .int .i64 u.group, .string u.home, .string u.shell] 29) = W4 := hW4
            rw [hW4']
            have HU4 := Lib.hid hu4
            obtain ⟨c0, c1, c2, c3, c4, c5⟩ := hu4.at0
            clear hu4 hW4 hW4'
            go_wp2_with fail
            refine (at_any _ L u.name W4 (own_inU HO4.out) (by omega)).mono ?_
            rintro e w5 ⟨rfl, hb5⟩
            have HB5 := Lib.hid (HB4.out.trans (hb5.mono HB4.out.size))
            have HO5 := Lib.hid (HO4.out.grown hb5)
            have hu5 := HU4.out.below hb5
            clear hb5 c0 c1 c2 c3 c4 c5 HB4 HO4 HU4
            have HFM := Lib.hid (find_mem u.name L)
            obtain ⟨q, hq⟩ : ∃ q, findU (isName u.name) L 0 = q := ⟨_, rfl⟩
            rw [hq] at HFM ⊢
            clear hq
            by_cases hq0 : 0 ≤ q
            · have HR := Lib.hid (HE.out n 5 (by rw [← HH.out.2.2, HSTEP.out, if_pos (HFM.out.1 hq0)]))
              go_wp2
              exact bodyPost_ret (v := .tuple #[.slice none 0 0, .int .i64 n, .int .i64 5]) (by simp [results, Tryz.results8, go_sem]) rfl (parseP_err HR.out HB5.out rfl)
            · have hnm : u.name ∉ namesU L := fun h => hq0 (HFM.out.2 h)
              by_cases h8 : L.length = 8
              · have HR := Lib.hid (HE.out n 12 (by rw [← HH.out.2.2, HSTEP.out, if_neg hnm, if_pos h8]))
                have h81 : ((L.length : Int) == 8) = true := by rw [h8]; rfl
                clear hnm h8
                go_wp2
                exact bodyPost_ret (v := .tuple #[.slice none 0 0, .int .i64 n, .int .i64 12]) (by simp [results, Tryz.results8, go_sem]) rfl (parseP_err HR.out HB5.out rfl)
              · have HR := Lib.hid (show parseL (L ++ [u]) (n + 1) b.data.toList = parseL [] 1 s.data.toList by rw [← HH.out.2.2, HSTEP.out, if_neg hnm, if_neg h8])
                have h81 : ((L.length : Int) == 8) = false := by
                  cases hh : ((L.length : Int) == 8) with
                  | false => rfl
                  | true => simp at hh; omega
                have hL7 : L.length ≤ 7 := by omega
                clear hnm h8
                obtain ⟨c0, c1, c2, c3, c4, c5⟩ := hu5.at0
                clear hu5
                have HNAT := Lib.hid (show n + t.size ≤ s.size + 1 ∧ b.size + 1 ≤ t.size ∧ L.length ≤ 7 ∧ s.size ≤ 4096 from ⟨hn, hsz, hL7, hs⟩)
                clear hn hsz hL hL7 hs hl1 ht0 ha hb
                go_wp2_with (at_builtin; refine wpList_append_own _ rfl _ _ 23 rfl w.heap.size 29 i0 (.agg (userC zeroU)) 6 80 Tryz.underlying23 hi hz0 hz1 hz4 rfl (by decide) _ _ _ rfl (own_below HO5.out ((Below.refl _ _).alloc (Nat.le_refl _) _)) ⟨_, 0, none⟩ 1 1 [.string u.name, .string u.pass, .int .i64 u.id, .int .i64 u.group, .string u.home, .string u.shell] rfl rfl (six_new _ _ _ _) (by simp [Value.oneCell']) (by unfold maxLen; have := HNAT.out; omega) (by have := HNAT.out; omega) (by have := HB5.out.size; simp; omega) ?_; intro v' w6 hown' hgrow _)
                have HO6 := Lib.hid (OwnU.snoc hown')
                have HB6 := Lib.hid (below_grown (HB5.out.alloc HB5.out.size _) (Nat.le_refl _) hgrow (own_ge HO5.out))
                clear hown' hgrow c0 c1 c2 c3 c4 c5
                go_wp2
                obtain ⟨hn, hsz, hL7, hs⟩ := HNAT.out
                have hwr : wrap64 ((n : Int) + 1) = ((n + 1 : Nat) : Int) := by unfold wrap64; omega
                go_roundw
                case rel => exact ⟨b, L ++ [u], n + 1, rfl, by rw [hwr], by omega, by simp; omega, Lib.hid ⟨HO6.out, HB6.out, HR.out⟩⟩
                case measure => simp [strSz]; omega
end Go.Proofs.YtmfbmjnoepcigaaGreatDoor
