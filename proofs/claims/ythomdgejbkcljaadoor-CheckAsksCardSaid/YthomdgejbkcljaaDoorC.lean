/- The document's truth, not, number. -/
import Derived.Test.YthomdgejbkcljaaDoorB
namespace Go.Proofs.YthomdgejbkcljaaDoor
open Go.RowKit

abbrev noB : ByteArray := ⟨#[]⟩
/-- What the document tells, as a value. -/
abbrev toldV (n : Int) (p : ByteArray) (b : Bool) : Value := .agg #[.int .i64 n, .string p, .bool b]
def told : Told → Value
  | .inl n => toldV n noB false
  | .inr x => toldV 0 x true
theorem heap_cell {w : World} {b : Nat} {C : Array Value} {T : TypeId} {f : Nat × Nat} (h : w.heap[b]? = some (.cells C T f)) (i : Nat) : w.cell? ⟨b, i, none⟩ = C[i]? := by simp [World.cell?, h]
theorem at_new (w : World) (o : Obj) : (w.alloc o).heap[w.heap.size]? = some o := by
  show (w.heap.push o)[w.heap.size]? = some o
  simp
theorem at_new2 (w : World) (o o2 : Obj) : ((w.alloc o).alloc o2).heap[w.heap.size + 1]? = some o2 := by
  have := at_new (w.alloc o) o2
  rw [World.size_alloc] at this
  exact this
theorem heap_free {w : World} {b : Nat} {C : Array Value} {T : TypeId} (h : w.heap[b]? = some (.cells C T (0, 0))) (i : Nat) : w.frozen? ⟨b, i, none⟩ = false := by simp [World.frozen?, h]
theorem set_same {w : World} {b i : Nat} {C : Array Value} {T : TypeId} {f : Nat × Nat} (h : w.heap[b]? = some (.cells C T f)) (v : Value) : (w.setCell ⟨b, i, none⟩ v).heap[b]? = some (.cells (C.setIfInBounds i v) T f) := by
  simp [World.setCell, Array.getElem?_modify, h]
def RT (v : Value) (w : World) (e : Ending) (w' : World) : Prop := e = .returned v ∧ Below w.heap.size w w'
/-- A block that holds what is told. -/
def IsT (W : World) (n0 : Nat) (n : Int) (p : ByteArray) (b : Bool) : Prop := W.heap[n0]? = some (.cells #[.int .i64 n, .string p, .bool b] 28 (0, 0))
theorem leave16 {T : Array Value} {W : World} (n0 : Nat) {n : Int} {p : ByteArray} {b : Bool} (hT : T[2]? = some (.pointer (some ⟨n0, 0, none⟩))) (h : IsT W n0 n p b)
    {R : Ending → World → Prop} (hR : R (.returned (toldV n p b)) W) : bodyPost Tryd.prog Tryd.f16 R .ret { tmps := T, defers := [] } W := by
  have c0 : W.cell? ⟨n0, 0, none⟩ = some (.int .i64 n) := heap_cell h 0
  have c1 : W.cell? ⟨n0, 1, none⟩ = some (.string p) := heap_cell h 1
  have c2 : W.cell? ⟨n0, 2, none⟩ = some (.bool b) := heap_cell h 2
  exact bodyPost_ret (v := toldV n p b) (by simp [results, Tryd.results16, go_sem, hT, c0, c1, c2]) rfl hR
theorem leave17 {T : Array Value} {W : World} (n0 : Nat) {n : Int} {p : ByteArray} {b : Bool} (hT : T[2]? = some (.pointer (some ⟨n0, 0, none⟩))) (h : IsT W n0 n p b)
    {R : Ending → World → Prop} (hR : R (.returned (toldV n p b)) W) : bodyPost Tryd.prog Tryd.f17 R .ret { tmps := T, defers := [] } W := by
  have c0 : W.cell? ⟨n0, 0, none⟩ = some (.int .i64 n) := heap_cell h 0
  have c1 : W.cell? ⟨n0, 1, none⟩ = some (.string p) := heap_cell h 1
  have c2 : W.cell? ⟨n0, 2, none⟩ = some (.bool b) := heap_cell h 2
  exact bodyPost_ret (v := toldV n p b) (by simp [results, Tryd.results17, go_sem, hT, c0, c1, c2]) rfl hR
theorem leave18 {T : Array Value} {W : World} (n0 : Nat) {n : Int} {p : ByteArray} {b : Bool} (hT : T[6]? = some (.pointer (some ⟨n0, 0, none⟩))) (h : IsT W n0 n p b)
    {R : Ending → World → Prop} (hR : R (.returned (toldV n p b)) W) : bodyPost Tryd.prog Tryd.f18 R .ret { tmps := T, defers := [] } W := by
  have c0 : W.cell? ⟨n0, 0, none⟩ = some (.int .i64 n) := heap_cell h 0
  have c1 : W.cell? ⟨n0, 1, none⟩ = some (.string p) := heap_cell h 1
  have c2 : W.cell? ⟨n0, 2, none⟩ = some (.bool b) := heap_cell h 2
  exact bodyPost_ret (v := toldV n p b) (by simp [results, Tryd.results18, go_sem, hT, c0, c1, c2]) rfl hR
theorem leave19 {T : Array Value} {W : World} (n0 : Nat) {n : Int} {p : ByteArray} {b : Bool} (hT : T[6]? = some (.pointer (some ⟨n0, 0, none⟩))) (h : IsT W n0 n p b)
    {R : Ending → World → Prop} (hR : R (.returned (toldV n p b)) W) : bodyPost Tryd.prog Tryd.f19 R .ret { tmps := T, defers := [] } W := by
  have c0 : W.cell? ⟨n0, 0, none⟩ = some (.int .i64 n) := heap_cell h 0
  have c1 : W.cell? ⟨n0, 1, none⟩ = some (.string p) := heap_cell h 1
  have c2 : W.cell? ⟨n0, 2, none⟩ = some (.bool b) := heap_cell h 2
  exact bodyPost_ret (v := toldV n p b) (by simp [results, Tryd.results19, go_sem, hT, c0, c1, c2]) rfl hR
theorem leave24 {T : Array Value} {W : World} (n0 : Nat) {n : Int} {p : ByteArray} {b : Bool} (hT : T[6]? = some (.pointer (some ⟨n0, 0, none⟩))) (h : IsT W n0 n p b)
    {R : Ending → World → Prop} (hR : R (.returned (toldV n p b)) W) : bodyPost Tryd.prog Tryd.f24 R .ret { tmps := T, defers := [] } W := by
  have c0 : W.cell? ⟨n0, 0, none⟩ = some (.int .i64 n) := heap_cell h 0
  have c1 : W.cell? ⟨n0, 1, none⟩ = some (.string p) := heap_cell h 1
  have c2 : W.cell? ⟨n0, 2, none⟩ = some (.bool b) := heap_cell h 2
  exact bodyPost_ret (v := toldV n p b) (by simp [results, Tryd.results24, go_sem, hT, c0, c1, c2]) rfl hR
theorem leave10 {T : Array Value} {W : World} (n0 : Nat) {n : Int} {p : ByteArray} {b : Bool} (hT : T[4]? = some (.pointer (some ⟨n0, 0, none⟩))) (h : IsT W n0 n p b)
    {R : Ending → World → Prop} (hR : R (.returned (toldV n p b)) W) : bodyPost Tryd.prog Tryd.f10 R .ret { tmps := T, defers := [] } W := by
  have c0 : W.cell? ⟨n0, 0, none⟩ = some (.int .i64 n) := heap_cell h 0
  have c1 : W.cell? ⟨n0, 1, none⟩ = some (.string p) := heap_cell h 1
  have c2 : W.cell? ⟨n0, 2, none⟩ = some (.bool b) := heap_cell h 2
  exact bodyPost_ret (v := toldV n p b) (by simp [results, Tryd.results10, go_sem, hT, c0, c1, c2]) rfl hR
theorem rtruth_any (b : Bool) (w : World) : Calls Tryd.prog 16 #[.bool b] w (RT (told (.inl (truthN b))) w) := by
  cases b
  · go_enter Tryd.func16, Tryd.ntmps16
    go_wp2
    exact leave16 w.heap.size rfl (at_new _ _) ⟨rfl, (Below.refl _ _).alloc (Nat.le_refl _) _⟩
  · go_enter Tryd.func16, Tryd.ntmps16
    go_wp2
    exact leave16 w.heap.size rfl (at_new _ _) ⟨rfl, (Below.refl _ _).alloc (Nat.le_refl _) _⟩
theorem rnot_any (t : Told) (h2 : ∀ n, t = .inl n → n ≤ 2) (w : World) : Calls Tryd.prog 17 #[told t] w (RT (told (notS t)) w) := by
  cases t with
  | inr x =>
    show Calls Tryd.prog 17 #[toldV 0 x true] w _
    go_enter Tryd.func17, Tryd.ntmps17
    go_wp2
    exact leave17 (w.heap.size + 1) rfl (at_new2 _ _ _) ⟨rfl, ((Below.refl _ _).alloc (Nat.le_refl _) _).alloc (by simp) _⟩
  | inl n =>
    have hn := h2 n rfl
    clear h2
    show Calls Tryd.prog 17 #[toldV n noB false] w _
    obtain rfl | rfl | rfl : n = 0 ∨ n = 1 ∨ n = 2 := by omega
    · go_enter Tryd.func17, Tryd.ntmps17
      go_wp2
      exact leave17 (w.heap.size + 1) rfl (at_new2 _ _ _) ⟨rfl, ((Below.refl _ _).alloc (Nat.le_refl _) _).alloc (by simp) _⟩
    · go_enter Tryd.func17, Tryd.ntmps17
      go_wp2
      exact leave17 (w.heap.size + 1) rfl (at_new2 _ _ _) ⟨rfl, ((Below.refl _ _).alloc (Nat.le_refl _) _).alloc (by simp) _⟩
    · go_enter Tryd.func17, Tryd.ntmps17
      go_wp2
      exact leave17 (w.heap.size + 1) rfl (at_new2 _ _ _) ⟨rfl, ((Below.refl _ _).alloc (Nat.le_refl _) _).alloc (by simp) _⟩
theorem get_data (s : ByteArray) (i : Nat) (h : i < s.size) : s.data.toList[i]? = some s[i] := by
  rw [List.getElem?_eq_getElem (by simpa using h)]; rfl
theorem size_list (s : ByteArray) : s.data.toList.length = s.size := by simp
theorem ex_data (s : ByteArray) (a b : Nat) : (s.extract a b).data.toList = (s.data.toList.take b).drop a := by
  rw [ByteArray.data_extract, Array.toList_extract, List.extract_eq_take_drop, List.drop_take]
theorem readD_app (l : Bytes) (c : UInt8) : readD (l ++ [c]) = 10 * readD l + (c.toNat - 48) := by simp [readD, List.foldl_append, dstep]
def NPostE (s : ByteArray) (w : World) (e : Ending) (w' : World) : Prop := e = numEnd (numS s.data.toList) ∧ w' = w
set_option maxHeartbeats 1000000 in
theorem rnumber_any (s : ByteArray) (hs : s.size ≤ 140737488355328) (w : World) : Calls Tryd.prog 25 #[.string s] w (NPostE s w) := by
  by_cases h0 : s.size = 0
  · have h01 : ¬ (0 : Int) < s.size := by omega
    have h02 : (s.size : Int) < 1 := by omega
    have hn : numS s.data.toList = none := by
      have : s.data.toList = [] := List.eq_nil_of_length_eq_zero (by rw [size_list]; exact h0)
      rw [this]; rfl
    have HN := Lib.hid hn
    clear hn h0
    go_enter Tryd.func25, Tryd.ntmps25
    go_wp2
    exact bodyPost_ret (v := .tuple #[.int .i64 0, .bool false]) (by simp [results, Tryd.results25, go_sem]) rfl ⟨by rw [HN.out]; rfl, rfl⟩
  · have hp : 0 < s.size := by omega
    have hp1 : (0 : Int) < s.size := by omega
    have hcons : s.data.toList = s[0] :: s.data.toList.drop 1 := by
      have hl : 0 < s.data.toList.length := by rw [size_list]; exact hp
      conv => lhs; rw [← List.drop_zero (l := s.data.toList), List.drop_eq_getElem_cons hl]
      rfl
    obtain ⟨b, hb⟩ : ∃ b, ((s[0].toNat : Int) == 45) = b := ⟨_, rfl⟩
    have hneg : negOf s.data.toList = b := by
      rw [hcons, ← hb]
      unfold negOf
      simp only
      rw [Bool.eq_iff_iff, beq_iff_eq, beq_iff_eq]
      constructor
      · intro h; rw [h]; rfl
      · intro h; apply UInt8.toNat_inj.1; show s[0].toNat = 45; omega
    obtain ⟨T, hT⟩ : ∃ T, (if b = true then s.extract 1 s.size else s) = T := ⟨_, rfl⟩
    have hTd : digitsOf s.data.toList = T.data.toList := by
      rw [← hT]
      cases b with
      | true =>
        have h45 : s[0] = 45 := by apply UInt8.toNat_inj.1; show s[0].toNat = 45; have := beq_iff_eq.1 hb; omega
        rw [if_pos rfl, ex_data, List.take_of_length_le (by rw [size_list]; exact Nat.le_refl _)]
        conv => lhs; rw [hcons, h45]
        rfl
      | false =>
        have h45 : ¬ s[0] = 45 := fun h => by rw [h] at hb; exact absurd hb (by decide)
        rw [if_neg (by decide)]
        conv => lhs; rw [hcons]
        unfold digitsOf
        simp only [if_neg h45]
        exact hcons.symm
    have HT := Lib.hid hT
    have hs1 : 1 ≤ s.size := hp
    have hs2 : (1 : Int) ≤ s.size := by omega
    have hNS : numS s.data.toList = if T.data.toList ≠ [] ∧ T.data.toList.length ≤ 18 ∧ T.data.toList.all isDig = true then some (if b = true then -(readD T.data.toList : Int) else readD T.data.toList) else none := by
      unfold numS; rw [hTd, hneg]
    have HNS := Lib.hid hNS
    have hts : T.size ≤ 140737488355328 := by
      rw [← hT]; split
      · rw [ByteArray.size_extract]; omega
      · exact hs
    clear hcons hneg hT hTd hNS h0 hs
    go_enter Tryd.func25, Tryd.ntmps25
    go_upto_if 15 with fail
    go_cut [0] from 15 to 17 (fun v0 wx => v0 = .string T ∧ wx = w)
    case first =>
      cases b with
      | true =>
        have hT2 : s.extract 1 s.size = T := HT.out
        go_wp2
        go_meet
        exact ⟨by first | rfl | rw [hT2], rfl⟩
      | false =>
        have hT2 : s = T := HT.out
        go_wp2
        go_meet
        exact ⟨by first | rfl | rw [hT2], rfl⟩
    case rest =>
      obtain ⟨rfl, hwx⟩ := hcut
      subst hwx
      by_cases h1 : T.size < 1
      · have h11 : (T.size : Int) < 1 := by omega
        have HN : Hid (numS s.data.toList = none) := Lib.hid (by
          rw [HNS.out, if_neg]
          rintro ⟨h, _⟩
          exact h (List.eq_nil_of_length_eq_zero (by rw [size_list]; omega)))
        clear h1 hb
        go_wp2
        exact bodyPost_ret (v := .tuple #[.int .i64 0, .bool false]) (by simp [results, Tryd.results25, go_sem]) rfl ⟨by rw [HN.out]; rfl, rfl⟩
      · have h11 : ¬ (T.size : Int) < 1 := by omega
        by_cases h18 : 18 < T.size
        · have h181 : (18 : Int) < T.size := by omega
          have HN : Hid (numS s.data.toList = none) := Lib.hid (by
            rw [HNS.out, if_neg]
            rintro ⟨_, h, _⟩
            rw [size_list] at h; omega)
          clear h1 hb h18
          go_wp2
          exact bodyPost_ret (v := .tuple #[.int .i64 0, .bool false]) (by simp [results, Tryd.results25, go_sem]) rfl ⟨by rw [HN.out]; rfl, rfl⟩
        · have h181 : ¬ (18 : Int) < T.size := by omega
          have HS := Lib.hid (And.intro h1 h18)
          clear h1 h18 hb
          go_upto_region 8 with fail
          clear h11 hp1 hs1 hs2 hts
          go_loopw [5, 6] (fun vn vi wr => ∃ (k acc : Nat) (a : Int), vn = .int .i64 a ∧ vi = .int .i64 k ∧ k ≤ T.size ∧ wr = wc ∧ Hid (a = (acc : Int) ∧ acc = readD (T.data.toList.take k) ∧ acc < 10 ^ k ∧ (T.data.toList.take k).all isDig = true)) (fun vn vi _ => T.size - (intOf vi).toNat)
          case atStart => exact ⟨0, 0, 0, rfl, rfl, by omega, rfl, Lib.hid ⟨rfl, rfl, by decide, rfl⟩⟩
          case round =>
            obtain ⟨k, acc, a, rfl, rfl, hk, rfl, HA⟩ := hrel
            by_cases hkn : k < T.size
            · have hk1 : (k : Int) < T.size := by omega
              have htk : T.data.toList.take (k + 1) = T.data.toList.take k ++ [T[k]] := by
                rw [List.take_succ_eq_append_getElem (by rw [size_list]; exact hkn)]; rfl
              have hg := get_data T k hkn
              by_cases hc : isDig T[k] = true
              · have hcb : 48 ≤ T[k].toNat ∧ T[k].toNat ≤ 57 := by unfold isDig at hc; simpa using hc
                have hacc3 : acc < 100000000000000000 := by
                  have h16 : 10 ^ k ≤ 10 ^ 17 := Nat.pow_le_pow_right (by decide) (by have := HS.out.2; omega)
                  have := HA.out.2.2.1
                  omega
                have HN : Hid (10 * a + ((T[k].toNat : Int) - 48) = ((10 * acc + (T[k].toNat - 48) : Nat) : Int) ∧ 10 * acc + (T[k].toNat - 48) = readD (T.data.toList.take (k + 1)) ∧ 10 * acc + (T[k].toNat - 48) < 10 ^ (k + 1) ∧ (T.data.toList.take (k + 1)).all isDig = true) :=
                  Lib.hid ⟨by rw [HA.out.1]; omega, by rw [htk, readD_app, ← HA.out.2.1], by have := HA.out.2.2.1; rw [Nat.pow_succ]; omega, by rw [htk, List.all_append, HA.out.2.2.2, List.all_cons, hc]; rfl⟩
                have a0 : 0 ≤ a := by rw [HA.out.1]; omega
                have a1 : a ≤ 99999999999999999 := by rw [HA.out.1]; omega
                have d1 : (48 : Int) ≤ T[k].toNat := by omega
                have d2 : (T[k].toNat : Int) ≤ 57 := by omega
                clear hc hcb hacc3 htk hg
                go_wp2
                go_roundw
                case rel => exact ⟨k + 1, _, _, rfl, by go_num, by omega, trivial, HN⟩
                case measure => simp [intOf]; omega
              · have HN : Hid (numS s.data.toList = none) := Lib.hid (by
                  rw [HNS.out, if_neg]
                  rintro ⟨_, _, h⟩
                  exact hc (List.all_eq_true.1 h _ (List.mem_of_getElem? hg)))
                have hc2 := hc
                unfold isDig at hc2
                simp at hc2
                clear htk hg
                by_cases h48 : T[k].toNat < 48
                · have d1 : (T[k].toNat : Int) < 48 := by omega
                  clear hc hc2 h48
                  go_wp2
                  exact bodyPost_ret (v := .tuple #[.int .i64 0, .bool false]) (by simp [results, Tryd.results25, go_sem]) rfl ⟨by rw [HN.out]; rfl, rfl⟩
                · have d1 : ¬ (T[k].toNat : Int) < 48 := by omega
                  have d2 : (57 : Int) < T[k].toNat := by have := hc2 (by omega); omega
                  clear hc hc2 h48
                  go_wp2
                  exact bodyPost_ret (v := .tuple #[.int .i64 0, .bool false]) (by simp [results, Tryd.results25, go_sem]) rfl ⟨by rw [HN.out]; rfl, rfl⟩
            · have hk1 : ¬ (k : Int) < T.size := by omega
              have hbk : T.data.toList.take k = T.data.toList := List.take_of_length_le (by rw [size_list]; omega)
              have hall : T.data.toList.all isDig = true := by have := HA.out.2.2.2; rw [hbk] at this; exact this
              have hlt : readD T.data.toList < 10 ^ 18 := readD_lt (by rw [size_list]; have := HS.out.2; omega) hall
              have hR : a = (readD T.data.toList : Int) := by rw [HA.out.1, HA.out.2.1, hbk]
              have HN : Hid (numS s.data.toList = some (if b = true then -(readD T.data.toList : Int) else readD T.data.toList)) := Lib.hid (by
                rw [HNS.out, if_pos]
                exact ⟨fun h => by have := HS.out.1; rw [← size_list, h] at this; simp at this, by rw [size_list]; have := HS.out.2; omega, hall⟩)
              generalize readD T.data.toList = R at *
              subst hR
              have hR2 : R ≤ 1000000000000000000 := by omega
              have hR3 : (R : Int) ≤ 1000000000000000000 := by omega
              clear hall hbk hlt HA
              cases b with
              | true =>
                go_wp2
                exact bodyPost_ret (v := .tuple #[.int .i64 (-R), .bool true]) (by simp [results, Tryd.results25, go_sem]; try omega) rfl ⟨by rw [HN.out]; rfl, rfl⟩
              | false =>
                go_wp2
                exact bodyPost_ret (v := .tuple #[.int .i64 R, .bool true]) (by simp [results, Tryd.results25, go_sem]) rfl ⟨by rw [HN.out]; rfl, rfl⟩
/-- Is it an operator of two? -/
def isTwo (op : ByteArray) : Bool := decide (op = b1 61) || decide (op = b2 33 61) || (tri op).isSome
end Go.Proofs.YthomdgejbkcljaaDoor
