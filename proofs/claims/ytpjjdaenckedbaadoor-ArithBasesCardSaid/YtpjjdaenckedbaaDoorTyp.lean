/- Expressions in which a number stands, as it is written: what they make. No program in sight. -/
import Derived.Test.YtpjjdaenckedbaaDoorTxt
namespace Go.Proofs.YtpjjdaenckedbaaDoor
open Go.RowKit

theorem isLet_dch : ∀ d, d < 10 → isLet (dch d) = false := by decide
theorem dig_dch {c : UInt8} (h : isDig c = true) : ∃ d, d < 10 ∧ c = dch d := by
  unfold isDig at h
  simp only [Bool.and_eq_true, decide_eq_true_eq] at h
  refine ⟨c.toNat - 48, by omega, ?_⟩
  apply UInt8.toNat_inj.1
  rw [toNat_dch _ (by omega)]; omega
theorem isLet_dig {c : UInt8} (h : isDig c = true) : isLet c = false := by
  obtain ⟨d, hd, rfl⟩ := dig_dch h
  exact isLet_dch d hd
/-- A constant, read. -/
theorem one_const {R : Nat} {c : UInt8} {l r : Bytes} {v : Int} (hc : isDig c = true) (hl : ∀ x ∈ c :: l, isW x = true) (hr : word r = []) (hv : constantS (c :: l) = some v) : PL (R + 1) .one (c :: l ++ r) = some (.num v, r) := by
  have hw : word (c :: l ++ r) = c :: l := word_all hl hr
  have hb : blank (c :: l ++ r) = c :: l ++ r := blank_dig hc _
  rw [one_atom (by rw [hb]; exact sgn_dig hc _), hb]
  unfold atomR
  rw [hw]
  have : hasLet (c :: l) = false := isLet_dig hc
  rw [if_neg (by rw [this]; decide), hv, List.drop_left]
  rfl
theorem decN_cons (u : Nat) : ∃ c l, decN u = c :: l ∧ isDig c = true := by
  cases h : decN u with
  | nil => exact absurd h (decN_ne u)
  | cons c l => exact ⟨c, l, rfl, decN_dig u c (by rw [h]; simp)⟩
theorem one_dec {R u : Nat} {r : Bytes} (hr : word r = []) : PL (R + 1) .one (decN u ++ r) = some (.num (w64 u), r) := by
  obtain ⟨c, l, e, hc⟩ := decN_cons u
  have hv := const_dec u
  have hw : ∀ x ∈ decN u, isW x = true := fun x hx => isW_dig (decN_dig u x hx)
  rw [e] at hv hw ⊢
  exact one_const hc hw hr hv
/-- A row that ends a text. -/
theorem sets_of {R : Nat} {l r : Bytes} {t : T} (hw : hasLet (word (blank l)) = false) (h : rowR (PL R) 10 l = some (t, r)) (hr : decide (sgn (blank r) = [63]) = false) : PL (R + 2) .sets l = some (t, blank r) := by
  rw [sets_row hw, row_blank (fun l => PL_blank R .one l), h]
  simp only [Option.bind_some]
  exact cond_none hr
theorem sets_one {R : Nat} {l r : Bytes} {t : T} (hw : hasLet (word (blank l)) = false) (h : PL R .one l = some (t, r)) (hr : sgn (blank r) = [41] ∨ sgn (blank r) = []) : PL (R + 2) .sets l = some (t, blank r) := by
  have h2 : rowR (PL R) 10 l = some (t, blank r) := row_up (lev := PL R) (j := 0) h 9 (fun i _ hi => ops_ends _ (.inr (.inr hr)) i (by omega))
  have := sets_of hw h2 (by rw [blank_blank]; rcases hr with h | h <;> rw [h] <;> decide)
  rw [blank_blank] at this; exact this
theorem read_of {s r : Bytes} {t : T} (h : PL 25 .sets (blank s) = some (t, r)) (hr : blank r = []) : readS s = some t := by
  unfold readS
  rw [h]
  dsimp only
  rw [if_pos hr]
/-- One comparison. -/
theorem eq_row {R : Nat} {c d : UInt8} {l m r s2 : Bytes} {x y : Int} (hc : isDig c = true) (hl : ∀ z ∈ c :: l, isW z = true) (hx : constantS (c :: l) = some x)
    (hd : isDig d = true) (hm : ∀ z ∈ d :: m, isW z = true) (hy : constantS (d :: m) = some y) (hr : word r = []) (hs : sgn (blank r) = s2) (h2 : s2 = [38,38] ∨ s2 = []) :
    rowR (PL (R + 1)) 8 (c :: l ++ ([32,61,61,32] ++ (d :: m ++ r))) = some (.two [61,61] (.num x) (.num y), blank r) := by
  have hops : ∀ i, i < 8 → (opsAt (9 - i)).contains s2 = false := fun i hi => by
    rcases h2 with rfl | rfl
    · obtain rfl | rfl | rfl | rfl | rfl | rfl | rfl | rfl : i = 0 ∨ i = 1 ∨ i = 2 ∨ i = 3 ∨ i = 4 ∨ i = 5 ∨ i = 6 ∨ i = 7 := by omega
      all_goals decide
    · exact ops_nil _
  have e : sgn (blank ([32,61,61,32] ++ (d :: m ++ r))) = [61,61] := by simp [sgn, sgnIn, signsL, List.isPrefixOf, blank, isB]
  have h0 : rowR (PL (R + 1)) 0 (c :: l ++ ([32,61,61,32] ++ (d :: m ++ r))) = some (.num x, [32,61,61,32] ++ (d :: m ++ r)) :=
    one_const hc hl rfl hx
  have h4 : rowR (PL (R + 1)) 4 (c :: l ++ ([32,61,61,32] ++ (d :: m ++ r))) = some (.num x, blank ([32,61,61,32] ++ (d :: m ++ r))) := row_up h0 3 (fun i _ hi => by
    rw [e]
    obtain rfl | rfl | rfl | rfl : i = 0 ∨ i = 1 ∨ i = 2 ∨ i = 3 := by omega
    all_goals decide)
  have hb : blank ([32,61,61,32] ++ (d :: m ++ r)) = [61,61,32] ++ (d :: m ++ r) := by simp [blank, isB]
  have g0 : rowR (PL (R + 1)) 0 (32 :: (d :: m ++ r)) = some (.num y, r) := by
    show PL (R + 1) .one _ = _
    rw [← PL_blank]
    have : blank (32 :: (d :: m ++ r)) = d :: m ++ r := blank_dig hd _
    rw [this]
    exact one_const hd hm hr hy
  have g4 : rowR (PL (R + 1)) 4 (32 :: (d :: m ++ r)) = some (.num y, blank r) := row_up g0 3 (fun i _ hi => by rw [hs]; exact hops i (by omega))
  have hbl : (blank r).length ≤ r.length := (List.dropWhile_sublist _).length_le
  have h5 : rowR (PL (R + 1)) 5 (c :: l ++ ([32,61,61,32] ++ (d :: m ++ r))) = some (.two [61,61] (.num x) (.num y), blank (blank r)) :=
    row_of h4 (loop_step (by rw [blank_blank, e]) (by decide) (m := .num y) (q := blank r) (by rw [blank_blank, hb]; exact g4) (by rw [hb]; simp; omega) (loop_end (by rw [blank_blank, hs]; exact hops 4 (by omega))))
  have h8 : rowR (PL (R + 1)) 8 (c :: l ++ ([32,61,61,32] ++ (d :: m ++ r))) = some (.two [61,61] (.num x) (.num y), blank (blank (blank r))) := row_up h5 2 (fun i _ hi => by rw [blank_blank, blank_blank, hs]; exact hops i (by omega))
  rw [blank_blank, blank_blank] at h8
  exact h8
/-- A number to three bases. -/
def basesS (n : Nat) : Bytes := decN n ++ ([32,61,61,32] ++ (48 :: octS n ++ ([32,38,38,32] ++ (decN n ++ ([32,61,61,32] ++ (48 :: 120 :: hexS n ++ ([32,38,38,32] ++ (48 :: 88 :: hexS n ++ ([32,61,61,32] ++ (48 :: octS n ++ []))))))))))
theorem val_bases {n : Nat} (h : n < 9223372036854775808) : valueS (basesS n) [] = (1, [], 0) := by
  have hu : w64 n = n := w64_in ⟨by omega, by omega⟩
  obtain ⟨c, l, e, hc⟩ := decN_cons n
  have hv := const_dec n
  rw [hu] at hv
  have hw : ∀ x ∈ decN n, isW x = true := fun x hx => isW_dig (decN_dig n x hx)
  have hlen : (decN n).length ≤ 19 := decN_len (k := 18) (by omega)
  have hall : (basesS n).length ≤ 256 := by
    unfold basesS
    have h1 := digL_len 8 och n 22
    have h2 := digL_len 16 hch n 16
    simp only [List.length_append, List.length_cons, List.length_nil, octS, hexS, h1, h2]
    omega
  have hw8 : ∀ x ∈ 48 :: octS n, isW x = true := fun x hx => by
    rcases List.mem_cons.1 hx with rfl | hx
    · decide
    · exact octS_w n x hx
  have hw16 : ∀ y : UInt8, isW y = true → ∀ x ∈ 48 :: y :: hexS n, isW x = true := fun y hy x hx => by
    rcases List.mem_cons.1 hx with rfl | hx
    · decide
    · rcases List.mem_cons.1 hx with rfl | hx
      · exact hy
      · exact hexS_w n x hx
  have h8 := const_oct h
  have hx := const_hex 120 (.inl rfl) h
  have hX := const_hex 88 (.inr rfl) h
  unfold basesS at hall ⊢
  rw [e] at hv hw hall ⊢
  have s1 : ∀ Y : Bytes, sgn (blank ([32,38,38,32] ++ Y)) = [38,38] := fun Y => by simp [sgn, sgnIn, signsL, List.isPrefixOf, blank, isB]
  have b1 : ∀ Y : Bytes, blank ([32,38,38,32] ++ Y) = [38,38,32] ++ Y := fun Y => by simp [blank, isB]
  have k3 := eq_row (R := 22) (c := 48) (d := 48) (r := []) (by decide) (hw16 88 (by decide)) hX (by decide) hw8 h8 rfl rfl (.inr rfl)
  have k2 := eq_row (R := 22) (c := c) (d := 48) (r := [32,38,38,32] ++ (48 :: 88 :: hexS n ++ ([32,61,61,32] ++ (48 :: octS n ++ [])))) hc hw hv (by decide) (hw16 120 (by decide)) hx rfl (s1 _) (.inl rfl)
  have k1 := eq_row (R := 22) (c := c) (d := 48) (r := [32,38,38,32] ++ (c :: l ++ ([32,61,61,32] ++ (48 :: 120 :: hexS n ++ ([32,38,38,32] ++ (48 :: 88 :: hexS n ++ ([32,61,61,32] ++ (48 :: octS n ++ [])))))))) hc hw hv (by decide) hw8 h8 rfl (s1 _) (.inl rfl)
  have hrb : ∀ k Y, rowR (PL 23) k (blank Y) = rowR (PL 23) k Y := row_blank (fun l => PL_blank 23 .one l)
  have r9 : rowR (PL 23) 9 (c :: l ++ ([32,61,61,32] ++ (48 :: octS n ++ ([32,38,38,32] ++ (c :: l ++ ([32,61,61,32] ++ (48 :: 120 :: hexS n ++ ([32,38,38,32] ++ (48 :: 88 :: hexS n ++ ([32,61,61,32] ++ (48 :: octS n ++ [])))))))))))
      = some (.two [38,38] (.two [38,38] (.two [61,61] (.num n) (.num n)) (.two [61,61] (.num n) (.num n))) (.two [61,61] (.num n) (.num n)), blank []) := by
    refine row_of k1 (loop_step (by rw [blank_blank]; exact s1 _) (by decide) (m := .two [61,61] (.num n) (.num n)) (q := blank ([32,38,38,32] ++ (48 :: 88 :: hexS n ++ ([32,61,61,32] ++ (48 :: octS n ++ []))))) ?_ ?_ (loop_step (by rw [blank_blank]; exact s1 _) (by decide) (m := .two [61,61] (.num n) (.num n)) (q := []) ?_ ?_ (loop_end (ops_nil _))))
    · rw [blank_blank, b1]
      show rowR (PL 23) 8 (32 :: (c :: l ++ _)) = _
      rw [← hrb, show blank (32 :: (c :: l ++ ([32,61,61,32] ++ (48 :: 120 :: hexS n ++ ([32,38,38,32] ++ (48 :: 88 :: hexS n ++ ([32,61,61,32] ++ (48 :: octS n ++ [])))))))) = _ from blank_dig hc _]
      exact k2
    · rw [b1, b1]; simp; omega
    · rw [blank_blank, b1]
      show rowR (PL 23) 8 (32 :: (48 :: 88 :: hexS n ++ _)) = _
      rw [← hrb, show blank (32 :: (48 :: 88 :: hexS n ++ ([32,61,61,32] ++ (48 :: octS n ++ [])))) = _ from blank_dig (c := 48) (by decide) _]
      exact k3
    · rw [b1]; simp
  have r10 := row_up r9 0 (fun _ _ _ => ops_nil _)
  have hbl : ∀ Y, blank (c :: l ++ Y) = c :: l ++ Y := fun Y => blank_dig hc _
  have hwd : ∀ Y, hasLet (word (blank (c :: l ++ ([32,61,61,32] ++ Y)))) = false := fun Y => by
    rw [hbl, word_all hw rfl]; exact isLet_dig hc
  have hp := sets_of (R := 23) (hwd _) r10 rfl
  have hread := read_of (by rw [hbl]; exact hp) rfl
  refine valueS_of hall (by rw [hbl]; simp) hread ?_
  have ee : ev [] (.two [61,61] (.num n) (.num n)) [] = .ok (1, []) := ev_two rfl (ev_num _ _ _) (ev_num _ _ _) (by rw [tw_eq]; simp [truthS])
  have ea : ∀ a b, ev [] a [] = .ok (1, []) → ev [] b [] = .ok (1, []) → ev [] (.two [38,38] a b) [] = .ok (1, []) := fun a b ha hb => by
    unfold ev
    rw [ha]
    simp only [bindE]
    rw [if_neg (by decide), if_pos trivial, if_neg (by decide), hb]
    rfl
  exact ea _ _ (ea _ _ ee ee) ee
theorem val_ten {n : Nat} (h : n < 9223372036854775808) : valueS (decN n) [] = ((n : Int), [], 0) := by
  have hu : w64 n = n := w64_in ⟨by omega, by omega⟩
  have hlen : (decN n).length ≤ 19 := decN_len (k := 18) (by omega)
  have h1 := one_dec (R := 22) (u := n) (r := []) rfl
  rw [List.append_nil, hu] at h1
  obtain ⟨c, l, e, hc⟩ := decN_cons n
  have hb : blank (decN n) = decN n := by rw [e]; exact blank_dig hc _
  have hwd : hasLet (word (blank (decN n))) = false := by
    have := word_all (l := decN n) (r := []) (fun x hx => isW_dig (decN_dig n x hx)) rfl
    rw [List.append_nil] at this
    rw [hb, this, e]; exact isLet_dig hc
  have hp := sets_one (R := 23) hwd h1 (.inr rfl)
  exact valueS_of (by omega) (by rw [hb, e]; simp) (read_of (by rw [hb]; exact hp) rfl) (ev_num _ _ _)

/-! Names set. -/
def numT (n : Int) : T := if n < 0 then .un [45] (.num (w64 n.natAbs)) else .num (w64 n.natAbs)
theorem ev_numT {l st : List VarS} {n : Int} (h : IsI n) : ev l (numT n) st = .ok (n, st) := by
  unfold numT
  by_cases hn : n < 0
  · rw [if_pos hn, ev_un (ev_num _ _ _)]
    congr 2
    show w64 (0 - w64 n.natAbs) = n
    rw [w64_eq, w64_eq]; unfold IsI at h; omega
  · rw [if_neg hn, ev_num]
    congr 2
    rw [w64_eq]; unfold IsI at h; omega
theorem sgn_minus {c : UInt8} (h : isDig c = true) (l : Bytes) : sgn (45 :: c :: l) = [45] := by
  have : ((61 : UInt8) == c) = false := by
    rw [beq_eq_false_iff_ne]; rintro rfl; revert h; decide
  simp [sgn, sgnIn, signsL, List.isPrefixOf, this]
theorem one_decI {R : Nat} {n : Int} {r : Bytes} (hr : word r = []) : PL (R + 2) .one (decI n ++ r) = some (numT n, r) := by
  unfold decI numT
  by_cases hn : n < 0
  · rw [if_pos hn, if_pos hn]
    have h1 := one_dec (R := R) (u := n.natAbs) hr
    obtain ⟨c, l, e, hc⟩ := decN_cons n.natAbs
    have hs : sgn (blank (45 :: decN n.natAbs ++ r)) = [45] := by
      rw [e]
      show sgn (45 :: c :: (l ++ r)) = [45]
      exact sgn_minus hc _
    rw [PL_one]
    simp only [oneR]
    rw [hs, if_pos (by decide)]
    show unR [45] (PL (R + 1) .one (decN n.natAbs ++ r)) = _
    rw [h1]; rfl
  · rw [if_neg hn, if_neg hn]
    exact one_dec hr
theorem blank_decI (n : Int) (r : Bytes) : blank (32 :: (decI n ++ r)) = decI n ++ r := by
  show blank (decI n ++ r) = _
  unfold decI
  by_cases hn : n < 0
  · rw [if_pos hn]; rfl
  · rw [if_neg hn]
    obtain ⟨c, l, e, hc⟩ := decN_cons n.natAbs
    rw [e]; exact blank_dig hc _
theorem word_decI (n : Int) {r : Bytes} (hr : word r = []) : hasLet (word (decI n ++ r)) = false := by
  unfold decI
  by_cases hn : n < 0
  · rw [if_pos hn]; rfl
  · rw [if_neg hn, word_all (fun x hx => isW_dig (decN_dig _ x hx)) hr]
    obtain ⟨c, l, e, hc⟩ := decN_cons n.natAbs
    rw [e]; exact isLet_dig hc
theorem sets_val (R : Nat) (n : Int) (r : Bytes) : PL (R + 4) .sets (32 :: (decI n ++ 41 :: r)) = some (numT n, 41 :: r) := by
  have h : PL (R + 2) .one (32 :: (decI n ++ 41 :: r)) = some (numT n, 41 :: r) := by
    rw [← PL_blank, blank_decI]; exact one_decI rfl
  exact sets_one (by rw [blank_decI]; exact word_decI n rfl) h (.inl (sgn_41 _))
theorem sets_lit1 (R : Nat) (r : Bytes) : PL (R + 4) .sets (32 :: 49 :: 41 :: r) = some (.num 1, 41 :: r) := by
  have := sets_val R 1 r
  rw [show decI 1 = [49] from by unfold decI; rw [if_neg (by decide)]; exact (decN_lt (by decide)).trans rfl, show numT 1 = .num 1 from rfl] at this
  exact this
theorem PL_setsR (R : Nat) (l : Bytes) : PL (R + 1) .sets l = setsR (PL R) l := rfl
theorem sets_name (R : Nat) (r : Bytes) : PL (R + 4) .sets (32 :: 121 :: 41 :: r) = some (.name [121], 41 :: r) := by
  have h : PL (R + 2) .one (32 :: 121 :: 41 :: r) = some (.name [121], 41 :: r) := by
    rw [one_atom (by simp [sgn, sgnIn, signsL, List.isPrefixOf, blank, isB])]
    rfl
  have h2 : rowR (PL (R + 2)) 10 (32 :: 121 :: 41 :: r) = some (.name [121], 41 :: r) := row_up (lev := PL (R + 2)) (j := 0) h 9 (fun i _ hi => ops_ends _ (.inr (.inr (.inl (sgn_41 _)))) i (by omega))
  rw [PL_setsR (R + 3)]
  unfold setsR
  rw [if_pos (by rfl), if_neg (by rw [show blank ((blank (32 :: 121 :: 41 :: r)).drop (word (blank (32 :: 121 :: 41 :: r))).length) = 41 :: r from rfl, sgn_41]; decide), PL_choice, h2]
  simp only [Option.bind_some]
  exact cond_none (by rw [show blank (41 :: r) = 41 :: r from rfl, sgn_41]; decide)
/-- A name set, within brackets. -/
theorem set_par {R : Nat} {w : UInt8} {op V r : Bytes} {t : T} (hw : isLet w = true) (hwb : isB w = false) (ho : sgn (op ++ 32 :: (V ++ 41 :: r)) = op) (hb : blank (32 :: (op ++ 32 :: (V ++ 41 :: r))) = op ++ 32 :: (V ++ 41 :: r)) (hs : isSet op = true) (hv : PL R .sets (32 :: (V ++ 41 :: r)) = some (t, 41 :: r)) :
    PL (R + 2) .one (40 :: w :: 32 :: (op ++ 32 :: (V ++ 41 :: r))) = some (.set op [w] t, r) := by
  rw [one_paren (X := w :: 32 :: (op ++ 32 :: (V ++ 41 :: r))) rfl]
  have hbl : ∀ Y, blank (w :: Y) = w :: Y := fun Y => List.dropWhile_cons_of_neg (by rw [hwb]; decide)
  have hwd : ∀ Y, word (w :: 32 :: Y) = [w] := fun Y => by
    show (w :: 32 :: Y).takeWhile isW = [w]
    rw [List.takeWhile_cons_of_pos (by unfold isW; rw [hw]; rfl), List.takeWhile_cons_of_neg (by decide)]
  have h1 : PL (R + 1) .sets (w :: 32 :: (op ++ 32 :: (V ++ 41 :: r))) = some (.set op [w] t, 41 :: r) := by
    rw [PL_setsR]
    unfold setsR
    rw [hbl, hwd, if_pos (by exact hw), show blank ((w :: 32 :: (op ++ 32 :: (V ++ 41 :: r))).drop [w].length) = op ++ 32 :: (V ++ 41 :: r) from hb, ho, if_pos hs, List.drop_left, hv]
    rfl
  rw [h1]
  simp only [closeR]
  rw [show blank (41 :: r) = 41 :: r from rfl, if_pos (sgn_41 _)]
  rfl
def p4S : Bytes := 40 :: 120 :: 32 :: ([60,60,61] ++ 32 :: ([49] ++ 41 :: []))
def p3S (k : Int) : Bytes := 40 :: 121 :: 32 :: ([43,61] ++ 32 :: (decI k ++ 41 :: ([32,43,32] ++ p4S)))
def p2S (k : Int) : Bytes := 40 :: 120 :: 32 :: ([61] ++ 32 :: ([121] ++ 41 :: ([32,43,32] ++ p3S k)))
def setS (n k : Int) : Bytes := 40 :: 121 :: 32 :: ([61] ++ 32 :: (decI n ++ 41 :: ([32,43,32] ++ p2S k)))
theorem read_set (n k : Int) : readS (setS n k) = some (.two [43] (.two [43] (.two [43] (.set [61] [121] (numT n)) (.set [61] [120] (.name [121]))) (.set [43,61] [121] (numT k))) (.set [60,60,61] [120] (.num 1))) := by
  have sg : ∀ Y : Bytes, sgn (blank ([32,43,32] ++ Y)) = [43] := fun Y => by simp [sgn, sgnIn, signsL, List.isPrefixOf, blank, isB]
  have bg : ∀ Y : Bytes, blank ([32,43,32] ++ Y) = [43,32] ++ Y := fun Y => by simp [blank, isB]
  have p4 := set_par (R := 21) (w := 120) (op := [60,60,61]) (V := [49]) (r := []) (by decide) (by decide) (by simp [sgn, sgnIn, signsL, List.isPrefixOf]) (by rfl) (by decide) (sets_lit1 17 [])
  have p3 := fun r => set_par (R := 21) (w := 121) (op := [43,61]) (V := decI k) (r := r) (by decide) (by decide) (by simp [sgn, sgnIn, signsL, List.isPrefixOf]) (by rfl) (by decide) (sets_val 17 k r)
  have p2 := fun r => set_par (R := 21) (w := 120) (op := [61]) (V := [121]) (r := r) (by decide) (by decide) (by simp [sgn, sgnIn, signsL, List.isPrefixOf]) (by rfl) (by decide) (sets_name 17 r)
  have p1 := fun r => set_par (R := 21) (w := 121) (op := [61]) (V := decI n) (r := r) (by decide) (by decide) (by simp [sgn, sgnIn, signsL, List.isPrefixOf]) (by rfl) (by decide) (sets_val 17 n r)
  have hrb : ∀ Y, rowR (PL 23) 1 (32 :: 40 :: Y) = rowR (PL 23) 1 (40 :: Y) := fun Y => by
    have := row_blank (fun l => PL_blank 23 .one l) 1 (32 :: 40 :: Y)
    rw [blank_par] at this; exact this.symm
  have up : ∀ {l t Y}, PL 23 .one l = some (t, [32,43,32] ++ Y) → rowR (PL 23) 1 l = some (t, [43,32] ++ Y) := fun {l t Y} h => by
    have := row_up (lev := PL 23) (j := 0) h 0 (fun i _ hi => by
      rw [sg]
      obtain rfl : i = 0 := by omega
      decide)
    rw [bg] at this; exact this
  have q4 : rowR (PL 23) 1 p4S = _ := row_up (lev := PL 23) (j := 0) p4 0 (fun _ _ _ => ops_nil _)
  have q3 : rowR (PL 23) 1 (p3S k) = _ := up (p3 ([32,43,32] ++ p4S))
  have q2 : rowR (PL 23) 1 (p2S k) = _ := up (p2 ([32,43,32] ++ p3S k))
  have q1 : rowR (PL 23) 1 (setS n k) = _ := up (p1 ([32,43,32] ++ p2S k))
  have sp : ∀ Y : Bytes, sgn (blank ([43,32] ++ Y)) = [43] := fun Y => by simp [sgn, sgnIn, signsL, List.isPrefixOf, blank, isB]
  have bp : ∀ Y : Bytes, blank ([43,32] ++ Y) = [43,32] ++ Y := fun Y => by simp [blank, isB]
  have r2 : rowR (PL 23) 2 (setS n k) = some (.two [43] (.two [43] (.two [43] (.set [61] [121] (numT n)) (.set [61] [120] (.name [121]))) (.set [43,61] [121] (numT k))) (.set [60,60,61] [120] (.num 1)), blank []) := by
    refine row_of q1 (loop_step (sp _) (by decide) (by rw [bp]; exact (hrb _).trans q2) ?_ (loop_step (sp _) (by decide) (by rw [bp]; exact (hrb _).trans q3) ?_ (loop_step (sp _) (by decide) (by rw [bp]; exact (hrb _).trans q4) ?_ (loop_end (ops_nil _)))))
    · simp [p2S]
    · simp [p3S]; omega
    · simp [blank, p4S]
  have r10 := row_up r2 7 (fun _ _ _ => ops_nil _)
  have hb : blank (setS n k) = setS n k := rfl
  have hp := sets_of (R := 23) (by rw [hb]; rfl) r10 rfl
  exact read_of (by rw [hb]; exact hp) rfl
theorem val_set {n k : Int} (hn : IsI n) (hk : IsI k) : valueS (setS n k) [] = (w64 (w64 (w64 (n + n) + w64 (n + k)) + w64 (n * 2)), [⟨[121], decI (w64 (n + k))⟩, ⟨[120], decI (w64 (n * 2))⟩], 0) := by
  have hlen : ∀ m, IsI m → (decI m).length ≤ 20 := fun m hm => by
    have : (decN m.natAbs).length ≤ 19 := decN_len (k := 18) (by unfold IsI at hm; omega)
    unfold decI
    by_cases h : m < 0
    · rw [if_pos h]; simp; omega
    · rw [if_neg h]; omega
  refine valueS_of (by have := hlen n hn; have := hlen k hk; simp [setS, p2S, p3S, p4S]; omega) (fun e => by cases e) (read_set n k) ?_
  have e1 : ev [] (.set [61] [121] (numT n)) [] = .ok (n, [⟨[121], decI n⟩]) := by
    unfold ev
    rw [ev_numT hn]; rfl
  have e2 : ev [] (.set [61] [120] (.name [121])) [⟨[121], decI n⟩] = .ok (n, [⟨[121], decI n⟩, ⟨[120], decI n⟩]) := by
    unfold ev
    rw [ev_name (n := n) (by exact numV_dec hn)]; rfl
  have e3 : ev [] (.set [43,61] [121] (numT k)) [⟨[121], decI n⟩, ⟨[120], decI n⟩] = .ok (w64 (n + k), [⟨[121], decI (w64 (n + k))⟩, ⟨[120], decI n⟩]) := by
    unfold ev
    rw [ev_numT hk]
    simp only [bindE]
    unfold setE
    rw [if_neg (by decide), show lookV [] [⟨[121], decI n⟩, ⟨[120], decI n⟩] [121] = decI n from rfl, numV_dec hn]
    rfl
  have e4 : ev [] (.set [60,60,61] [120] (.num 1)) [⟨[121], decI (w64 (n + k))⟩, ⟨[120], decI n⟩] = .ok (w64 (n * 2), [⟨[121], decI (w64 (n + k))⟩, ⟨[120], decI (w64 (n * 2))⟩]) := by
    unfold ev
    rw [ev_num]
    simp only [bindE]
    unfold setE
    rw [if_neg (by decide), show lookV [] [⟨[121], decI (w64 (n + k))⟩, ⟨[120], decI n⟩] [120] = decI n from rfl, numV_dec hn]
    rfl
  exact ev_two rfl (ev_two rfl (ev_two rfl e1 e2 (tw_add _ _)) e3 (tw_add _ _)) e4 (tw_add _ _)
end Go.Proofs.YtpjjdaenckedbaaDoor
