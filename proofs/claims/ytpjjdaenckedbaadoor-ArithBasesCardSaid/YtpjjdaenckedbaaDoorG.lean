/- Expressions: the first row. -/
import Derived.Test.YtpjjdaenckedbaaDoorF
namespace Go.Proofs.YtpjjdaenckedbaaDoor
open Go.RowKit

theorem suf_last (s : Bytes) : [61].isSuffixOf s = (s.getLast? == some 61) := by
  rw [Bool.eq_iff_iff, List.isSuffixOf_iff_suffix]
  constructor
  · rintro ⟨t, rfl⟩; simp
  · intro h
    have h : s.getLast? = some 61 := by simpa using h
    obtain ⟨t, rfl⟩ := List.getLast?_eq_some_iff.1 h
    exact ⟨t, rfl⟩
def cmps : List Bytes := [[61,61],[33,61],[60,61],[62,61]]
theorem isSet_eq (s : Bytes) : isSet s = ([61].isSuffixOf s && !cmps.contains s) := by
  rw [suf_last]
  unfold isSet cmps
  simp only [List.contains_cons, List.contains_nil, Bool.or_false, Bool.or_assoc]
theorem blank_le (s : Bytes) : (blank s).length ≤ s.length := (List.dropWhile_sublist _).length_le
/-- No word begins it: a choice. -/
theorem sets_plain {R : Nat} (HL : Lev R) (b : Nat) (s : Bytes) (w : World) (h : RD w b s (25 - R : Int)) (hs : s.length ≤ 256) (hR : R ≤ 24) (hw : hasLet (word (blank s)) = false) :
    Calls Tryd.prog 15 #[ptr b] w (PE (setsR (PL R) s) b (25 - R) w) := by
  have HE : Hid (setsR (PL R) s = PL R .choice (blank s)) := Lib.hid (by simp only [setsR]; rw [if_neg (by rw [hw]; decide)])
  have c0 := h.c0
  have HW := Lib.hid (word_any b s _ w h (by omega))
  have HLv := Lib.hid (fun w h => HL .choice b (blank s) w h (Nat.le_trans (blank_le s) hs) (by omega))
  clear h HL
  rw [HE.out]
  generalize (25 - R : Int) = d at *
  generalize blank s = t at *
  obtain ⟨X, hX⟩ : ∃ X, PL R .choice t = X := ⟨_, rfl⟩
  rw [hX] at HLv ⊢
  clear hX HE
  cases hx : word t with
  | nil =>
    rw [hx] at HW
    have hb0 : ((B []).toList == []) = true := by rw [B_list]; rfl
    clear hx hw
    go_enter Tryd.func15, Tryd.ntmps15
    go_wp2_with fail
    refine HW.out.mono ?_
    rintro e w1 ⟨rfl, h1, hm1⟩
    have H1 := Lib.hid h1
    have HM1 := Lib.hid hm1
    clear h1 hm1
    go_wp2_with fail
    refine (HLv.out w1 H1.out).mono ?_
    rintro e w9 ⟨hm, he⟩
    cases hx : X with
    | none =>
      rw [hx] at he
      replace he : e = faultE := he
      unfold faultE at he
      subst he
      have HM9 := Lib.hid (HM1.out.trans hm)
      have HX := Lib.hid hx
      clear hm hx
      go_wp2
      exact ⟨rfl, PE.no (by first | exact HX.out | rfl) HM9.out⟩
    | some p =>
      obtain ⟨t9, r9⟩ := p
      rw [hx] at he
      obtain ⟨k9, rfl, ht, hr, hl⟩ := he
      have HM9 := Lib.hid (HM1.out.trans hm)
      have HT9 := Lib.hid ht
      have HR9 := Lib.hid hr
      have HL9 := Lib.hid hl
      have HX := Lib.hid hx
      clear hm hx ht hr hl
      go_wp2
      go_ret
      exact PE.yes (by first | exact HX.out | rfl) HM9.out HT9.out HR9.out HL9.out
  | cons c l =>
    have hc : isLet c = false := by rw [hx] at hw; exact hw
    rw [hx] at HW
    have HC := Lib.hid hc
    have hb0 : ((B (c :: l)).toList == []) = false := by rw [B_list]; rfl
    have hsz : 0 < (B (c :: l)).size := Nat.succ_pos _
    have hg : (B (c :: l))[0] = c := rfl
    clear hx hw hc
    go_enter Tryd.func15, Tryd.ntmps15
    go_wp2_with fail
    refine HW.out.mono ?_
    rintro e w1 ⟨rfl, h1, hm1⟩
    have H1 := Lib.hid h1
    have HM1 := Lib.hid hm1
    clear h1 hm1
    go_wp2_with fail
    refine (letter_any c w1).mono ?_
    rw [HC.out]
    rintro e w2 ⟨rfl, rfl⟩
    go_wp2_with fail
    refine (HLv.out w2 H1.out).mono ?_
    rintro e w9 ⟨hm, he⟩
    cases hx : X with
    | none =>
      rw [hx] at he
      replace he : e = faultE := he
      unfold faultE at he
      subst he
      have HM9 := Lib.hid (HM1.out.trans hm)
      have HX := Lib.hid hx
      clear hm hx
      go_wp2
      exact ⟨rfl, PE.no (by first | exact HX.out | rfl) HM9.out⟩
    | some p =>
      obtain ⟨t9, r9⟩ := p
      rw [hx] at he
      obtain ⟨k9, rfl, ht, hr, hl⟩ := he
      have HM9 := Lib.hid (HM1.out.trans hm)
      have HT9 := Lib.hid ht
      have HR9 := Lib.hid hr
      have HL9 := Lib.hid hl
      have HX := Lib.hid hx
      clear hm hx ht hr hl
      go_wp2
      go_ret
      exact PE.yes (by first | exact HX.out | rfl) HM9.out HT9.out HR9.out HL9.out
theorem TV.put {w : World} {b k : Nat} {t : T} (h : TV w b k t) (o : Obj) : TV (w.alloc o) b k t := h.still ((Mo.refl _ _).alloc o)
theorem kd_at {w : World} (l : List Nat) (o : Obj) : KD ((w.alloc (.cells (l.map ptr).toArray 42)).alloc o) w.heap.size l := by
  show ((w.alloc (.cells (l.map ptr).toArray 42)).alloc o).heap[w.heap.size]? = _
  rw [Below.heap_alloc _ _ _ (by rw [World.size_alloc]; omega)]
  exact at_new _ _
theorem nd_at {w : World} (o : Obj) (sg : Bytes) (kids : Value) (nm : Bytes) (n : Int) : ND ((w.alloc o).alloc (.cells #[.string (B sg), kids, .string (B nm), .int .i64 n] 57)) (w.heap.size + 1) sg kids nm n := by
  have := at_new (w.alloc o) (.cells #[.string (B sg), kids, .string (B nm), .int .i64 n] 57)
  rw [World.size_alloc] at this
  exact this
theorem node_set {w : World} {b k : Nat} {t : T} (hb : b < w.heap.size) (h : TV w b k t) (sg nm : Bytes) :
    TV ((w.alloc (.cells #[ptr k] 42)).alloc (.cells #[.string (B sg), kv w.heap.size 1, .string (B nm), .int .i64 0] 57)) b (w.heap.size + 1) (.set sg nm t) :=
  .set (by omega) (by omega) (nd_at _ sg _ nm 0) (kd_at [k] _) ((h.put _).put _)
theorem RD.put {w : World} {b : Nat} {s : Bytes} {d : Int} (h : RD w b s d) (o : Obj) : RD (w.alloc o) b s d := h.still ((Below.refl _ _).alloc (Nat.le_refl _) o)
def cmpsV : Array Value := #[.string ⟨#[61,61]⟩, .string ⟨#[33,61]⟩, .string ⟨#[60,61]⟩, .string ⟨#[62,61]⟩]
theorem cmps_at (w : World) : StrC (w.alloc (.cells cmpsV 9)) w.heap.size cmps := at_new _ _
theorem sets_no {R : Nat} (HL : Lev R) (b : Nat) (s : Bytes) (w : World) (h : RD w b s (25 - R : Int)) (hs : s.length ≤ 256) (hR : R ≤ 24) (c : UInt8) (l u : Bytes) (hw : word (blank s) = c :: l) (hc : isLet c = true)
    (hu : u = (blank s).drop (c :: l).length) (hset : isSet (sgn (blank u)) = false) :
    Calls Tryd.prog 15 #[ptr b] w (PE (setsR (PL R) s) b (25 - R) w) := by
  have HC := Lib.hid hc
  have HSET := Lib.hid ((isSet_eq _).symm.trans hset)
  have HE : Hid (setsR (PL R) s = PL R .choice s) := Lib.hid (by
    simp only [setsR]
    rw [hw, if_pos (by exact hc), ← hu, hset]; rfl)
  clear hset hc
  have c0 := h.c0
  have HW := Lib.hid (word_any b s _ w h (by omega))
  have HLv := Lib.hid (fun w h => HL .choice b s w h hs (by omega))
  have HB := Lib.hid (blank_le s)
  clear h HL
  rw [HE.out]
  generalize (25 - R : Int) = d at *
  rw [hw] at HW
  have hlw : (c :: l).length ≤ (blank s).length := by rw [← hw]; exact word_le _
  clear hw
  obtain ⟨wd, hwd⟩ : ∃ wd, wd = c :: l := ⟨_, rfl⟩
  have hb0 : ((B wd).toList == []) = false := by rw [B_list, hwd]; rfl
  have hsz : 0 < (B wd).size := by rw [hwd]; exact Nat.succ_pos _
  have hg : (B wd)[0] = c := by subst hwd; rfl
  rw [← hwd] at HW hu hlw
  try rw [← hwd]
  clear hwd
  have he : (B (blank s)).extract (B wd).size (B (blank s)).size = B ((blank s).drop wd.length) := B_drop _ _
  have hle : (B wd).size ≤ (B (blank s)).size := hlw
  have hul : ((blank s).drop wd.length).length ≤ 256 := by
    have := HB.out
    rw [List.length_drop]; omega
  have HUL := Lib.hid hul
  clear hul hlw
  generalize blank s = t at *
  generalize t.drop wd.length = u at *
  have he2 : (B (blank u)).extract (B (sgn (blank u))).size (B (blank u)).size = B ((blank u).drop (sgn (blank u)).length) := B_drop _ _
  have hle2 : (B (sgn (blank u))).size ≤ (B (blank u)).size := sgn_le _
  have HSL : Hid ((sgn (blank u)).length ≤ 1000) := Lib.hid (Nat.le_trans (sgn_le _) (Nat.le_trans (blank_le u) (Nat.le_trans HUL.out (by omega))))
  subst hu
  obtain ⟨X, hX⟩ : ∃ X, PL R .choice s = X := ⟨_, rfl⟩
  rw [hX] at HLv ⊢
  clear hX HE
  have HSG := Lib.hid (fun w h => sign_any b u d w h)
  generalize blank u = y at *
  generalize sgn y = sg at *
  go_enter Tryd.func15, Tryd.ntmps15
  go_wp2_with fail
  refine HW.out.mono ?_
  rintro e w1 ⟨rfl, h1, hm1⟩
  have H1 := Lib.hid h1
  have HM1 := Lib.hid hm1
  have c1 := h1.c0
  have f1 := h1.f 0
  clear h1 hm1 c0
  go_wp2_with fail
  refine (letter_any c w1).mono ?_
  rw [HC.out]
  rintro e w2 ⟨rfl, rfl⟩
  go_wp2_with fail
  refine (HSG.out _ (H1.out.text u)).mono ?_
  rintro e w3 ⟨rfl, h3, hm3⟩
  have H3 := Lib.hid h3
  have HM3 := Lib.hid ((HM1.out.set (i := 0) (.string (B u))).trans hm3)
  have c3 := h3.c0
  have f3 := h3.f 0
  clear h3 hm3 c1 f1
  go_wp2_with fail
  refine (suf_any sg [61] w3 HSL.out).mono ?_
  cases hq : [61].isSuffixOf sg with
  | false =>
    rintro e w4 ⟨rfl, rfl⟩
    have f4 := H3.out.f 0
    have HM5 := Lib.hid (HM3.out.set (i := 0) (.string (B s)))
    clear hq
    go_wp2_with fail
    refine (HLv.out _ (H3.out.text s)).mono ?_
    rintro e w9 ⟨hm, he⟩
    cases hx : X with
    | none =>
      rw [hx] at he
      replace he : e = faultE := he
      unfold faultE at he
      subst he
      have HM9 := Lib.hid (HM5.out.trans hm)
      have HX := Lib.hid hx
      clear hm hx
      go_wp2
      exact ⟨rfl, PE.no (by first | exact HX.out | rfl) HM9.out⟩
    | some p =>
      obtain ⟨t9, r9⟩ := p
      rw [hx] at he
      obtain ⟨k9, rfl, ht, hr, hl⟩ := he
      have HM9 := Lib.hid (HM5.out.trans hm)
      have HT9 := Lib.hid ht
      have HR9 := Lib.hid hr
      have HL9 := Lib.hid hl
      have HX := Lib.hid hx
      clear hm hx ht hr hl
      go_wp2
      go_ret
      exact PE.yes (by first | exact HX.out | rfl) HM9.out HT9.out HR9.out HL9.out
  | true =>
    have HK : Hid (cmps.contains sg = true) := Lib.hid (by
      have := HSET.out
      rw [hq] at this
      simpa using this)
    rintro e w4 ⟨rfl, rfl⟩
    have H4 := Lib.hid (H3.out.put (.cells cmpsV 9))
    have HM4 := Lib.hid (HM3.out.alloc (.cells cmpsV 9))
    have f4 := H4.out.f 0
    have c4 : (w4.alloc (.cells cmpsV 9)).cell? ⟨b, 0, none⟩ = some (.string (B y)) := H4.out.c0
    have HM5 := Lib.hid (HM4.out.set (i := 0) (.string (B s)))
    have HCN := Lib.hid (contains_any w4.heap.size 4 cmps sg _ (by decide) (cmps_at w4))
    rw [HK.out] at HCN
    clear hq
    unfold cmpsV at *
    go_wp2_with fail
    refine HCN.out.mono ?_
    rintro e w5 ⟨rfl, rfl⟩
    go_wp2_with fail
    refine (HLv.out _ (H4.out.text s)).mono ?_
    rintro e w9 ⟨hm, he⟩
    cases hx : X with
    | none =>
      rw [hx] at he
      replace he : e = faultE := he
      unfold faultE at he
      subst he
      have HM9 := Lib.hid (HM5.out.trans hm)
      have HX := Lib.hid hx
      clear hm hx
      go_wp2
      exact ⟨rfl, PE.no (by first | exact HX.out | rfl) HM9.out⟩
    | some p =>
      obtain ⟨t9, r9⟩ := p
      rw [hx] at he
      obtain ⟨k9, rfl, ht, hr, hl⟩ := he
      have HM9 := Lib.hid (HM5.out.trans hm)
      have HT9 := Lib.hid ht
      have HR9 := Lib.hid hr
      have HL9 := Lib.hid hl
      have HX := Lib.hid hx
      clear hm hx ht hr hl
      go_wp2
      go_ret
      exact PE.yes (by first | exact HX.out | rfl) HM9.out HT9.out HR9.out HL9.out
theorem sets_yes {R : Nat} (HL : Lev R) (b : Nat) (s : Bytes) (w : World) (h : RD w b s (25 - R : Int)) (hs : s.length ≤ 256) (hR : R ≤ 24) (c : UInt8) (l u : Bytes) (hw : word (blank s) = c :: l) (hc : isLet c = true)
    (hu : u = (blank s).drop (c :: l).length) (hset : isSet (sgn (blank u)) = true) :
    Calls Tryd.prog 15 #[ptr b] w (PE (setsR (PL R) s) b (25 - R) w) := by
  have HC := Lib.hid hc
  have HSET := Lib.hid ((isSet_eq _).symm.trans hset)
  have HE : Hid (setsR (PL R) s = (PL R .sets ((blank u).drop (sgn (blank u)).length)).map fun p => (.set (sgn (blank u)) (c :: l) p.1, p.2)) := Lib.hid (by
    simp only [setsR]
    rw [hw, if_pos (by exact hc), ← hu, hset]; rfl)
  have hle0 : ((blank u).drop (sgn (blank u)).length).length ≤ 256 := by
    have h1 := blank_le u
    have h2 := blank_le s
    have h3 : u.length ≤ (blank s).length := by rw [hu, List.length_drop]; omega
    rw [List.length_drop]; omega
  clear hset hc
  have c0 := h.c0
  have HW := Lib.hid (word_any b s _ w h (by omega))
  have HLv := Lib.hid (fun w h => HL .sets b ((blank u).drop (sgn (blank u)).length) w h hle0 (by omega))
  have HB := Lib.hid (blank_le s)
  clear h HL hle0
  rw [HE.out]
  generalize (25 - R : Int) = d at *
  rw [hw] at HW
  have hlw : (c :: l).length ≤ (blank s).length := by rw [← hw]; exact word_le _
  clear hw
  obtain ⟨wd, hwd⟩ : ∃ wd, wd = c :: l := ⟨_, rfl⟩
  have hb0 : ((B wd).toList == []) = false := by rw [B_list, hwd]; rfl
  have hsz : 0 < (B wd).size := by rw [hwd]; exact Nat.succ_pos _
  have hg : (B wd)[0] = c := by subst hwd; rfl
  rw [← hwd] at HW hu hlw
  try rw [← hwd]
  clear hwd
  have he : (B (blank s)).extract (B wd).size (B (blank s)).size = B ((blank s).drop wd.length) := B_drop _ _
  have hle : (B wd).size ≤ (B (blank s)).size := hlw
  have hul : ((blank s).drop wd.length).length ≤ 256 := by
    have := HB.out
    rw [List.length_drop]; omega
  have HUL := Lib.hid hul
  clear hul hlw
  generalize blank s = t at *
  generalize t.drop wd.length = u at *
  have he2 : (B (blank u)).extract (B (sgn (blank u))).size (B (blank u)).size = B ((blank u).drop (sgn (blank u)).length) := B_drop _ _
  have hle2 : (B (sgn (blank u))).size ≤ (B (blank u)).size := sgn_le _
  have HSL : Hid ((sgn (blank u)).length ≤ 1000) := Lib.hid (Nat.le_trans (sgn_le _) (Nat.le_trans (blank_le u) (Nat.le_trans HUL.out (by omega))))
  subst hu
  obtain ⟨X, hX⟩ : ∃ X, PL R .sets ((blank u).drop (sgn (blank u)).length) = X := ⟨_, rfl⟩
  rw [hX] at HLv ⊢
  clear hX HE
  have HSG := Lib.hid (fun w h => sign_any b u d w h)
  generalize blank u = y at *
  generalize sgn y = sg at *
  go_enter Tryd.func15, Tryd.ntmps15
  go_wp2_with fail
  refine HW.out.mono ?_
  rintro e w1 ⟨rfl, h1, hm1⟩
  have H1 := Lib.hid h1
  have HM1 := Lib.hid hm1
  have c1 := h1.c0
  have f1 := h1.f 0
  clear h1 hm1 c0
  go_wp2_with fail
  refine (letter_any c w1).mono ?_
  rw [HC.out]
  rintro e w2 ⟨rfl, rfl⟩
  go_wp2_with fail
  refine (HSG.out _ (H1.out.text u)).mono ?_
  rintro e w3 ⟨rfl, h3, hm3⟩
  have H3 := Lib.hid h3
  have HM3 := Lib.hid ((HM1.out.set (i := 0) (.string (B u))).trans hm3)
  have c3 := h3.c0
  have f3 := h3.f 0
  clear h3 hm3 c1 f1
  obtain ⟨z, hz⟩ : ∃ z, y.drop sg.length = z := ⟨_, rfl⟩
  rw [hz] at he2 HLv
  clear hz
  go_wp2_with fail
  refine (suf_any sg [61] w3 HSL.out).mono ?_
  have HQ : Hid ([61].isSuffixOf sg = true ∧ cmps.contains sg = false) := Lib.hid (by
    have := HSET.out
    rw [Bool.and_eq_true, Bool.not_eq_true'] at this
    exact this)
  rw [HQ.out.1]
  rintro e w4 ⟨rfl, rfl⟩
  have H4 := Lib.hid (H3.out.put (.cells cmpsV 9))
  have HM4 := Lib.hid (HM3.out.alloc (.cells cmpsV 9))
  have f4 := H4.out.f 0
  have c4 : (w4.alloc (.cells cmpsV 9)).cell? ⟨b, 0, none⟩ = some (.string (B y)) := H4.out.c0
  have HM5 := Lib.hid (HM4.out.set (i := 0) (.string (B z)))
  have HCN := Lib.hid (contains_any w4.heap.size 4 cmps sg _ (by decide) (cmps_at w4))
  rw [HQ.out.2] at HCN
  unfold cmpsV at *
  go_wp2_with fail
  refine HCN.out.mono ?_
  rintro e w5 ⟨rfl, rfl⟩
  go_wp2_with fail
  refine (HLv.out _ (H4.out.text z)).mono ?_
  rintro e w9 ⟨hm, he⟩
  cases hx : X with
  | none =>
    rw [hx] at he
    replace he : e = faultE := he
    unfold faultE at he
    subst he
    have HM9 := Lib.hid (HM5.out.trans hm)
    have HX := Lib.hid hx
    clear hm hx
    go_wp2
    exact ⟨rfl, PE.no (by first | rfl | (rw [HX.out]; rfl)) HM9.out⟩
  | some p =>
    obtain ⟨t9, r9⟩ := p
    rw [hx] at he
    obtain ⟨k9, rfl, ht, hr, hl⟩ := he
    have HM9 := Lib.hid (HM5.out.trans hm)
    have HT9 := Lib.hid ht
    have HR9 := Lib.hid hr
    have HL9 := Lib.hid hl
    have HX := Lib.hid hx
    clear hm hx ht hr hl
    go_wp2
    go_ret
    exact PE.yes (by first | rfl | (rw [HX.out]; rfl)) ((HM9.out.alloc _).alloc _) (node_set HR9.out.lt HT9.out sg wd) ((HR9.out.put _).put _) HL9.out
theorem fn_sets {R : Nat} (HL : Lev R) : FnC R .sets := by
  intro b s w h hs hR
  show Calls Tryd.prog 15 #[ptr b] w (PE (setsR (PL R) s) b (25 - R) w)
  cases hw : word (blank s) with
  | nil => exact sets_plain HL b s w h hs hR (by rw [hw]; rfl)
  | cons c l =>
    cases hc : isLet c with
    | false => exact sets_plain HL b s w h hs hR (by rw [hw]; exact hc)
    | true =>
      cases hset : isSet (sgn (blank ((blank s).drop (c :: l).length))) with
      | true => exact sets_yes HL b s w h hs hR c l _ hw hc rfl hset
      | false => exact sets_no HL b s w h hs hR c l _ hw hc rfl hset
end Go.Proofs.YtpjjdaenckedbaaDoor
