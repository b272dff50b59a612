import Derived.Test.YtafonmnfeibaiaaSh
import Derived.Test.YtafonmnfeibaiaaITMo
namespace Go.Proofs.Ytafonmnfeibaiaa
open Go.RowKit

/-- A row of texts that came in. -/
def Strs (w : World) (B : Nat) (a : Option Addr) (len : Nat) : Prop := ∀ j, j < len → ∃ b off s, a = some ⟨b, off, none⟩ ∧ b < B ∧ w.cell? ⟨b, off + j, none⟩ = some (.string s) ∧ s.size ≤ maxLen
def Bools (w : World) (B : Nat) (a : Option Addr) (len : Nat) : Prop := ∀ j, j < len → ∃ b off x, a = some ⟨b, off, none⟩ ∧ b < B ∧ w.cell? ⟨b, off + j, none⟩ = some (.bool x)
def byt : IT.Bytes := [98, 121, 116, 101, 115]
def ms1 : IT.Tr := IT.upd (IT.rootT 493 0 0) 2 (some (IT.dirN 493 [] 1 2))
def ms2 : IT.Tr := IT.upd ms1 3 (some (IT.dirN 493 [] 1 3))
def ms3 : IT.Tr := IT.upd ms2 4 (some (IT.fileN []))
def ms4 : IT.Tr := IT.entT ms3 1 2 [97] (IT.dirN 493 [] 0 1) (IT.dirN 493 [] 1 2)
def ms5 : IT.Tr := IT.entT ms4 1 3 [98] (IT.dirN 493 [([97], 2)] 0 1) (IT.dirN 493 [] 1 3)
def ms6 : IT.Tr := IT.entT ms5 2 4 [102] (IT.dirN 493 [] 1 1) (IT.fileN [])
def ms7 : IT.Tr := IT.upd ms6 4 (some (IT.fileN byt))
theorem rt493 : rt 493 0 0 := by unfold rt; decide +kernel
theorem rt420 : rt 420 0 0 := by unfold rt; decide +kernel
/-- The first that is free. -/
theorem made {T T' : IT.Tr} {kind mo : Int} {i : Nat} {r : Int} (h : IT.isMake rt T kind mo 0 0 0 i r T') (hr : rt mo 0 0) (hk : kind = 0 ∨ kind = 1) {j : Nat} (hj1 : 1 ≤ j) (hj2 : j ≤ 200) (hj : T j = none) (hf : ∀ k, 1 ≤ k → k < j → T k ≠ none) :
    i = j ∧ r = 0 ∧ T' = IT.upd T j (some ⟨kind, mo, 0, 0, if kind = 2 then 0 else 0, 1, [], [], if kind = 1 then j else 0⟩) := by
  unfold IT.isMake at h
  rw [if_neg (by rintro (a | a | a); omega; omega; exact a hr), if_neg (by omega), if_neg (fun hh => hh j hj1 hj2 hj)] at h
  obtain ⟨h1, h2, h3, h4, h5, h6⟩ := h
  have hi : i = j := by
    by_cases e : i < j
    · exact absurd h4 (hf i h2 e)
    · by_cases e2 : j < i
      · exact absurd hj (h5 j hj1 e2)
      · omega
  subst hi
  exact ⟨rfl, h1, h6⟩
theorem ms_make1 {i : Nat} {r : Int} {T' : IT.Tr} (h : IT.isMake rt (IT.rootT 493 0 0) 1 493 0 0 0 i r T') : i = 2 ∧ r = 0 ∧ T' = ms1 := by
  refine made (j := 2) h rt493 (.inr rfl) (by omega) (by omega) rfl (fun k h1 h2 => ?_)
  obtain rfl : k = 1 := by omega
  intro e; cases e
theorem ms_make2 {i : Nat} {r : Int} {T' : IT.Tr} (h : IT.isMake rt ms1 1 493 0 0 0 i r T') : i = 3 ∧ r = 0 ∧ T' = ms2 := by
  refine made (j := 3) h rt493 (.inr rfl) (by omega) (by omega) rfl (fun k h1 h2 => ?_)
  rcases (show k = 1 ∨ k = 2 by omega) with rfl | rfl <;> (intro e; cases e)
theorem ms_make3 {i : Nat} {r : Int} {T' : IT.Tr} (h : IT.isMake rt ms2 0 420 0 0 0 i r T') : i = 4 ∧ r = 0 ∧ T' = ms3 := by
  refine made (j := 4) h rt420 (.inl rfl) (by omega) (by omega) rfl (fun k h1 h2 => ?_)
  rcases (show k = 1 ∨ k = 2 ∨ k = 3 by omega) with rfl | rfl | rfl <;> (intro e; cases e)
/-- An entry where there is none. -/
theorem entered_ok {T T' : IT.Tr} {d x : Nat} {nm : IT.Bytes} {r : Int} (h : IT.isEnter okN T d nm x r T') {n m : IT.Nd} (hd : T d = some n) (hx : T x = some m) (hk : n.kind = 1) (hok : okN nm = true) (hf : IT.findN nm n.names = none) (hx1 : x ≠ 1) (hl : IT.lnk T x = 0) (hn : n.names.length < 40) (hb : m.kind = 1 → ¬ IT.Bel T x d) : r = 0 ∧ T' = IT.entT T d x nm n m := by
  unfold IT.isEnter at h
  rw [hd, hx] at h
  dsimp only at h
  rw [if_neg (fun hh => hh hk), if_neg (by rw [hok]; intro e; cases e), if_neg (fun hh => hh hf), if_neg (by rw [hl]; omega), if_neg (by omega), if_neg (fun hh => hb hh.1 hh.2)] at h
  exact h
set_option maxRecDepth 100000 in
theorem ms_enter1 {r : Int} {T' : IT.Tr} (h : IT.isEnter okN ms3 1 [97] 2 r T') : r = 0 ∧ T' = ms4 :=
  entered_ok h (show ms3 1 = some (IT.dirN 493 [] 0 1) by decide +kernel) (show ms3 2 = some (IT.dirN 493 [] 1 2) by decide +kernel) rfl (by decide +kernel) rfl (by decide) (by decide +kernel) (by decide) (fun _ => IT.bel_top (show ms3 1 = some (IT.dirN 493 [] 0 1) by decide +kernel) (by decide) rfl)
set_option maxRecDepth 100000 in
theorem ms_enter2 {r : Int} {T' : IT.Tr} (h : IT.isEnter okN ms4 1 [98] 3 r T') : r = 0 ∧ T' = ms5 :=
  entered_ok h (show ms4 1 = some (IT.dirN 493 [([97], 2)] 0 1) by decide +kernel) (show ms4 3 = some (IT.dirN 493 [] 1 3) by decide +kernel) rfl (by decide +kernel) (by decide +kernel) (by decide) (by decide +kernel) (by decide) (fun _ => IT.bel_top (show ms4 1 = some (IT.dirN 493 [([97], 2)] 0 1) by decide +kernel) (by decide) rfl)
set_option maxRecDepth 100000 in
theorem ms_enter3 {r : Int} {T' : IT.Tr} (h : IT.isEnter okN ms5 2 [102] 4 r T') : r = 0 ∧ T' = ms6 :=
  entered_ok h (show ms5 2 = some (IT.dirN 493 [] 1 1) by decide +kernel) (show ms5 4 = some (IT.fileN []) by decide +kernel) rfl (by decide +kernel) rfl (by decide) (by decide +kernel) (by decide) (fun hh => absurd hh (by decide))
set_option maxRecDepth 100000 in
theorem ms_put {r : Int} {T' : IT.Tr} (h : IT.isPut ms6 4 0 byt r T') : r = 0 ∧ T' = ms7 := by
  unfold IT.isPut at h
  rw [show ms6 4 = some (IT.fileN []) by decide +kernel] at h
  dsimp only at h
  rw [if_neg (by decide), if_neg (by decide), if_neg (by decide), if_neg (by decide)] at h
  exact h
set_option maxRecDepth 100000 in
theorem ms_is : ms7 = IT.movesT byt 2 [102] := by
  funext k
  by_cases h1 : k = 1
  · subst h1; decide +kernel
  by_cases h2 : k = 2
  · subst h2; decide +kernel
  by_cases h3 : k = 3
  · subst h3; decide +kernel
  by_cases h4 : k = 4
  · subst h4; decide +kernel
  unfold IT.movesT ms7 ms6 ms5 ms4 ms3 ms2 ms1 IT.entT IT.upd IT.rootT
  simp only [h1, h2, h3, h4, if_false]
theorem mv_look {d : Nat} (hd : d = 2 ∨ d = 3) {nm : IT.Bytes} (hok : okN nm = true) : lookT (IT.movesT byt d nm) d nm = some 4 := by
  have h2 := of_decide_eq_true hok
  have e : IT.movesT byt d nm d = some (IT.dirN 493 [(nm, 4)] 1 1) := by rcases hd with rfl | rfl <;> rfl
  unfold lookT
  rw [e]
  dsimp only
  rw [if_neg (fun hh => hh rfl), if_neg h2.2.2.1, if_neg h2.2.2.2.1]
  show IT.findN nm [(nm, 4)] = some 4
  unfold IT.findN; simp
theorem mv_names {d : Nat} (hd : d = 2 ∨ d = 3) (nm : IT.Bytes) : (namesT (IT.movesT byt d nm) 2).length = (if d = 2 then 1 else 0) ∧ (namesT (IT.movesT byt d nm) 3).length = (if d = 2 then 0 else 1) := by
  rcases hd with rfl | rfl <;> exact ⟨rfl, rfl⟩
theorem mv_lnk {d : Nat} (hd : d = 2 ∨ d = 3) (nm : IT.Bytes) : IT.lnk (IT.movesT byt d nm) 4 = 1 := by
  rcases hd with rfl | rfl <;> kernel_rfl

theorem mv_stat {d : Nat} (hd : d = 2 ∨ d = 3) (nm : IT.Bytes) : statV (IT.movesT byt d nm) 4 = .agg #[.int .i64 4, .int .i64 0, .int .i64 420, .int .i64 0, .int .i64 0, .int .i64 1, .int .i64 5, .int .i64 0] := by
  show infoT (IT.movesT byt d nm) 4 (IT.fileN byt) = _
  unfold infoT
  rw [mv_lnk hd]; rfl
theorem ok_x : okN [120] = true := by decide +kernel
theorem ok_y : okN [121] = true := by decide +kernel
theorem ok_z : okN [122] = true := by decide +kernel
theorem ret_boolE {a b : Bool} (h : a = b) : Ending.returned (.bool a) = .returned (.bool b) := by rw [h]
theorem names_len {w : World} {t : Nat} {S : Tab} {T : IT.Tr} (h : Tre w t S T) (ki : Int) {n : Nat} (hn : (namesT T ki.toNat).length = n) :
    Calls Try.prog 27 #[.pointer (some ⟨t, 0, none⟩), .int .i64 ki] w fun e w' => ∃ a cap, e = .returned (.slice a n cap) ∧ Below w.heap.size w w' :=
  (names_any h ki).mono (by
    rintro e w' ⟨v, rfl, hr, _, hb⟩
    rcases hr.2 with ⟨rfl, h0⟩ | ⟨g, cap, _, rfl, _⟩
    · exact ⟨none, 0, by rw [← hn, h0], hb⟩
    · exact ⟨_, cap, by rw [← hn], hb⟩)
/-- Where the loop of InodeMoves stands. -/
def MovIn (B : Nat) (w0 wr : World) (t : Nat) (di : Int) (nm : ByteArray) : Prop := (di = 2 ∨ di = 3) ∧ okN (bs nm) = true ∧ ∃ S, Tro B w0 wr t S (IT.movesT byt di.toNat (bs nm))
theorem nm_x (s : ByteArray) (l : List UInt8) (h : ¬ bs s = l) : (s.toList == l) = false := by
  rw [ByteArray.toList_eq]; exact beq_eq_false_iff_ne.2 h
set_option maxRecDepth 100000 in
set_option maxHeartbeats 4000000 in
theorem moves_any (a0 a1 : Option Addr) (len0 cap0 len1 cap1 : Nat) (w : World) (hl0 : len0 ≤ maxLen) (hl1 : len1 ≤ maxLen) (h0 : Strs w w.heap.size a0 len0) (h1 : Bools w w.heap.size a1 len1) :
    Calls Try.prog 5 #[.slice a0 len0 cap0, .slice a1 len1 cap1] w fun e w' => e = .returned (.bool true) ∧ Below w.heap.size w w' := by
  unfold maxLen at hl0 hl1
  have HS := Lib.hid h0
  have HN := Lib.hid h1
  clear h0 h1
  go_enter Try.func5, Try.ntmps5
  go_wp2_with fail
  refine (shown_any w).mono ?_
  rintro e w1 ⟨rfl, hb⟩
  have HB1 := Lib.hid hb
  clear hb
  go_wp2_with fail
  refine (new_ok _ _ _ _ (by decide +kernel)).mono ?_
  rintro e w2 ⟨t, S0, rfl, ho⟩
  have H0 := Lib.hid ho
  clear ho
  go_wp2_with fail
  refine (make_any H0.out.tre _ _ _ _ _).mono ?_
  rintro e w3 ⟨i, r, rfl, hst⟩
  obtain ⟨S1, T1, h1, hr, _⟩ := H0.out.stp hst fun T' h => h.sound H0.out.snd
  obtain ⟨rfl, rfl, rfl⟩ := ms_make1 hr
  have H1 := Lib.hid h1
  clear hst hr h1
  go_wp2_with fail
  refine (make_any H1.out.tre _ _ _ _ _).mono ?_
  rintro e w4 ⟨i, r, rfl, hst⟩
  obtain ⟨S2, T2, h2, hr, _⟩ := H1.out.stp hst fun T' h => h.sound H1.out.snd
  obtain ⟨rfl, rfl, rfl⟩ := ms_make2 hr
  have H2 := Lib.hid h2
  clear hst hr h2
  go_wp2_with fail
  refine (make_any H2.out.tre _ _ _ _ _).mono ?_
  rintro e w5 ⟨i, r, rfl, hst⟩
  obtain ⟨S3, T3, h3, hr, _⟩ := H2.out.stp hst fun T' h => h.sound H2.out.snd
  obtain ⟨rfl, rfl, rfl⟩ := ms_make3 hr
  have H3 := Lib.hid h3
  clear hst hr h3
  go_wp2_with fail
  refine (enter_any H3.out.tre 1 2 _).mono ?_
  rintro e w6 ⟨r, rfl, hst⟩
  obtain ⟨S4, T4, h4, hr, _⟩ := H3.out.stp hst fun T' h => h.sound H3.out.snd
  obtain ⟨rfl, rfl⟩ := ms_enter1 hr
  have H4 := Lib.hid h4
  clear hst hr h4
  go_wp2_with fail
  refine (enter_any H4.out.tre 1 3 _).mono ?_
  rintro e w7 ⟨r, rfl, hst⟩
  obtain ⟨S5, T5, h5, hr, _⟩ := H4.out.stp hst fun T' h => h.sound H4.out.snd
  obtain ⟨rfl, rfl⟩ := ms_enter2 hr
  have H5 := Lib.hid h5
  clear hst hr h5
  go_wp2_with fail
  refine (enter_any H5.out.tre 2 4 _).mono ?_
  rintro e w8 ⟨r, rfl, hst⟩
  obtain ⟨S6, T6, h6, hr, _⟩ := H5.out.stp hst fun T' h => h.sound H5.out.snd
  obtain ⟨rfl, rfl⟩ := ms_enter3 hr
  have H6 := Lib.hid h6
  clear hst hr h6
  go_wp2_with fail
  refine (put_any H6.out.tre 4 0 _).mono ?_
  rintro e w9 ⟨r, rfl, hst⟩
  obtain ⟨S7, T7, h7, hr, _⟩ := H6.out.stp hst fun T' h => h.sound H6.out.snd
  obtain ⟨rfl, rfl⟩ := ms_put hr
  rw [ms_is] at h7
  have HI : Hid (MovIn w1.heap.size w1 w9 t 2 ⟨#[102]⟩) := Lib.hid ⟨.inl rfl, by decide +kernel, S7, h7⟩
  clear hst hr h7 H0 H1 H2 H3 H4 H5 H6
  go_wp2_with fail
  go_loopw [13, 14, 15] (fun dv nv iv wr => ∃ (k : Nat) (di : Int) (nm : ByteArray), iv = .int .i64 k ∧ k ≤ 50 ∧ dv = .int .i64 di ∧ nv = .string nm ∧ MovIn w1.heap.size w1 wr t di nm) (fun _ _ iv _ => 50 - (intOf iv).toNat)
  case atStart => exact ⟨0, 2, ⟨#[102]⟩, rfl, by omega, rfl, rfl, HI.out⟩
  case round =>
    clear HI
    obtain ⟨k, di, nm, rfl, hk, rfl, rfl, hin⟩ := hrel
    have HI := Lib.hid hin
    clear hin
    by_cases hc : k < len0 ∧ k < len1 ∧ k < 50
    · obtain ⟨k0, k1, k50⟩ := hc
      obtain ⟨ba, oa, s, rfl, hba, hs, hsl⟩ := HS.out k k0
      obtain ⟨bb, ob, x, rfl, hbb, hx⟩ := HN.out k k1
      obtain ⟨hdi, hok, S, ho⟩ := HI.out
      have HO := Lib.hid ho
      have HDI := Lib.hid hdi
      have HOK := Lib.hid hok
      clear ho hdi hok
      have hs' : wr.cell? ⟨ba, oa + k, none⟩ = some (.string s) := by rw [HO.out.own.below.cell (p := ⟨ba, oa + k, none⟩) (by have := HB1.out.size; simp; omega), HB1.out.cell (p := ⟨ba, oa + k, none⟩) hba]; exact hs
      have hx' : wr.cell? ⟨bb, ob + k, none⟩ = some (.bool x) := by rw [HO.out.own.below.cell (p := ⟨bb, ob + k, none⟩) (by have := HB1.out.size; simp; omega), HB1.out.cell (p := ⟨bb, ob + k, none⟩) hbb]; exact hx
      have hk0 : (k : Int) < len0 := by omega
      have hk1 : (k : Int) < len1 := by omega
      have hk50 : (k : Int) < 50 := by omega
      have HSC := Lib.hid hs
      clear hs hx
      cases x with
      | false =>
        go_wp2_with fail
        refine (move_any HO.out.tre di 2 _ _).mono ?_
        rintro e w10 ⟨r, rfl, hst⟩
        obtain ⟨S', T', hq, hr, _⟩ := HO.out.stp hst fun T' h => h.sound HO.out.snd
        rcases IT.moves_step (by have := HDI.out; omega) (.inl rfl) hr with ⟨hok2, rfl, rfl⟩ | ⟨hok2, rfl, rfl⟩
        · have HQ := Lib.hid hq
          have HOK2 := Lib.hid hok2
          have HD2 : Hid ((2 : Int).toNat = 2 ∨ (2 : Int).toNat = 3) := Lib.hid (.inl rfl)
          have hs2 : w10.cell? ⟨ba, oa + k, none⟩ = some (.string s) := by rw [HQ.out.own.below.cell (p := ⟨ba, oa + k, none⟩) (by have := HB1.out.size; simp; omega), HB1.out.cell (p := ⟨ba, oa + k, none⟩) hba]; exact HSC.out
          clear hst hr hq hs' hx' HO
          go_wp2_with fail
          refine (rname_ok _ _).mono ?_
          rintro e wn ⟨rfl, rfl⟩
          go_wp2_with fail
          refine (look_any HQ.out.tre 2 _).mono ?_
          rintro e wl ⟨he, rfl⟩
          replace he : e = .returned (.tuple #[.int .i64 4, .bool true]) := he.trans (congrArg (fun o => Ending.returned (lookV o)) (mv_look (.inl rfl) HOK2.out))
          subst he
          go_wp2_with fail
          refine (names_len HQ.out.tre 2 (mv_names (.inl rfl) _).1).mono ?_
          rintro e w11 ⟨a2, cap2, rfl, hb⟩
          have H11 := Lib.hid (HQ.out.below hb)
          clear hb HQ
          go_wp2_with fail
          refine (names_len H11.out.tre 3 (mv_names (.inl rfl) _).2).mono ?_
          rintro e w12 ⟨a3, cap3, rfl, hb⟩
          have H12 := Lib.hid (H11.out.below hb)
          clear hb H11
          go_wp2_with fail
          refine (data_any H12.out.tre 4).mono ?_
          rintro e wd ⟨he, rfl⟩
          replace he : e = .returned (.string ⟨#[98, 121, 116, 101, 115]⟩) := he.trans (congrArg _ (by rfl))
          subst he
          go_wp2
          go_roundw
          case rel => exact ⟨k + 1, 2, s, by go_num, by omega, rfl, rfl, .inl rfl, HOK2.out, _, H12.out⟩
          case measure => simp [intOf]; omega
        · have HQ := Lib.hid hq
          have HOK2 := Lib.hid hok2
          have HD2 : Hid (di.toNat = 2 ∨ di.toNat = 3) := Lib.hid (by have := HDI.out; omega)
          have hs2 : w10.cell? ⟨ba, oa + k, none⟩ = some (.string s) := by rw [HQ.out.own.below.cell (p := ⟨ba, oa + k, none⟩) (by have := HB1.out.size; simp; omega), HB1.out.cell (p := ⟨ba, oa + k, none⟩) hba]; exact HSC.out
          have HN2 := Lib.hid (mv_names HD2.out (bs nm))
          clear hst hr hq hs' hx' HO
          go_wp2_with fail
          refine (rname_ok _ _).mono ?_
          rintro e wn ⟨rfl, rfl⟩
          go_wp2_with fail
          refine (look_any HQ.out.tre di _).mono ?_
          rintro e wl ⟨he, rfl⟩
          replace he : e = .returned (.tuple #[.int .i64 4, .bool true]) := he.trans (by rw [mv_look HD2.out HOK.out]; rfl)
          subst he
          rcases (show di.toNat = 2 ∨ di.toNat = 3 from HD2.out) with hd2 | hd2
          · have HN3 : Hid ((namesT (IT.movesT byt di.toNat (bs nm)) 2).length = 1 ∧ (namesT (IT.movesT byt di.toNat (bs nm)) 3).length = 0) := Lib.hid (by have := HN2.out; rw [hd2] at this ⊢; exact this)
            clear hd2
            go_wp2_with fail
            refine (names_len HQ.out.tre 2 HN3.out.1).mono ?_
            rintro e w11 ⟨a2, cap2, rfl, hb⟩
            have H11 := Lib.hid (HQ.out.below hb)
            clear hb HQ
            go_wp2_with fail
            refine (names_len H11.out.tre 3 HN3.out.2).mono ?_
            rintro e w12 ⟨a3, cap3, rfl, hb⟩
            have H12 := Lib.hid (H11.out.below hb)
            clear hb H11
            go_wp2_with fail
            refine (data_any H12.out.tre 4).mono ?_
            rintro e wd ⟨he, rfl⟩
            replace he : e = .returned (.string ⟨#[98, 121, 116, 101, 115]⟩) := he.trans (congrArg _ (by rcases HD2.out with e | e <;> (rw [e]; rfl)))
            subst he
            go_wp2
            go_roundw
            case rel => exact ⟨k + 1, di, nm, by go_num, by omega, rfl, rfl, HDI.out, HOK.out, _, H12.out⟩
            case measure => simp [intOf]; omega
          · have HN3 : Hid ((namesT (IT.movesT byt di.toNat (bs nm)) 2).length = 0 ∧ (namesT (IT.movesT byt di.toNat (bs nm)) 3).length = 1) := Lib.hid (by have := HN2.out; rw [hd2] at this ⊢; exact this)
            clear hd2
            go_wp2_with fail
            refine (names_len HQ.out.tre 2 HN3.out.1).mono ?_
            rintro e w11 ⟨a2, cap2, rfl, hb⟩
            have H11 := Lib.hid (HQ.out.below hb)
            clear hb HQ
            go_wp2_with fail
            refine (names_len H11.out.tre 3 HN3.out.2).mono ?_
            rintro e w12 ⟨a3, cap3, rfl, hb⟩
            have H12 := Lib.hid (H11.out.below hb)
            clear hb H11
            go_wp2_with fail
            refine (data_any H12.out.tre 4).mono ?_
            rintro e wd ⟨he, rfl⟩
            replace he : e = .returned (.string ⟨#[98, 121, 116, 101, 115]⟩) := he.trans (congrArg _ (by rcases HD2.out with e | e <;> (rw [e]; rfl)))
            subst he
            go_wp2
            go_roundw
            case rel => exact ⟨k + 1, di, nm, by go_num, by omega, rfl, rfl, HDI.out, HOK.out, _, H12.out⟩
            case measure => simp [intOf]; omega
      | true =>
        go_wp2_with fail
        refine (move_any HO.out.tre di 3 _ _).mono ?_
        rintro e w10 ⟨r, rfl, hst⟩
        obtain ⟨S', T', hq, hr, _⟩ := HO.out.stp hst fun T' h => h.sound HO.out.snd
        rcases IT.moves_step (by have := HDI.out; omega) (.inr rfl) hr with ⟨hok2, rfl, rfl⟩ | ⟨hok2, rfl, rfl⟩
        · have HQ := Lib.hid hq
          have HOK2 := Lib.hid hok2
          have HD2 : Hid ((3 : Int).toNat = 2 ∨ (3 : Int).toNat = 3) := Lib.hid (.inr rfl)
          have hs2 : w10.cell? ⟨ba, oa + k, none⟩ = some (.string s) := by rw [HQ.out.own.below.cell (p := ⟨ba, oa + k, none⟩) (by have := HB1.out.size; simp; omega), HB1.out.cell (p := ⟨ba, oa + k, none⟩) hba]; exact HSC.out
          clear hst hr hq hs' hx' HO
          go_wp2_with fail
          refine (rname_ok _ _).mono ?_
          rintro e wn ⟨rfl, rfl⟩
          go_wp2_with fail
          refine (look_any HQ.out.tre 3 _).mono ?_
          rintro e wl ⟨he, rfl⟩
          replace he : e = .returned (.tuple #[.int .i64 4, .bool true]) := he.trans (congrArg (fun o => Ending.returned (lookV o)) (mv_look (.inr rfl) HOK2.out))
          subst he
          go_wp2_with fail
          refine (names_len HQ.out.tre 2 (mv_names (.inr rfl) _).1).mono ?_
          rintro e w11 ⟨a2, cap2, rfl, hb⟩
          have H11 := Lib.hid (HQ.out.below hb)
          clear hb HQ
          go_wp2_with fail
          refine (names_len H11.out.tre 3 (mv_names (.inr rfl) _).2).mono ?_
          rintro e w12 ⟨a3, cap3, rfl, hb⟩
          have H12 := Lib.hid (H11.out.below hb)
          clear hb H11
          go_wp2_with fail
          refine (data_any H12.out.tre 4).mono ?_
          rintro e wd ⟨he, rfl⟩
          replace he : e = .returned (.string ⟨#[98, 121, 116, 101, 115]⟩) := he.trans (congrArg _ (by rfl))
          subst he
          go_wp2
          go_roundw
          case rel => exact ⟨k + 1, 3, s, by go_num, by omega, rfl, rfl, .inr rfl, HOK2.out, _, H12.out⟩
          case measure => simp [intOf]; omega
        · have HQ := Lib.hid hq
          have HOK2 := Lib.hid hok2
          have HD2 : Hid (di.toNat = 2 ∨ di.toNat = 3) := Lib.hid (by have := HDI.out; omega)
          have hs2 : w10.cell? ⟨ba, oa + k, none⟩ = some (.string s) := by rw [HQ.out.own.below.cell (p := ⟨ba, oa + k, none⟩) (by have := HB1.out.size; simp; omega), HB1.out.cell (p := ⟨ba, oa + k, none⟩) hba]; exact HSC.out
          have HN2 := Lib.hid (mv_names HD2.out (bs nm))
          clear hst hr hq hs' hx' HO
          go_wp2_with fail
          refine (rname_ok _ _).mono ?_
          rintro e wn ⟨rfl, rfl⟩
          go_wp2_with fail
          refine (look_any HQ.out.tre di _).mono ?_
          rintro e wl ⟨he, rfl⟩
          replace he : e = .returned (.tuple #[.int .i64 4, .bool true]) := he.trans (by rw [mv_look HD2.out HOK.out]; rfl)
          subst he
          rcases (show di.toNat = 2 ∨ di.toNat = 3 from HD2.out) with hd2 | hd2
          · have HN3 : Hid ((namesT (IT.movesT byt di.toNat (bs nm)) 2).length = 1 ∧ (namesT (IT.movesT byt di.toNat (bs nm)) 3).length = 0) := Lib.hid (by have := HN2.out; rw [hd2] at this ⊢; exact this)
            clear hd2
            go_wp2_with fail
            refine (names_len HQ.out.tre 2 HN3.out.1).mono ?_
            rintro e w11 ⟨a2, cap2, rfl, hb⟩
            have H11 := Lib.hid (HQ.out.below hb)
            clear hb HQ
            go_wp2_with fail
            refine (names_len H11.out.tre 3 HN3.out.2).mono ?_
            rintro e w12 ⟨a3, cap3, rfl, hb⟩
            have H12 := Lib.hid (H11.out.below hb)
            clear hb H11
            go_wp2_with fail
            refine (data_any H12.out.tre 4).mono ?_
            rintro e wd ⟨he, rfl⟩
            replace he : e = .returned (.string ⟨#[98, 121, 116, 101, 115]⟩) := he.trans (congrArg _ (by rcases HD2.out with e | e <;> (rw [e]; rfl)))
            subst he
            go_wp2
            go_roundw
            case rel => exact ⟨k + 1, di, nm, by go_num, by omega, rfl, rfl, HDI.out, HOK.out, _, H12.out⟩
            case measure => simp [intOf]; omega
          · have HN3 : Hid ((namesT (IT.movesT byt di.toNat (bs nm)) 2).length = 0 ∧ (namesT (IT.movesT byt di.toNat (bs nm)) 3).length = 1) := Lib.hid (by have := HN2.out; rw [hd2] at this ⊢; exact this)
            clear hd2
            go_wp2_with fail
            refine (names_len HQ.out.tre 2 HN3.out.1).mono ?_
            rintro e w11 ⟨a2, cap2, rfl, hb⟩
            have H11 := Lib.hid (HQ.out.below hb)
            clear hb HQ
            go_wp2_with fail
            refine (names_len H11.out.tre 3 HN3.out.2).mono ?_
            rintro e w12 ⟨a3, cap3, rfl, hb⟩
            have H12 := Lib.hid (H11.out.below hb)
            clear hb H11
            go_wp2_with fail
            refine (data_any H12.out.tre 4).mono ?_
            rintro e wd ⟨he, rfl⟩
            replace he : e = .returned (.string ⟨#[98, 121, 116, 101, 115]⟩) := he.trans (congrArg _ (by rcases HD2.out with e | e <;> (rw [e]; rfl)))
            subst he
            go_wp2
            go_roundw
            case rel => exact ⟨k + 1, di, nm, by go_num, by omega, rfl, rfl, HDI.out, HOK.out, _, H12.out⟩
            case measure => simp [intOf]; omega
    · obtain ⟨hdi, hok, S, ho⟩ := HI.out
      have HO := Lib.hid ho
      have HDI : Hid (di.toNat = 2 ∨ di.toNat = 3) := Lib.hid (by omega)
      clear ho hdi hok
      have hcc : (len0 : Int) ≤ k ∨ ((k : Int) < len0 ∧ (len1 : Int) ≤ k) ∨ ((k : Int) < len0 ∧ (k : Int) < len1 ∧ (50 : Int) ≤ k) := by omega
      clear hc
      rcases hcc with hc | ⟨hc0, hc⟩ | ⟨hc0, hc1, hc⟩
      all_goals
        go_wp2_with fail
        refine (stat_any HO.out.tre 4).mono ?_
        rintro e wl ⟨he, hb⟩
        replace he : e = .returned (.tuple #[.agg #[.int .i64 4, .int .i64 0, .int .i64 420, .int .i64 0, .int .i64 0, .int .i64 1, .int .i64 5, .int .i64 0], .bool true]) := he.trans (congrArg (fun v => Ending.returned (.tuple #[v, .bool true])) (mv_stat HDI.out (bs nm)))
        subst he
        have HO2 := Lib.hid (HO.out.below hb)
        clear hb HO
        by_cases hx : bs nm = [120]
        · have hx1 : nm.toList = [120] := by rw [ByteArray.toList_eq]; exact hx
          have HNE : Hid (([122] : List UInt8) ≠ bs nm) := Lib.hid (by rw [hx]; decide)
          clear hx
          go_wp2_with fail
          refine (move_any (HO2.out.alloc _).tre 1 2 _ _).mono ?_
          rintro e w10 ⟨r, rfl, hst⟩
          obtain ⟨S', T', hq, hr, _⟩ := (HO2.out.alloc _).stp hst fun T' h => h.sound HO2.out.snd
          obtain ⟨rfl, rfl⟩ := IT.moves_end1 ok_z hr
          have HQ := Lib.hid hq
          clear hst hr hq HO2
          go_wp2_with fail
          refine (move_any HQ.out.tre 1 3 _ _).mono ?_
          rintro e w11 ⟨r, rfl, hst⟩
          obtain ⟨S2, T2, hq, hr, _⟩ := HQ.out.stp hst fun T' h => h.sound HQ.out.snd
          obtain ⟨rfl, e1, e2, e3⟩ := IT.moves_end2 ok_z HNE.out hr
          have HQ2 := Lib.hid hq
          have HE := Lib.hid (And.intro e1 (And.intro e2 e3))
          clear hst hr hq e1 e2 e3
          go_wp2_with fail
          refine (move_any HQ2.out.tre 1 2 _ _).mono ?_
          rintro e w12 ⟨r, rfl, hst⟩
          obtain ⟨S3, T3, hq, hr, _⟩ := HQ2.out.stp hst fun T' h => h.sound HQ2.out.snd
          obtain rfl := IT.moves_end3 ok_y HE.out.1 HE.out.2.1 HE.out.2.2 hr
          have HQ3 := Lib.hid hq
          clear hst hr hq
          go_wp2
          go_ret
          exact ⟨rfl, HB1.out.trans (HQ3.out.own.below.mono HB1.out.size)⟩
        · have hx1 := nm_x nm _ hx
          have HNE : Hid (([120] : List UInt8) ≠ bs nm) := Lib.hid (fun e => hx e.symm)
          clear hx
          go_wp2_with fail
          refine (move_any (HO2.out.alloc _).tre 1 2 _ _).mono ?_
          rintro e w10 ⟨r, rfl, hst⟩
          obtain ⟨S', T', hq, hr, _⟩ := (HO2.out.alloc _).stp hst fun T' h => h.sound HO2.out.snd
          obtain ⟨rfl, rfl⟩ := IT.moves_end1 ok_x hr
          have HQ := Lib.hid hq
          clear hst hr hq HO2
          go_wp2_with fail
          refine (move_any HQ.out.tre 1 3 _ _).mono ?_
          rintro e w11 ⟨r, rfl, hst⟩
          obtain ⟨S2, T2, hq, hr, _⟩ := HQ.out.stp hst fun T' h => h.sound HQ.out.snd
          obtain ⟨rfl, e1, e2, e3⟩ := IT.moves_end2 ok_x HNE.out hr
          have HQ2 := Lib.hid hq
          have HE := Lib.hid (And.intro e1 (And.intro e2 e3))
          clear hst hr hq e1 e2 e3
          go_wp2_with fail
          refine (move_any HQ2.out.tre 1 2 _ _).mono ?_
          rintro e w12 ⟨r, rfl, hst⟩
          obtain ⟨S3, T3, hq, hr, _⟩ := HQ2.out.stp hst fun T' h => h.sound HQ2.out.snd
          obtain rfl := IT.moves_end3 ok_y HE.out.1 HE.out.2.1 HE.out.2.2 hr
          have HQ3 := Lib.hid hq
          clear hst hr hq
          go_wp2
          go_ret
          exact ⟨rfl, HB1.out.trans (HQ3.out.own.below.mono HB1.out.size)⟩
end Go.Proofs.Ytafonmnfeibaiaa
