/- Expressions: a tree as it lies; a level. -/
import Derived.Test.YtpjjdaenckedbaaDoorE
namespace Go.Proofs.YtpjjdaenckedbaaDoor
open Go.RowKit

/-- A node, and its kids. -/
def ND (w : World) (k : Nat) (sg : Bytes) (kids : Value) (nm : Bytes) (n : Int) : Prop := w.heap[k]? = some (.cells #[.string (B sg), kids, .string (B nm), .int .i64 n] 57 (0, 0))
abbrev ptr (k : Nat) : Value := .pointer (some ⟨k, 0, none⟩)
def KD (w : World) (a : Nat) (l : List Nat) : Prop := w.heap[a]? = some (.cells (l.map ptr).toArray 42 (0, 0))
abbrev kv (a n : Nat) : Value := .slice (some ⟨a, 0, none⟩) n n
inductive TV (w : World) (b : Nat) : Nat → T → Prop
  | num {k n} : k ≠ b → ND w k [] (.slice none 0 0) [] n → TV w b k (.num n)
  | name {k x} : k ≠ b → ND w k [] (.slice none 0 0) x 0 → TV w b k (.name x)
  | set {k a c s x t} : k ≠ b → a ≠ b → ND w k s (kv a 1) x 0 → KD w a [c] → TV w b c t → TV w b k (.set s x t)
  | cond {k a c1 c2 c3 t1 t2 t3} : k ≠ b → a ≠ b → ND w k [63] (kv a 3) [] 0 → KD w a [c1, c2, c3] → TV w b c1 t1 → TV w b c2 t2 → TV w b c3 t3 → TV w b k (.cond t1 t2 t3)
  | two {k a c1 c2 s t1 t2} : k ≠ b → a ≠ b → ND w k s (kv a 2) [] 0 → KD w a [c1, c2] → TV w b c1 t1 → TV w b c2 t2 → TV w b k (.two s t1 t2)
  | un {k a c s t} : k ≠ b → a ≠ b → ND w k s (kv a 1) [] 0 → KD w a [c] → TV w b c t → TV w b k (.un s t)
theorem Mo.keep {w w' : World} {b k : Nat} {o : Obj} (h : Mo b w w') (hk : k ≠ b) (ho : w.heap[k]? = some o) : w'.heap[k]? = some o := by
  rw [h.block k (Array.getElem?_eq_some_iff.1 ho).1 hk]; exact ho
theorem TV.still {w w' : World} {b k : Nat} {t : T} (h : TV w b k t) (hm : Mo b w w') : TV w' b k t := by
  induction h with
  | num hk hn => exact .num hk (hm.keep hk hn)
  | name hk hn => exact .name hk (hm.keep hk hn)
  | set hk ha hn hl _ ih => exact .set hk ha (hm.keep hk hn) (hm.keep ha hl) ih
  | cond hk ha hn hl _ _ _ i1 i2 i3 => exact .cond hk ha (hm.keep hk hn) (hm.keep ha hl) i1 i2 i3
  | two hk ha hn hl _ _ i1 i2 => exact .two hk ha (hm.keep hk hn) (hm.keep ha hl) i1 i2
  | un hk ha hn hl _ ih => exact .un hk ha (hm.keep hk hn) (hm.keep ha hl) ih
def faultE : Ending := .panicked [{ v := .iface 41 (.agg #[]), recovered := false }]
/-- What a reader's function ends with. -/
def PE (x : Res) (b : Nat) (d : Int) (w : World) (e : Ending) (w' : World) : Prop := Mo b w w' ∧ match x with
  | none => e = faultE
  | some (t, r) => ∃ k, e = .returned (ptr k) ∧ TV w' b k t ∧ RD w' b r d ∧ r.length ≤ 256
def fnOf : Fn → Nat
  | .sets => 15
  | .choice => 23
  | .one => 47
theorem PE.no {x : Res} {b : Nat} {d : Int} {w w' : World} (hx : x = none) (hm : Mo b w w') : PE x b d w (.panicked [{ v := .iface 41 (.agg #[]), recovered := false }]) w' := by
  subst hx; exact ⟨hm, rfl⟩
theorem PE.yes {x : Res} {b k : Nat} {d : Int} {t : T} {r : Bytes} {w w' : World} (hx : x = some (t, r)) (hm : Mo b w w') (ht : TV w' b k t) (hr : RD w' b r d) (hl : r.length ≤ 256) : PE x b d w (.returned (ptr k)) w' := by
  subst hx; exact ⟨hm, k, rfl, ht, hr, hl⟩
def FnC (R : Nat) (F : Fn) : Prop := ∀ (b : Nat) (s : Bytes) (w : World), RD w b s (25 - R : Int) → s.length ≤ 256 → R ≤ 24 → Calls Tryd.prog (fnOf F) #[ptr b] w (PE (stepR (PL R) F s) b (25 - R) w)
def Lev (R : Nat) : Prop := ∀ (F : Fn) (b : Nat) (s : Bytes) (w : World), RD w b s (25 - R : Int) → s.length ≤ 256 → R ≤ 25 → Calls Tryd.prog 14 #[ptr b, .func (.func (fnOf F)) #[ptr b] #[]] w (PE (PL R F s) b (25 - R) w)
theorem lev_0 : Lev 0 := by
  intro F b s w h hs hR
  have h' : RD w b s 25 := h
  have H := Lib.hid h'
  have c1 := h'.c1
  have f1 := h'.f 1
  have H2 := Lib.hid (h'.deep 26)
  have d1 := H2.out.c1
  clear h h' hs hR
  go_enter Tryd.func14, Tryd.ntmps14
  go_wp2
  exact ⟨rfl, (Mo.refl _ _).set _, rfl⟩
set_option maxHeartbeats 4000000 in
theorem lev_step {R : Nat} {F : Fn} (hF : FnC R F) (b : Nat) (s : Bytes) (w : World) (h : RD w b s (25 - (R + 1 : Nat) : Int)) (hs : s.length ≤ 256) (hR : R + 1 ≤ 25) : Calls Tryd.prog 14 #[ptr b, .func (.func (fnOf F)) #[ptr b] #[]] w (PE (PL (R + 1) F s) b (25 - (R + 1 : Nat) : Int) w) := by
  show Calls Tryd.prog 14 _ w (PE (stepR (PL R) F s) b _ w)
  obtain ⟨d, hd⟩ : ∃ d : Int, d = 25 - (R + 1 : Nat) := ⟨_, rfl⟩
  have hd2 : (25 - R : Int) = d + 1 := by omega
  have HF := Lib.hid (fun w => hF b s w)
  rw [hd2] at HF
  rw [← hd] at h ⊢
  have c1 := h.c1
  have f1 := h.f 1
  have H2 := Lib.hid (h.deep (d + 1))
  have d1 := H2.out.c1
  have hlo : 0 ≤ d := by omega
  have hhi : d + 1 ≤ 25 := by omega
  have HM := Lib.hid ((Mo.refl b w).set (i := 1) (.int .i64 (d + 1)))
  have HC := Lib.hid (HF.out _ H2.out hs (by omega))
  clear h hd hd2 hR hF HF
  cases hx : stepR (PL R) F s with
  | none =>
    rw [hx] at HC
    have HX := Lib.hid hx
    clear hx
    cases F
    all_goals
      simp only [fnOf] at HC ⊢
      go_enter Tryd.func14, Tryd.ntmps14
      go_wp2_with fail
      refine HC.out.mono ?_
      rintro e w1 ⟨hm, he⟩
      replace he : e = faultE := he
      unfold faultE at he
      subst he
      have HM1 := Lib.hid (HM.out.trans hm)
      clear hm
      go_wp2
      exact ⟨rfl, HM1.out, rfl⟩
  | some p =>
    obtain ⟨t, r⟩ := p
    rw [hx] at HC
    clear hx
    cases F
    all_goals
      simp only [fnOf] at HC ⊢
      go_enter Tryd.func14, Tryd.ntmps14
      go_wp2_with fail
      refine HC.out.mono ?_
      rintro e w1 ⟨hm, k, rfl, ht, hr, hl⟩
      have HM1 := Lib.hid (HM.out.trans hm)
      have HT := Lib.hid ht
      have HR := Lib.hid hr
      have HL := Lib.hid hl
      have e1 := hr.c1
      have g1 := hr.f 1
      clear hm ht hr hl c1 f1 d1 HC
      go_wp2
      go_ret
      have e2 : d + 1 - 1 = d := by omega
      exact ⟨HM1.out.set _, k, rfl, HT.out.still ((Mo.refl _ _).set _), by have := HR.out.deep d; simpa using this, HL.out⟩
theorem lev_of {R : Nat} (h : ∀ F, FnC R F) : Lev (R + 1) := fun F b s w h1 h2 h3 => lev_step (h F) b s w h1 h2 h3
end Go.Proofs.YtpjjdaenckedbaaDoor
