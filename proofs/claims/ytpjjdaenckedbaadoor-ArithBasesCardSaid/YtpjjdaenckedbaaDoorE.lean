/- Expressions: any constant; a sign among some; a sign's end. -/
import Derived.Test.YtpjjdaenckedbaaDoorD
namespace Go.Proofs.YtpjjdaenckedbaaDoor
open Go.RowKit

theorem const_none (w : World) : Calls Tryd.prog 40 #[.string (B [])] w (CoP none w) := by
  have hb0 : ((B []).toList == []) = true := by rw [B_list]; rfl
  go_enter Tryd.func40, Tryd.ntmps40
  go_wp2_with fail
  refine (pre_any [] [48,120] _).mono ?_
  rintro e w1 ⟨rfl, rfl⟩
  go_wp2_with fail
  refine (pre_any [] [48,88] _).mono ?_
  rintro e w2 ⟨rfl, rfl⟩
  go_wp2_with fail
  refine (pre_any [] [48] _).mono ?_
  rintro e w3 ⟨rfl, rfl⟩
  go_wp2
  go_ret2
  exact ⟨rfl, Below.refl _ _⟩
theorem const_x0 (w : World) : Calls Tryd.prog 40 #[.string (B [48,120])] w (CoP none w) := by
  have hb0 : ((B []).toList == []) = true := by rw [B_list]; rfl
  have he : (B [48,120]).extract 2 (B [48,120]).size = B [] := B_drop [48,120] [1,2]
  have hl2 : 2 ≤ (B [48,120]).size := by decide
  go_enter Tryd.func40, Tryd.ntmps40
  go_wp2_with fail
  refine (pre_any [48,120] [48,120] _).mono ?_
  rintro e w1 ⟨rfl, rfl⟩
  go_wp2
  go_quiet (fail)
  go_wp2
  go_ret2
  exact ⟨rfl, drewN_below _ _⟩
theorem const_X0 (w : World) : Calls Tryd.prog 40 #[.string (B [48,88])] w (CoP none w) := by
  have hb0 : ((B []).toList == []) = true := by rw [B_list]; rfl
  have he : (B [48,88]).extract 2 (B [48,88]).size = B [] := B_drop [48,88] [1,2]
  have hl2 : 2 ≤ (B [48,88]).size := by decide
  go_enter Tryd.func40, Tryd.ntmps40
  go_wp2_with fail
  refine (pre_any [48,88] [48,120] _).mono ?_
  rintro e w1 ⟨rfl, rfl⟩
  go_wp2_with fail
  refine (pre_any [48,88] [48,88] _).mono ?_
  rintro e w2 ⟨rfl, rfl⟩
  go_wp2
  go_quiet (fail)
  go_wp2
  go_ret2
  exact ⟨rfl, drewN_below _ _⟩
theorem pre2 {x : UInt8} {s : Bytes} (h : [48, x].isPrefixOf s = true) : ∃ t, s = 48 :: x :: t := by
  obtain ⟨t, ht⟩ := List.isPrefixOf_iff_prefix.1 h
  exact ⟨t, ht.symm⟩
theorem constant_any (s : Bytes) (w : World) (hs : s.length ≤ 1000) : Calls Tryd.prog 40 #[.string (B s)] w (CoP (constantS s) w) := by
  by_cases h1 : [48,120].isPrefixOf s = true
  · obtain ⟨t, rfl⟩ := pre2 h1
    have e : constB (48 :: 120 :: t) = (16, t) := by unfold constB headIs; rw [h1]; rfl
    unfold constantS
    rw [e]
    by_cases ht : t = []
    · subst ht; exact const_x0 w
    · dsimp only
      rw [if_neg ht]
      exact const_x _ t w hs rfl ht
  have h1 : [48,120].isPrefixOf s = false := Bool.eq_false_iff.2 h1
  by_cases h2 : [48,88].isPrefixOf s = true
  · obtain ⟨t, rfl⟩ := pre2 h2
    have e : constB (48 :: 88 :: t) = (16, t) := by unfold constB headIs; rw [h2, Bool.or_true]; rfl
    unfold constantS
    rw [e]
    by_cases ht : t = []
    · subst ht; exact const_X0 w
    · dsimp only
      rw [if_neg ht]
      exact const_X _ t w hs rfl ht
  have h2 : [48,88].isPrefixOf s = false := Bool.eq_false_iff.2 h2
  by_cases h3 : [48].isPrefixOf s = true
  · have e : constB s = (8, s) := by unfold constB headIs; rw [h1, h2, h3]; rfl
    unfold constantS
    rw [e]
    have hne : s ≠ [] := by rintro rfl; cases h3
    dsimp only
    rw [if_neg hne]
    exact const_8 s w hs h1 h2 h3 hne
  have h3 : [48].isPrefixOf s = false := Bool.eq_false_iff.2 h3
  have e : constB s = (10, s) := by unfold constB headIs; rw [h1, h2, h3]; rfl
  unfold constantS
  rw [e]
  dsimp only
  by_cases hne : s = []
  · subst hne; exact const_none w
  · rw [if_neg hne]
    exact const_10 s w hs h1 h2 h3 hne
theorem suf_any (s p : Bytes) (w : World) (hs : s.length ≤ 1000) : Calls Tryd.prog 21 #[.string (B s), .string (B p)] w fun e w' => e = .returned (.bool (p.isSuffixOf s)) ∧ w' = w := Tryd.strings_HasSuffix (B s) (B p) w (by show s.length ≤ _; omega)
/-- Texts, as they lie. -/
def StrC (w : World) (n : Nat) (l : List Bytes) : Prop := w.heap[n]? = some (.cells (l.map fun s => Value.string (B s)).toArray 9 (0, 0))
theorem StrC.at {w : World} {n : Nat} {l : List Bytes} (h : StrC w n l) {k : Nat} (hk : k < l.length) : w.cell? ⟨n, k, none⟩ = some (.string (B l[k])) := by
  rw [heap_cell h k]
  simp [hk]
theorem idxFrom_has (x : Bytes) : ∀ (l : List Bytes) (i : Nat), decide (0 ≤ Lib.idxFromS (l.map B) (B x) i) = l.contains x
  | [], i => by simp [Lib.idxFromS]
  | y :: l, i => by
    by_cases h : y = x
    · subst h
      simp [Lib.idxFromS]
    · have hB : B y ≠ B x := fun e => h (B_inj e)
      have : Lib.idxFromS ((y :: l).map B) (B x) i = Lib.idxFromS (l.map B) (B x) (i + 1) := by simp [Lib.idxFromS, hB]
      rw [this, idxFrom_has x l (i + 1), List.contains_cons]
      have : (x == y) = false := by rw [beq_eq_false_iff_ne]; exact fun e => h e.symm
      rw [this]; rfl
theorem contains_any (n c : Nat) (l : List Bytes) (x : Bytes) (w : World) (hl : l.length ≤ 100) (h : StrC w n l) :
    Calls Tryd.prog 22 #[.slice (some ⟨n, 0, none⟩) l.length c, .string (B x)] w fun e w' => e = .returned (.bool (l.contains x)) ∧ w' = w := by
  have HI := Lib.hid (Tryd.slices_Index_string n 0 l.length c (l.map B) (B x) w (by simp) (by omega) (fun j hj => by
    have hj' : j < l.length := by simpa using hj
    rw [Nat.zero_add, h.at hj']
    simp [hj']))
  have e1 : (l.map B).take l.length = l.map B := List.take_of_length_le (by simp)
  rw [e1] at HI
  have HK : Hid (decide (0 ≤ Lib.idxOfS (l.map B) (B x)) = l.contains x) := Lib.hid (idxFrom_has x l 0)
  clear h hl e1
  generalize Lib.idxOfS (l.map B) (B x) = z at *
  go_enter Tryd.func22, Tryd.ntmps22
  go_wp2_with fail
  refine HI.out.mono ?_
  rintro e w' ⟨rfl, rfl⟩
  go_wp2
  go_ret
  exact ⟨by rw [← HK.out]; rfl, rfl⟩
end Go.Proofs.YtpjjdaenckedbaaDoor
