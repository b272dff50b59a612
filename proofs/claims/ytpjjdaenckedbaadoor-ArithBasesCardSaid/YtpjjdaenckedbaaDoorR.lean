/- Expressions: Value. -/
import Derived.Test.YtpjjdaenckedbaaDoorO
import Derived.Test.YtpjjdaenckedbaaDoorQ
namespace Go.Proofs.YtpjjdaenckedbaaDoor
open Go.RowKit

theorem rk_all {w0 : World} {v1 : Value} {vars : List VarS} (hv : InV w0 v1 vars) (hV : VS vars) (hP : HasP w0) (hvl : vars.length ≤ 140737488355328) (b : Nat) : ∀ t, RkC w0 v1 vars b t
  | .num n => rk_num w0 v1 vars b n
  | .name x => rk_name hv hV hvl b x
  | .set s x k => rk_set hv hV hP hvl s x (rk_all hv hV hP hvl b k)
  | .cond t1 t2 t3 => rk_cond (rk_all hv hV hP hvl b t1) (rk_all hv hV hP hvl b t2) (rk_all hv hV hP hvl b t3)
  | .two s t1 t2 => by
    have i1 := rk_all hv hV hP hvl b t1
    have i2 := rk_all hv hV hP hvl b t2
    by_cases h1 : s = [124,124]
    · subst h1; exact rk_or i1 i2
    by_cases h2 : s = [38,38]
    · subst h2; exact rk_and i1 i2
    exact rk_oth i1 i2 s h1 h2
  | .un s t => rk_un s (rk_all hv hV hP hvl b t)
/-- What Value ends with. -/
def VP (x : Int × List VarS × Int) (w : World) (e : Ending) (w' : World) : Prop := ∃ sv, e = .returned (.tuple #[.int .i64 x.1, sv, .int .i64 x.2.2]) ∧ InV w' sv x.2.1 ∧ Below w.heap.size w w'
theorem inv_nil (w : World) : InV w (.slice none 0 0) [] := ⟨none, 0, rfl, fun j hj => absurd hj (Nat.not_lt_zero j)⟩
theorem VP.err {x : Int × List VarS × Int} {c : Int} {w w' : World} (hx : x = (0, [], c)) (hb : Below w.heap.size w w') : VP x w (.returned (.tuple #[.int .i64 0, .slice none 0 0, .int .i64 c])) w' := by
  subst hx; exact ⟨_, rfl, inv_nil _, hb⟩
theorem R3.newC (w : World) (c : Int) : R3 (((w.alloc (.cells #[.int .i64 0] 2)).alloc (.cells #[.slice none 0 0] 26)).alloc (.cells #[.int .i64 c] 27)) w.heap.size 0 (.slice none 0 0) c where
  h0 := by
    rw [Below.heap_alloc _ _ _ (by simp; omega), Below.heap_alloc _ _ _ (by simp)]; exact at_new _ _
  h1 := by
    rw [Below.heap_alloc _ _ _ (by simp)]
    have := at_new (w.alloc (.cells #[.int .i64 0] 2)) (.cells #[.slice none 0 0] 26)
    rw [World.size_alloc] at this; exact this
  h2 := by
    have := at_new ((w.alloc (.cells #[.int .i64 0] 2)).alloc (.cells #[.slice none 0 0] 26)) (.cells #[.int .i64 c] 27)
    rw [World.size_alloc, World.size_alloc] at this; exact this
theorem R3.setA {W : World} {n : Nat} {a c : Int} {v : Value} (h : R3 W n a v c) (a' : Int) : R3 (W.setCell ⟨n, 0, none⟩ (.int .i64 a')) n a' v c where
  h0 := set_same h.h0 _
  h1 := heap_set_other h.h1 _ (by omega)
  h2 := heap_set_other h.h2 _ (by omega)
theorem res10 {T : Array Value} {W : World} {n : Nat} {a c : Int} {v : Value} (h4 : T[4]? = some (.pointer (some ⟨n, 0, none⟩))) (h5 : T[5]? = some (.pointer (some ⟨n + 1, 0, none⟩))) (h6 : T[6]? = some (.pointer (some ⟨n + 1 + 1, 0, none⟩))) (h : R3 W n a v c) :
    (results Tryd.f10 T).run Tryd.prog W = .ok (.tuple #[.int .i64 a, v, .int .i64 c]) W := by
  have d0 := heap_cell h.h0 0
  have d1 := heap_cell h.h1 0
  have d2 := heap_cell h.h2 0
  simp [results, Tryd.results10, go_sem, h4, h5, h6, d0, d1, d2]
theorem VP.yes {x : Int × List VarS × Int} {v c : Int} {sv : Value} {st : List VarS} {w w' : World} (hx : x = (v, st, c)) (hi : InV w' sv st) (hb : Below w.heap.size w w') : VP x w (.returned (.tuple #[.int .i64 v, sv, .int .i64 c])) w' := by
  subst hx; exact ⟨_, rfl, hi, hb⟩
def w4 (w : World) (s : Bytes) : World := (((w.alloc (.cells #[.int .i64 0] 2)).alloc (.cells #[.slice none 0 0] 26)).alloc (.cells #[.int .i64 0] 27)).alloc (.cells #[.string (B s), .int .i64 0] 39)
theorem w4_R3 (w : World) (s : Bytes) : R3 (w4 w s) w.heap.size 0 (.slice none 0 0) 0 := (R3.new w).still ((Below.refl _ _).alloc (Nat.le_refl _) _) (by simp)
theorem w4_below (w : World) (s : Bytes) : Below w.heap.size w (w4 w s) := ((((Below.refl w.heap.size w).alloc (Nat.le_refl _) _).alloc (by simp) _).alloc (by simp; omega) _).alloc (by simp; omega) _
theorem w4_RD (w : World) (s : Bytes) : RD (w4 w s) (w.heap.size + 1 + 1 + 1) s 0 := by
  have := at_new (((w.alloc (.cells #[.int .i64 0] 2)).alloc (.cells #[.slice none 0 0] 26)).alloc (.cells #[.int .i64 0] 27)) (.cells #[.string (B s), .int .i64 0] 39)
  rw [World.size_alloc, World.size_alloc, World.size_alloc] at this
  exact this
theorem R3.mo {W w' : World} {n : Nat} {a c : Int} {v : Value} (h : R3 W n a v c) (hm : Mo (n + 1 + 1 + 1) W w') : R3 w' n a v c where
  h0 := hm.keep (by omega) h.h0
  h1 := hm.keep (by omega) h.h1
  h2 := hm.keep (by omega) h.h2
theorem bel_mo {w W w' : World} (h : Below w.heap.size w W) (hm : Mo (w.heap.size + 1 + 1 + 1) W w') : Below w.heap.size w w' := Mo.below h hm (by omega) h.size
theorem R3.below' {w W : World} {n : Nat} {a c : Int} {v : Value} (h : Below w.heap.size w W) (hn : n = w.heap.size) (u v' x : Value) : Below w.heap.size w (((W.setCell ⟨n, 0, none⟩ u).setCell ⟨n + 1, 0, none⟩ v').setCell ⟨n + 1 + 1, 0, none⟩ x) := by
  subst hn; exact R3.below h (Nat.le_refl _) _ _ _
set_option maxHeartbeats 4000000 in
theorem val_long (s : Bytes) (lv : Value) (l : List VarS) (w : World) (hs : 256 < s.length) : Calls Tryd.prog 10 #[.string (B s), lv] w (VP (valueS s l) w) := by
  have HX : Hid (valueS s l = (0, [], 17)) := Lib.hid (by unfold valueS; rw [if_pos hs])
  have hsz : (B s).size = s.length := rfl
  have hs1 : (256 : Int) < s.length := by omega
  have HR := Lib.hid (fun c => R3.newC w c)
  have HB := Lib.hid ((((Below.refl w.heap.size w).alloc (Nat.le_refl _) (.cells #[.int .i64 0] 2)).alloc (by simp) (.cells #[.slice none 0 0] 26)).alloc (by simp; omega) (.cells #[.int .i64 17] 27))
  clear hs
  go_enter_defers Tryd.func10, Tryd.ntmps10
  go_wp2
  exact ⟨_, res10 rfl rfl rfl (HR.out 17), VP.err HX.out HB.out⟩
set_option maxHeartbeats 4000000 in
theorem val_blank (s : Bytes) (lv : Value) (l : List VarS) (w : World) (hs : s.length ≤ 256) (hb : blank s = []) : Calls Tryd.prog 10 #[.string (B s), lv] w (VP (valueS s l) w) := by
  have HX : Hid (valueS s l = (0, [], 0)) := Lib.hid (by unfold valueS; rw [if_neg (by omega), if_pos hb])
  have hsz : (B s).size = s.length := rfl
  have hs1 : ¬ (256 : Int) < s.length := by omega
  have HBL := Lib.hid (blanks_any (w.heap.size + 1 + 1 + 1) s 0 (w4 w s) (w4_RD w s))
  have HB4 := Lib.hid (w4_below w s)
  have HR4 := Lib.hid (w4_R3 w s)
  rw [hb] at HBL
  have hb0 : ((B []).toList == []) = true := by rw [B_list]; rfl
  clear hs hb
  unfold w4 at HBL
  go_enter_defers Tryd.func10, Tryd.ntmps10
  go_wp2_with fail
  refine HBL.out.mono ?_
  rintro e w5 ⟨rfl, h5, hm5⟩
  have HR5 := Lib.hid (HR4.out.mo hm5)
  have HB5 := Lib.hid (bel_mo HB4.out hm5)
  have HD5 := Lib.hid h5
  have c5 := h5.c0
  clear h5 hm5
  have e0 := heap_cell HR5.out.h0 0
  have g0 := heap_free HR5.out.h0 0
  have e1 : (w5.setCell ⟨w.heap.size, 0, none⟩ (.int .i64 0)).cell? ⟨w.heap.size + 1, 0, none⟩ = _ := heap_cell (heap_set_other HR5.out.h1 _ (by omega)) 0
  have g1 : (w5.setCell ⟨w.heap.size, 0, none⟩ (.int .i64 0)).frozen? ⟨w.heap.size + 1, 0, none⟩ = false := heap_free (heap_set_other HR5.out.h1 _ (by omega)) 0
  have e2 : ((w5.setCell ⟨w.heap.size, 0, none⟩ (.int .i64 0)).setCell ⟨w.heap.size + 1, 0, none⟩ (.slice none 0 0)).cell? ⟨w.heap.size + 1 + 1, 0, none⟩ = _ := heap_cell (heap_set_other (heap_set_other HR5.out.h2 _ (by omega)) _ (by omega)) 0
  have g2 : ((w5.setCell ⟨w.heap.size, 0, none⟩ (.int .i64 0)).setCell ⟨w.heap.size + 1, 0, none⟩ (.slice none 0 0)).frozen? ⟨w.heap.size + 1 + 1, 0, none⟩ = false := heap_free (heap_set_other (heap_set_other HR5.out.h2 _ (by omega)) _ (by omega)) 0
  go_wp2
  exact ⟨_, res10 rfl rfl rfl (HR5.out.put 0 (.slice none 0 0) 0), VP.err HX.out (R3.below HB5.out (Nat.le_refl _) _ _ _)⟩
set_option maxHeartbeats 4000000 in
theorem val_none (s : Bytes) (lv : Value) (l : List VarS) (w : World) (hs : s.length ≤ 256) (hb : blank s ≠ []) (hp : PL 25 .sets (blank s) = none) : Calls Tryd.prog 10 #[.string (B s), lv] w (VP (valueS s l) w) := by
  have HX : Hid (valueS s l = (0, [], 17)) := Lib.hid (by unfold valueS readS; rw [if_neg (by omega), if_neg hb, hp])
  have hsz : (B s).size = s.length := rfl
  have hs1 : ¬ (256 : Int) < s.length := by omega
  have HBL := Lib.hid (blanks_any (w.heap.size + 1 + 1 + 1) s 0 (w4 w s) (w4_RD w s))
  have HB4 := Lib.hid (w4_below w s)
  have HR4 := Lib.hid (w4_R3 w s)
  have hb0 : ((B (blank s)).toList == []) = false := by rw [B_list]; simpa using hb
  have HLV : Hid (∀ w', RD w' (w.heap.size + 1 + 1 + 1) (blank s) 0 → Calls Tryd.prog 14 #[ptr (w.heap.size + 1 + 1 + 1), .func (.func 15) #[ptr (w.heap.size + 1 + 1 + 1)] #[]] w' (PE (PL 25 .sets (blank s)) (w.heap.size + 1 + 1 + 1) 0 w')) := Lib.hid (fun w' h => lev_all 25 .sets _ _ w' h (Nat.le_trans (bl_le s) hs) (Nat.le_refl _))
  rw [hp] at HLV
  clear hs hb hp
  generalize blank s = y at *
  have hmf : ∀ (fn : Go.Fn) (first cap : Array Value) (w : World), (Instr.makeFunc fn first cap).run Tryd.prog w = .ok (.func fn first cap) w := fun _ _ _ _ => rfl
  unfold w4 at HBL
  go_enter_defers Tryd.func10, Tryd.ntmps10
  go_wp2_with fail
  refine HBL.out.mono ?_
  rintro e w5 ⟨rfl, h5, hm5⟩
  have HR5 := Lib.hid (HR4.out.mo hm5)
  have HB5 := Lib.hid (bel_mo HB4.out hm5)
  have HD5 := Lib.hid h5
  have c5 := h5.c0
  clear h5 hm5
  go_wp2_with fail
  refine (HLV.out w5 HD5.out).mono ?_
  rintro e w6 ⟨hm, he⟩
  replace he : e = faultE := he
  unfold faultE at he
  subst he
  have HR6 := Lib.hid (HR5.out.mo hm)
  have HB6 := Lib.hid (bel_mo HB5.out hm)
  have HC := Lib.hid (catch_fault w.heap.size [] w6 HR6.out)
  clear hm
  go_wp2
  refine leaves_cons (f := 13) (args := #[.pointer (some ⟨w.heap.size, 0, none⟩), .pointer (some ⟨w.heap.size + 1, 0, none⟩), .pointer (some ⟨w.heap.size + 1 + 1, 0, none⟩)]) (by simp) (by simp [go_sem]) ?_
  refine HC.out.mono ?_
  rintro e u' w'' ⟨rfl, rfl, o, rfl⟩
  have HA := (HR6.out.still ((Below.refl w6.heap.size w6).alloc (Nat.le_refl _) o) HR6.out.lt).put 0 (.slice none 0 0) 17
  exact ⟨_, res10 rfl rfl rfl HA, VP.err HX.out (R3.below (HB6.out.alloc HB6.out.size o) (Nat.le_refl _) _ _ _)⟩
set_option maxHeartbeats 4000000 in
theorem val_rest (s : Bytes) (lv : Value) (l : List VarS) (w : World) (hs : s.length ≤ 256) (hb : blank s ≠ []) (t : T) (r : Bytes) (hp : PL 25 .sets (blank s) = some (t, r)) (hr0 : blank r ≠ []) : Calls Tryd.prog 10 #[.string (B s), lv] w (VP (valueS s l) w) := by
  have HX : Hid (valueS s l = (0, [], 17)) := Lib.hid (by unfold valueS readS; rw [if_neg (by omega), if_neg hb, hp]; dsimp only; rw [if_neg hr0])
  have hsz : (B s).size = s.length := rfl
  have hs1 : ¬ (256 : Int) < s.length := by omega
  have HBL := Lib.hid (blanks_any (w.heap.size + 1 + 1 + 1) s 0 (w4 w s) (w4_RD w s))
  have HB4 := Lib.hid (w4_below w s)
  have HR4 := Lib.hid (w4_R3 w s)
  have hb0 : ((B (blank s)).toList == []) = false := by rw [B_list]; simpa using hb
  have HLV : Hid (∀ w', RD w' (w.heap.size + 1 + 1 + 1) (blank s) 0 → Calls Tryd.prog 14 #[ptr (w.heap.size + 1 + 1 + 1), .func (.func 15) #[ptr (w.heap.size + 1 + 1 + 1)] #[]] w' (PE (PL 25 .sets (blank s)) (w.heap.size + 1 + 1 + 1) 0 w')) := Lib.hid (fun w' h => lev_all 25 .sets _ _ w' h (Nat.le_trans (bl_le s) hs) (Nat.le_refl _))
  rw [hp] at HLV
  have hr1 : ((B (blank r)).toList == []) = false := by rw [B_list]; simpa using hr0
  clear hs hb hp hr0
  generalize blank s = y at *
  have hmf : ∀ (fn : Go.Fn) (first cap : Array Value) (w : World), (Instr.makeFunc fn first cap).run Tryd.prog w = .ok (.func fn first cap) w := fun _ _ _ _ => rfl
  unfold w4 at HBL
  go_enter_defers Tryd.func10, Tryd.ntmps10
  go_wp2_with fail
  refine HBL.out.mono ?_
  rintro e w5 ⟨rfl, h5, hm5⟩
  have HR5 := Lib.hid (HR4.out.mo hm5)
  have HB5 := Lib.hid (bel_mo HB4.out hm5)
  have HD5 := Lib.hid h5
  have c5 := h5.c0
  clear h5 hm5
  go_wp2_with fail
  refine (HLV.out w5 HD5.out).mono ?_
  rintro e w6 ⟨hm, k, rfl, ht, hr, hrl⟩
  have HR6 := Lib.hid (HR5.out.mo hm)
  have HB6 := Lib.hid (bel_mo HB5.out hm)
  have HT6 := Lib.hid ht
  have HD6 := Lib.hid hr
  clear hm ht hr hrl
  go_wp2_with fail
  refine (blanks_any _ r 0 w6 HD6.out).mono ?_
  rintro e w7 ⟨rfl, h7, hm7⟩
  have HR7 := Lib.hid (HR6.out.mo hm7)
  have HB7 := Lib.hid (bel_mo HB6.out hm7)
  have HT7 := Lib.hid (HT6.out.still hm7)
  have c7 := h7.c0
  clear h7 hm7 c5
  have e0 := heap_cell HR7.out.h0 0
  have g0 := heap_free HR7.out.h0 0
  have e1 : (w7.setCell ⟨w.heap.size, 0, none⟩ (.int .i64 0)).cell? ⟨w.heap.size + 1, 0, none⟩ = _ := heap_cell (heap_set_other HR7.out.h1 _ (by omega)) 0
  have g1 : (w7.setCell ⟨w.heap.size, 0, none⟩ (.int .i64 0)).frozen? ⟨w.heap.size + 1, 0, none⟩ = false := heap_free (heap_set_other HR7.out.h1 _ (by omega)) 0
  have e2 : ((w7.setCell ⟨w.heap.size, 0, none⟩ (.int .i64 0)).setCell ⟨w.heap.size + 1, 0, none⟩ (.slice none 0 0)).cell? ⟨w.heap.size + 1 + 1, 0, none⟩ = _ := heap_cell (heap_set_other (heap_set_other HR7.out.h2 _ (by omega)) _ (by omega)) 0
  have g2 : ((w7.setCell ⟨w.heap.size, 0, none⟩ (.int .i64 0)).setCell ⟨w.heap.size + 1, 0, none⟩ (.slice none 0 0)).frozen? ⟨w.heap.size + 1 + 1, 0, none⟩ = false := heap_free (heap_set_other (heap_set_other HR7.out.h2 _ (by omega)) _ (by omega)) 0
  go_wp2
  refine leaves_cons (f := 13) (args := #[.pointer (some ⟨w.heap.size, 0, none⟩), .pointer (some ⟨w.heap.size + 1, 0, none⟩), .pointer (some ⟨w.heap.size + 1 + 1, 0, none⟩)]) (by simp) (by simp [go_sem]) ?_
  refine (catch_idle _ _ _ _).mono ?_
  rintro e u' w'' ⟨rfl, rfl, rfl⟩
  exact ⟨_, res10 rfl rfl rfl (HR7.out.put 0 (.slice none 0 0) 17), VP.err HX.out (R3.below HB7.out (Nat.le_refl _) _ _ _)⟩
set_option maxHeartbeats 4000000 in
theorem val_err (s : Bytes) (lv : Value) (l : List VarS) (w : World) (hs : s.length ≤ 256) (hv : InV w lv l) (hP : HasP w) (hV : VS l) (hvl : l.length ≤ 140737488355328) (hb : blank s ≠ []) (t : T) (r : Bytes) (hp : PL 25 .sets (blank s) = some (t, r)) (hr0 : blank r = []) (c : Int) (he : ev l t [] = .error c) : Calls Tryd.prog 10 #[.string (B s), lv] w (VP (valueS s l) w) := by
  obtain ⟨a1, c1, rfl, hjk⟩ := id hv
  clear hjk
  have HX : Hid (valueS s l = (0, [], c)) := Lib.hid (by unfold valueS readS; rw [if_neg (by omega), if_neg hb, hp]; dsimp only; rw [if_pos hr0]; dsimp only; rw [he])
  have hsz : (B s).size = s.length := rfl
  have hs1 : ¬ (256 : Int) < s.length := by omega
  have HBL := Lib.hid (blanks_any (w.heap.size + 1 + 1 + 1) s 0 (w4 w s) (w4_RD w s))
  have HB4 := Lib.hid (w4_below w s)
  have HR4 := Lib.hid (w4_R3 w s)
  have hb0 : ((B (blank s)).toList == []) = false := by rw [B_list]; simpa using hb
  have HLV : Hid (∀ w', RD w' (w.heap.size + 1 + 1 + 1) (blank s) 0 → Calls Tryd.prog 14 #[ptr (w.heap.size + 1 + 1 + 1), .func (.func 15) #[ptr (w.heap.size + 1 + 1 + 1)] #[]] w' (PE (PL 25 .sets (blank s)) (w.heap.size + 1 + 1 + 1) 0 w')) := Lib.hid (fun w' h => lev_all 25 .sets _ _ w' h (Nat.le_trans (bl_le s) hs) (Nat.le_refl _))
  have HWF := Lib.hid (ok_PL 25 .sets (blank s) t r (Nat.le_trans (bl_le s) (by omega)) hp)
  have hsl : (blank s).length ≤ 256 := Nat.le_trans (bl_le s) hs
  have HCN : Hid (WF t ∧ cnt t ≤ 1000) := Lib.hid ⟨HWF.out.2, by have := HWF.out.1; omega⟩
  have hr1 : ((B (blank r)).toList == []) = true := by rw [B_list, hr0]; rfl
  have HRK : Hid (∀ w7 k, Below w.heap.size w w7 → TV w7 (w.heap.size + 1 + 1 + 1) k t → Calls Tryd.prog 16 #[ptr0 w7.heap.size, ptr0 k] (w7.alloc (.cells #[.slice a1 l.length c1, .slice none 0 0] 47)) (EvP w7 (.slice a1 l.length c1) (ev l t []))) := Lib.hid (fun w7 k hb ht =>
    rk_all (hv.below hb) hV (hP.below hb) hvl _ t k [] _ ht HCN.out.1 ⟨(Below.refl _ _).alloc (Nat.le_refl _) _, .slice none 0 0, at_new _ _, World.ownsRow_nil _ _ _ _⟩ (fun v hv => by cases hv) (by have := HCN.out.2; simpa using this))
  rw [he] at HRK
  rw [hp] at HLV
  clear hs hb hp hr0 he hv hP hV hvl hsl HWF
  generalize blank s = y at *
  have hmf : ∀ (fn : Go.Fn) (first cap : Array Value) (w : World), (Instr.makeFunc fn first cap).run Tryd.prog w = .ok (.func fn first cap) w := fun _ _ _ _ => rfl
  unfold w4 at HBL
  go_enter_defers Tryd.func10, Tryd.ntmps10
  go_wp2_with fail
  refine HBL.out.mono ?_
  rintro e w5 ⟨rfl, h5, hm5⟩
  have HR5 := Lib.hid (HR4.out.mo hm5)
  have HB5 := Lib.hid (bel_mo HB4.out hm5)
  have HD5 := Lib.hid h5
  have c5 := h5.c0
  clear h5 hm5
  go_wp2_with fail
  refine (HLV.out w5 HD5.out).mono ?_
  rintro e w6 ⟨hm, k, rfl, ht, hr, hrl⟩
  have HR6 := Lib.hid (HR5.out.mo hm)
  have HB6 := Lib.hid (bel_mo HB5.out hm)
  have HT6 := Lib.hid ht
  have HD6 := Lib.hid hr
  clear hm ht hr hrl
  go_wp2_with fail
  refine (blanks_any _ r 0 w6 HD6.out).mono ?_
  rintro e w7 ⟨rfl, h7, hm7⟩
  have HR7 := Lib.hid (HR6.out.mo hm7)
  have HB7 := Lib.hid (bel_mo HB6.out hm7)
  have HT7 := Lib.hid (HT6.out.still hm7)
  have c7 := h7.c0
  clear h7 hm7 c5
  unfold ptr0 at HRK
  go_wp2_with fail
  refine (HRK.out w7 k HB7.out HT7.out).mono ?_
  rintro e w9 ⟨he, hb9⟩
  unfold errE at he
  subst he
  have HR9 := Lib.hid (HR7.out.still hb9 HR7.out.lt)
  have HB9 := Lib.hid (HB7.out.trans (hb9.mono HB7.out.size))
  have HC := Lib.hid (catch_errno w.heap.size c [] w9 HR9.out)
  clear hb9
  go_wp2
  refine leaves_cons (f := 13) (args := #[.pointer (some ⟨w.heap.size, 0, none⟩), .pointer (some ⟨w.heap.size + 1, 0, none⟩), .pointer (some ⟨w.heap.size + 1 + 1, 0, none⟩)]) (by simp) (by simp [go_sem]) ?_
  refine HC.out.mono ?_
  rintro e u' w'' ⟨rfl, rfl, rfl⟩
  exact ⟨_, res10 rfl rfl rfl (HR9.out.put 0 (.slice none 0 0) c), VP.err HX.out (R3.below HB9.out (Nat.le_refl _) _ _ _)⟩
set_option maxHeartbeats 4000000 in
theorem val_ok (s : Bytes) (lv : Value) (l : List VarS) (w : World) (hs : s.length ≤ 256) (hv : InV w lv l) (hP : HasP w) (hV : VS l) (hvl : l.length ≤ 140737488355328) (hb : blank s ≠ []) (t : T) (r : Bytes) (hp : PL 25 .sets (blank s) = some (t, r)) (hr0 : blank r = []) (v : Int) (st : List VarS) (he : ev l t [] = .ok (v, st)) : Calls Tryd.prog 10 #[.string (B s), lv] w (VP (valueS s l) w) := by
  obtain ⟨a1, c1, rfl, hjk⟩ := id hv
  clear hjk
  have HX : Hid (valueS s l = (v, st, 0)) := Lib.hid (by unfold valueS readS; rw [if_neg (by omega), if_neg hb, hp]; dsimp only; rw [if_pos hr0]; dsimp only; rw [he])
  have hsz : (B s).size = s.length := rfl
  have hs1 : ¬ (256 : Int) < s.length := by omega
  have HBL := Lib.hid (blanks_any (w.heap.size + 1 + 1 + 1) s 0 (w4 w s) (w4_RD w s))
  have HB4 := Lib.hid (w4_below w s)
  have HR4 := Lib.hid (w4_R3 w s)
  have hb0 : ((B (blank s)).toList == []) = false := by rw [B_list]; simpa using hb
  have HLV : Hid (∀ w', RD w' (w.heap.size + 1 + 1 + 1) (blank s) 0 → Calls Tryd.prog 14 #[ptr (w.heap.size + 1 + 1 + 1), .func (.func 15) #[ptr (w.heap.size + 1 + 1 + 1)] #[]] w' (PE (PL 25 .sets (blank s)) (w.heap.size + 1 + 1 + 1) 0 w')) := Lib.hid (fun w' h => lev_all 25 .sets _ _ w' h (Nat.le_trans (bl_le s) hs) (Nat.le_refl _))
  have HWF := Lib.hid (ok_PL 25 .sets (blank s) t r (Nat.le_trans (bl_le s) (by omega)) hp)
  have hsl : (blank s).length ≤ 256 := Nat.le_trans (bl_le s) hs
  have HCN : Hid (WF t ∧ cnt t ≤ 1000) := Lib.hid ⟨HWF.out.2, by have := HWF.out.1; omega⟩
  have hr1 : ((B (blank r)).toList == []) = true := by rw [B_list, hr0]; rfl
  have HRK : Hid (∀ w7 k, Below w.heap.size w w7 → TV w7 (w.heap.size + 1 + 1 + 1) k t → Calls Tryd.prog 16 #[ptr0 w7.heap.size, ptr0 k] (w7.alloc (.cells #[.slice a1 l.length c1, .slice none 0 0] 47)) (EvP w7 (.slice a1 l.length c1) (ev l t []))) := Lib.hid (fun w7 k hb ht =>
    rk_all (hv.below hb) hV (hP.below hb) hvl _ t k [] _ ht HCN.out.1 ⟨(Below.refl _ _).alloc (Nat.le_refl _) _, .slice none 0 0, at_new _ _, World.ownsRow_nil _ _ _ _⟩ (fun v hv => by cases hv) (by have := HCN.out.2; simpa using this))
  rw [he] at HRK
  rw [hp] at HLV
  clear hs hb hp hr0 he hv hP hV hvl hsl HWF
  generalize blank s = y at *
  have hmf : ∀ (fn : Go.Fn) (first cap : Array Value) (w : World), (Instr.makeFunc fn first cap).run Tryd.prog w = .ok (.func fn first cap) w := fun _ _ _ _ => rfl
  unfold w4 at HBL
  go_enter_defers Tryd.func10, Tryd.ntmps10
  go_wp2_with fail
  refine HBL.out.mono ?_
  rintro e w5 ⟨rfl, h5, hm5⟩
  have HR5 := Lib.hid (HR4.out.mo hm5)
  have HB5 := Lib.hid (bel_mo HB4.out hm5)
  have HD5 := Lib.hid h5
  have c5 := h5.c0
  clear h5 hm5
  go_wp2_with fail
  refine (HLV.out w5 HD5.out).mono ?_
  rintro e w6 ⟨hm, k, rfl, ht, hr, hrl⟩
  have HR6 := Lib.hid (HR5.out.mo hm)
  have HB6 := Lib.hid (bel_mo HB5.out hm)
  have HT6 := Lib.hid ht
  have HD6 := Lib.hid hr
  clear hm ht hr hrl
  go_wp2_with fail
  refine (blanks_any _ r 0 w6 HD6.out).mono ?_
  rintro e w7 ⟨rfl, h7, hm7⟩
  have HR7 := Lib.hid (HR6.out.mo hm7)
  have HB7 := Lib.hid (bel_mo HB6.out hm7)
  have HT7 := Lib.hid (HT6.out.still hm7)
  have c7 := h7.c0
  clear h7 hm7 c5
  unfold ptr0 at HRK
  go_wp2_with fail
  refine (HRK.out w7 k HB7.out HT7.out).mono ?_
  rintro e w9 ⟨rfl, hb9, v2, hw9, ho9⟩
  have HR9 := Lib.hid (HR7.out.still hb9 HR7.out.lt)
  have HB9 := Lib.hid (HB7.out.trans (hb9.mono HB7.out.size))
  have HL9 := Lib.hid (show w.heap.size + 1 + 1 < w7.heap.size from HR7.out.lt)
  have HW9 := Lib.hid hw9
  have HO9 := Lib.hid ho9
  obtain ⟨a2, c2, hv2⟩ := own_form ho9
  subst hv2
  have HRX := Lib.hid (HR9.out.setA v)
  have HB9s := Lib.hid (HB9.out.setCell (p := ⟨w.heap.size, 0, none⟩) (Nat.le_refl _) (.int .i64 v))
  have e0 := heap_cell HR9.out.h0 0
  have g0 := heap_free HR9.out.h0 0
  have e1 := heap_cell HR9.out.h1 0
  have g1 := heap_free HR9.out.h1 0
  have e2 := heap_cell HR9.out.h2 0
  have g2 := heap_free HR9.out.h2 0
  have q1 : w9.cell? ⟨w7.heap.size, 1, none⟩ = some (.slice a2 st.length c2) := heap_cell hw9 1
  have hne1 : ¬ w7.heap.size = w.heap.size := by have := HL9.out; omega
  clear hb9 hw9 ho9 c7
  go_wp2_with fail
  go_region
  all_goals
    go_wp2
    refine leaves_cons (f := 13) (args := #[.pointer (some ⟨w.heap.size, 0, none⟩), .pointer (some ⟨w.heap.size + 1, 0, none⟩), .pointer (some ⟨w.heap.size + 1 + 1, 0, none⟩)]) (by simp) (by simp [go_sem]) ?_
    refine (catch_idle _ _ _ _).mono ?_
    rintro e u' w'' ⟨rfl, rfl, rfl⟩
    have hlt := HL9.out
    exact ⟨_, res10 rfl rfl rfl ((HRX.out.put v (.slice a2 st.length c2) 0).still (Below.refl _ _).drew (HRX.out.put v (.slice a2 st.length c2) 0).lt), VP.yes HX.out ((own_set (own_set (own_set (own_set HO9.out (by omega)) (by omega)) (by omega)) (by omega)).below (Below.refl _ _).drew).inV (R3.below HB9s.out (Nat.le_refl _) _ _ _).drew⟩
theorem value_law (s : Bytes) (lv : Value) (l : List VarS) (w : World) (hv : InV w lv l) (hP : HasP w) (hV : VS l) (hvl : l.length ≤ 140737488355328) : Calls Tryd.prog 10 #[.string (B s), lv] w (VP (valueS s l) w) := by
  by_cases hs : 256 < s.length
  · exact val_long s lv l w hs
  have hs : s.length ≤ 256 := by omega
  by_cases hb : blank s = []
  · exact val_blank s lv l w hs hb
  cases hp : PL 25 .sets (blank s) with
  | none => exact val_none s lv l w hs hb hp
  | some p =>
    obtain ⟨t, r⟩ := p
    by_cases hr : blank r = []
    · cases he : ev l t [] with
      | error c => exact val_err s lv l w hs hv hP hV hvl hb t r hp hr c he
      | ok q => exact val_ok s lv l w hs hv hP hV hvl hb t r hp hr q.1 q.2 he
    · exact val_rest s lv l w hs hb t r hp hr
end Go.Proofs.YtpjjdaenckedbaaDoor
