/-
  It is proved that WalkPlays returns true for every input of bulk at most 1048576: whatever the root and whatever steps of anybody (eighty at most), each call of walk answers what the document's walk does, and the first inodes of both trees read alike.
  Conditions: none beyond the statement's own (the reading of the arguments, its bulk; internal/bytealg.MaxLen is named, not read).
-/
import Derived.Test.YtafonmnfeibaiaaGreatAll5
import Derived.Test.YtafonmnfeibaiaaGreatAll2
import Derived.RegionTactic
import Derived.BigRegion
import Derived.Laws.StructEq
import Derived.Deep.RegionHeld3
import Derived.Deep.QuietTactic
import Derived.BigQuiet
import Derived.Test.YtafonmnfeibaiaaGreatAll4
import Derived.Test.YtafonmnfeibaiaaGreatAll0
import Derived.Test.YtafonmnfeibaiaaGreatRows
import Derived.WalkKit
import Derived.ProofKit
import Derived.OpenShut
import Derived.ShutString
import Derived.ChangeOld
import Derived.SliceStrings
import Derived.JoinedCond
import Derived.Below
set_option linter.all false
set_option maxRecDepth 100000
set_option maxHeartbeats 40000000
namespace Go.Proofs.YtafonmnfeibaiaaGreat.RF
open Go.RowKit
theorem one_new (W : World) : ∀ (j : Nat) (u : Value), [Value.string ByteArray.empty][j]? = some u → (W.alloc (.cells #[.string ByteArray.empty] 9)).cell? ((⟨W.heap.size, 0, none⟩ : Addr).add j) = some u
 | 0, u, h => (cell_of (alloc_heap W (.cells #[.string ByteArray.empty] 9)) 0).trans h
 | _ + 1, u, h => by cases h
theorem NmI.step {w wr W : World} {v v0 : Value} {A : List ByteArray} {E : List (ByteArray × Nat)} {i k : Nat} {p : ByteArray × Nat} {x : ByteArray} (h : NmI w wr v0 A (E.take i)) (hrow : Nr W w.heap.size v (A.take k ++ x :: A.drop k)) (hb : Below w.heap.size w W) (hp : E[i]? = some p) (hx : p.1 = x) (hk : k ≤ A.length) (hd : ∀ y ∈ A.drop k, bs x < bs y) (ht : k = 0 ∨ ∃ y, A[k - 1]? = some y ∧ ¬ bs x < bs y) (hv : v ≠ .slice none 0 0) : NmI w W v (A.take k ++ x :: A.drop k) (E.take (i + 1)) where
 row := hrow
 bel := hb
 ord := by
  rw [List.map_append, List.map_cons, List.map_take, List.map_drop]
  refine ins_sorted h.ord (by rw [List.length_map]; exact hk) (fun y hy => ?_) ?_
  · rw [← List.map_drop] at hy
    obtain ⟨z, hz, rfl⟩ := List.mem_map.1 hy
    exact hd z hz
  · rcases ht with e | ⟨y, e1, e2⟩
    · exact .inl e
    · exact .inr ⟨bs y, by rw [List.getElem?_map, e1]; rfl, e2⟩
 mem := by
  refine (ins_perm A x k).trans ?_
  rw [List.take_add_one, hp, List.map_append]
  subst hx
  exact List.Perm.append_right _ h.mem
 nil := ⟨fun e => absurd e hv, fun e => by simp at e⟩
theorem rf_names_some {w : World} {t B : Nat} {G : Gt} {T : IT.Tr} (h : Trf w t B G T) {k : Nat} {m : IT.Nd} (hm : T k = some m) :
  Calls Tryz.prog 70 #[.pointer (some ⟨t, 0, none⟩), .int .i64 (k : Int)] w fun e w' => ∃ v A, e = .returned v ∧ NmI w w' v A (G k).ents := by
 have HI := Hd (rf_is_yes h (k : Int) hm)
 obtain ⟨hk1, hk2⟩ := h.snd.1.rng k m hm
 have c0 := h.rep.cellT
 have b9 := h.rep.c9 k hk2
 obtain ⟨a, cap, hs, hl1, hl2, hl3⟩ := (h.rep.ents k hk2).lit
 rw [hs] at b9
 have hfew := h.ties.few h.snd.1 k hk2
 have HL3 := Hd hl3
 obtain ⟨i0, hi, hz0, hz1, hz2⟩ := info_parts info_text
 clear h hm hs hl3
 generalize (G k).ents = E at *
 obtain ⟨L, hL⟩ : ∃ L, E.length = L := ⟨_, rfl⟩
 rw [hL] at b9 hl1 hfew
 have HLL := Hd hL
 have H0 : Hid (NmI w w (.slice none 0 0) [] (E.take 0)) := Hd ⟨World.ownsRow_nil w w.heap.size 9 1, Below.refl _ _, List.Pairwise.nil, List.Perm.refl _, by simp⟩
 clear hL
 go_enter Tryz.func70, Tryz.ntmps70
 go_wp2_with fail
 refine HI.out.mono ?_
 rintro e wz ⟨rfl, rfl⟩
 go_wp2_with fail
 go_loopg [6, 8] L (fun g ov iv wr => ∃ (i : Nat) (A : List ByteArray), iv = .int .i64 (i : Int) ∧ i + g = L ∧ Hid (NmI w wr ov A (E.take i)))
 case atStart => exact ⟨0, [], rfl, by omega, H0⟩
 case round =>
  clear H0
  obtain ⟨i, A, rfl, hig, HN⟩ := hrel
  by_cases hil : i < L
  · obtain ⟨og, rfl⟩ : ∃ og, gk = og + 1 := ⟨gk - 1, by omega⟩
    have hil2 : (i : Int) < L := by omega
    obtain ⟨p, hp⟩ : ∃ p, E[i]? = some p := ⟨E[i]'(by rw [HLL.out]; exact hil), List.getElem?_eq_getElem _⟩
    obtain ⟨ge, rfl, hce, _⟩ := HL3.out i p hp
    obtain ⟨oa, ocap, rfl, ho1, ho2, _⟩ := HN.out.row.lit
    have hA : A.length = i := by
     have := HN.out.mem.length_eq
     rw [List.length_map, List.length_take, HLL.out] at this
     omega
    go_wp2_with (at_builtin; refine wpList_append_own _ rfl _ _ 52 rfl w.heap.size 9 i0 (.string ByteArray.empty) 1 16 Tryz.underlying52 hi hz0 hz1 hz2 rfl (by decide) _ _ _ rfl (HN.out.row.below ((Below.refl _ _).alloc (Nat.le_refl _) _)) ⟨_, 0, none⟩ 1 1 [.string ByteArray.empty] rfl rfl (one_new _) (by simp [Value.oneCell']) (by unfold maxLen; omega) (by omega) (by have := HN.out.bel.size; rw [alloc_size]; omega) ?_; intro v2 w2 hown2 hgrow2 hnil2)
    have hn2 : Nr w2 w.heap.size v2 (A.take i ++ ByteArray.empty :: A.drop i) := by
     have e1 : A.take i ++ ByteArray.empty :: A.drop i = A ++ [ByteArray.empty] := by rw [← hA, List.take_length, List.drop_length]
     unfold Nr
     rw [e1, List.length_append, List.map_append]
     exact hown2
    have hb2 : Below w.heap.size w w2 := (HN.out.bel.alloc HN.out.bel.size _).trans ((Below.refl _ _).grown hgrow2 (by have := HN.out.bel.size; rw [alloc_size]; omega) (own_ge HN.out.row))
    obtain ⟨a2, cap2, rfl, g1, g2, _⟩ := hn2.lit
    have hlen2 : (A.take i ++ ByteArray.empty :: A.drop i).length = i + 1 := by simp; omega
    rw [hlen2] at g1 hn2 ⊢
    have HI2 : Hid (Nr w2 w.heap.size (.slice a2 (i + 1) cap2) (A.take i ++ ByteArray.empty :: A.drop i) ∧ Below w.heap.size w w2 ∧ ∀ y ∈ A.drop i, bs p.1 < bs y) := Hd ⟨hn2, hb2, by rw [← hA, List.drop_length]; simp⟩
    have HP := Hd hp
    have HCE : Hid (∀ W, Below w.heap.size w W → W.cell? ⟨ge, i * 2, none⟩ = some (.string p.1)) := Hd (fun W hb => (hb.cell (p := ⟨ge, i * 2, none⟩) (World.block_lt_of_cell? w ⟨ge, i * 2, none⟩ hce)).trans hce)
    have hv2 : Value.slice a2 (i + 1) cap2 ≠ .slice none 0 0 := by simp
    have HV := Hd hv2
    clear hv2
    clear hp hown2 hgrow2 hnil2 hn2 hb2 hlen2 hce
    obtain ⟨x, hx⟩ : ∃ x, p.1 = x := ⟨_, rfl⟩
    rw [hx] at HCE HI2
    have HX := Hd hx
    clear hx
    go_wp2_with fail
    go_loopg [9] i (fun g kv wr => ∃ (j : Nat) (u : ByteArray), kv = .int .i64 (j : Int) ∧ g = j ∧ j ≤ i ∧ Hid (Nr wr w.heap.size (.slice a2 (i + 1) cap2) (A.take j ++ u :: A.drop j) ∧ Below w.heap.size w wr ∧ ∀ y ∈ A.drop j, bs x < bs y))
    case atStart => exact ⟨i, _, rfl, rfl, Nat.le_refl _, HI2⟩
    case round =>
     clear HI2
     obtain ⟨j0, u, rfl, hgj, hji, HI2⟩ := hrel
     have hce : wr.cell? ⟨ge, i * 2, none⟩ = some (.string x) := HCE.out _ HI2.out.2.1
     obtain rfl | ⟨j, rfl⟩ : j0 = 0 ∨ ∃ j, j0 = j + 1 := by cases j0; exact .inl rfl; exact .inr ⟨_, rfl⟩
     · have HIO : Hid (∀ W : World, Nr W w.heap.size (.slice a2 (i + 1) cap2) (A.take 0 ++ u :: A.drop 0) → ∃ go, a2 = some ⟨go, 0, none⟩ ∧ w.heap.size ≤ go ∧ W.cell? ⟨go, 0, none⟩ = some (.string u) ∧ W.frozen? ⟨go, 0, none⟩ = false ∧ Nr (W.setCell ⟨go, 0, none⟩ (.string x)) w.heap.size (.slice a2 (i + 1) cap2) (A.take 0 ++ x :: A.drop 0)) := Hd (fun W hW => by
        obtain ⟨a3, cap3, e3, _, _, hl4⟩ := hW.lit
        obtain ⟨go, ha3, hgo, hcu, hfu, hst⟩ := hl4 0 u rfl
        have e4 : a2 = a3 := by simp only [Value.slice.injEq] at e3; exact e3.1
        refine ⟨go, e4.trans ha3, hgo, hcu, hfu, ?_⟩
        have := hst x; rw [hole_fill (Nat.zero_le _)] at this; exact this)
       obtain ⟨go, rfl, hgo, _, _, _⟩ := HIO.out wr HI2.out.1
       go_upto_region 11 with fail
       go_quiet (fail)
       rename_i nq
       have hrow := HI2.out.1.below (belowDrewN (Below.refl wr.heap.size wr) nq)
       have hbl := HI2.out.2.1.trans ((belowDrewN (Below.refl wr.heap.size wr) nq).mono HI2.out.2.1.size)
       clear hce
       generalize wr.drewN nq = W at *
       have hce := HCE.out _ hbl
       obtain ⟨go', e5, hgo', hcu, hfu, hn1⟩ := HIO.out W hrow
       obtain rfl : go = go' := by simpa using e5
       have HN1 := Hd (HN.out.step (k := 0) hn1 (hbl.setCell hgo _) HP.out HX.out (Nat.zero_le _) HI2.out.2.2 (.inl rfl) HV.out)
       have hi1 : (0 : Int) < (i : Int) + 1 := by omega
       clear hrow hbl hn1
       go_wp2
       go_roundg og
       case measure => omega
       case rel => exact ⟨i + 1, _, by go_num, by omega, HN1⟩
     · obtain rfl : gk = j + 1 := hgj
       obtain ⟨y, hy⟩ : ∃ y, A[j]? = some y := ⟨A[j]'(by omega), List.getElem?_eq_getElem _⟩
       have HIO : Hid (∀ W : World, Nr W w.heap.size (.slice a2 (i + 1) cap2) (A.take (j + 1) ++ u :: A.drop (j + 1)) → ∃ go, a2 = some ⟨go, 0, none⟩ ∧ w.heap.size ≤ go ∧ W.cell? ⟨go, j, none⟩ = some (.string y) ∧ W.cell? ⟨go, j + 1, none⟩ = some (.string u) ∧ W.frozen? ⟨go, j + 1, none⟩ = false ∧ Nr (W.setCell ⟨go, j + 1, none⟩ (.string y)) w.heap.size (.slice a2 (i + 1) cap2) (A.take j ++ y :: A.drop j) ∧ Nr (W.setCell ⟨go, j + 1, none⟩ (.string x)) w.heap.size (.slice a2 (i + 1) cap2) (A.take (j + 1) ++ x :: A.drop (j + 1))) := Hd (fun W hW => by
        obtain ⟨a3, cap3, e3, _, _, hl4⟩ := hW.lit
        obtain ⟨go, ha3, hgo, hcy, _, _⟩ := hl4 j y (by rw [hole_at (by omega) j (by omega)]; exact hy)
        obtain ⟨go2, ha4, _, hcu, hfu, hst⟩ := hl4 (j + 1) u (by rw [List.getElem?_append_right (by rw [List.length_take]; omega), List.length_take, Nat.min_eq_left (by omega), Nat.sub_self]; rfl)
        obtain rfl : go = go2 := by rw [ha3] at ha4; simpa using ha4
        have e4 : a2 = a3 := by simp only [Value.slice.injEq] at e3; exact e3.1
        refine ⟨go, e4.trans ha3, hgo, hcy, hcu, hfu, ?_, ?_⟩
        · have := hst y; rw [hole_down hy] at this; exact this
        · have := hst x; rw [hole_fill (by omega)] at this; exact this)
       obtain ⟨go, rfl, hgo, hcy, _, _, _, _⟩ := HIO.out wr HI2.out.1
       have hj1 : (0 : Int) < (j : Int) + 1 := by omega
       have hj2 : (j : Int) < (i : Int) + 1 := by omega
       have HY := Hd hy
       clear hy
       by_cases hc : bs x < bs y
       · have hz := more_yes hc
         have HC := Hd hc
         clear hc
         go_upto_region 11 with fail
         go_quiet (fail)
         rename_i nq
         have hrow := HI2.out.1.below (belowDrewN (Below.refl wr.heap.size wr) nq)
         have hbl := HI2.out.2.1.trans ((belowDrewN (Below.refl wr.heap.size wr) nq).mono HI2.out.2.1.size)
         clear hcy hce
         generalize wr.drewN nq = W at *
         obtain ⟨go', e5, hgo', hcy, hcu, hfu, hn1, _⟩ := HIO.out W hrow
         obtain rfl : go = go' := by simpa using e5
         have HN1 : Hid (Nr (W.setCell ⟨go, j + 1, none⟩ (.string y)) w.heap.size (.slice (some ⟨go, 0, none⟩) (i + 1) cap2) (A.take j ++ y :: A.drop j) ∧ Below w.heap.size w (W.setCell ⟨go, j + 1, none⟩ (.string y)) ∧ ∀ z ∈ A.drop j, bs x < bs z) := Hd ⟨hn1, hbl.setCell hgo _, fun z hz => by
          rw [List.drop_eq_getElem_cons (by omega)] at hz
          rcases List.mem_cons.1 hz with rfl | hz
          · have := (List.getElem?_eq_some_iff.1 HY.out).2; rw [this]; exact HC.out
          · exact HI2.out.2.2 z hz⟩
         clear hrow hbl hn1
         go_wp2
         go_roundg j
         case measure => omega
         case rel => exact ⟨j, y, by go_num, rfl, by omega, HN1⟩
       · have hz := more_no hc
         have HC := Hd hc
         clear hc
         go_upto_region 11 with fail
         go_quiet (fail)
         rename_i nq
         have hrow := HI2.out.1.below (belowDrewN (Below.refl wr.heap.size wr) nq)
         have hbl := HI2.out.2.1.trans ((belowDrewN (Below.refl wr.heap.size wr) nq).mono HI2.out.2.1.size)
         clear hcy hce
         generalize wr.drewN nq = W at *
         have hce := HCE.out _ hbl
         obtain ⟨go', e5, hgo', _, hcu, hfu, _, hn1⟩ := HIO.out W hrow
         obtain rfl : go = go' := by simpa using e5
         have HN1 := Hd (HN.out.step (k := j + 1) hn1 (hbl.setCell hgo _) HP.out HX.out (by omega) HI2.out.2.2 (.inr ⟨y, HY.out, HC.out⟩) HV.out)
         clear hrow hbl hn1
         go_wp2
         go_roundg og
         case measure => omega
         case rel => exact ⟨i + 1, _, by go_num, by omega, HN1⟩
  · have hil2 : (L : Int) ≤ i := by omega
    have hf := HN.out
    rw [show i = E.length by rw [HLL.out]; omega, List.take_length] at hf
    have HF := Hd hf
    clear hf
    go_wp2
    go_ret
    exact ⟨_, _, rfl, HF.out⟩
theorem enc_bs (a : ByteArray) : encStr (bs a) = Value.string a := by
 show Value.string (tx (bs a)) = Value.string a
 congr 1
theorem rf_names_no {w : World} {t B : Nat} {G : Gt} {T : IT.Tr} (h : Trf w t B G T) (ki : Int) (hm : T ki.toNat = none) :
  Calls Tryz.prog 70 #[.pointer (some ⟨t, 0, none⟩), .int .i64 ki] w fun e w' => e = .returned (.slice none 0 0) ∧ w = w' := by
 have HI := Hd (rf_is_no h ki hm)
 clear h hm
 go_enter Tryz.func70, Tryz.ntmps70
 go_wp2_with fail
 refine HI.out.mono ?_
 rintro e wz ⟨rfl, rfl⟩
 go_wp2
 go_ret
 exact ⟨rfl, rfl⟩
theorem rf_names {w : World} {t B : Nat} {G : Gt} {T : IT.Tr} (h : Trf w t B G T) (ki : Int) :
  Calls Tryz.prog 70 #[.pointer (some ⟨t, 0, none⟩), .int .i64 ki] w fun e w' => ∃ v, e = .returned v ∧ w'.ownsRow w.heap.size 9 1 v (namesT T ki.toNat).length ((namesT T ki.toNat).map encStr) ∧ (v = .slice none 0 0 ↔ namesT T ki.toNat = []) ∧ Below w.heap.size w w' := by
 cases hm : T ki.toNat with
 | none =>
   refine (rf_names_no h ki hm).mono ?_
   rintro e w' ⟨rfl, rfl⟩
   have e0 : namesT T ki.toNat = [] := by unfold namesT; rw [hm]
   rw [e0]
   exact ⟨_, rfl, World.ownsRow_nil w w.heap.size 9 1, by simp, Below.refl _ _⟩
 | some m =>
   obtain ⟨k, rfl, _, _, hk⟩ := h.nat hm
   refine (rf_names_some h hk).mono ?_
   rintro e w' ⟨v, A, rfl, hn⟩
   have e0 : namesT T (k : Int).toNat = m.names.map (·.1) := by unfold namesT; rw [hm]
   have hp : (A.map bs).Perm (m.names.map (·.1)) := by
    have h1 := hn.mem.map bs
    have h2 := ((h.ties.sok k m hk).names).map (·.1)
    refine h1.trans ?_
    have e1 : (ents (G k).ents).map (·.1) = ((G k).ents.map (·.1)).map bs := by unfold ents; rw [List.map_map, List.map_map]; rfl
    rw [← e1]
    exact h2
   have e1 := sorted_names hn.ord (h.snd.1.ord k m hk) hp
   have e2 : (m.names.map (·.1)).map encStr = A.map Value.string := by
    rw [← e1, List.map_map]
    refine List.map_congr_left fun a _ => ?_
    exact enc_bs a
   have e3 : (m.names.map (·.1)).length = A.length := by rw [← e1, List.length_map]
   rw [e0, e2, e3]
   refine ⟨v, rfl, hn.row, hn.nil.trans ?_, hn.bel⟩
   rw [← e1]
   simp
end Go.Proofs.YtafonmnfeibaiaaGreat.RF
namespace Go.Proofs.YtafonmnfeibaiaaGreat
open Go.RowKit
def Sl (w : World) (v : Value) (l : List ByteArray) : Prop :=
 ∃ a cap, v = .slice a l.length cap ∧ ∀ j (h : j < l.length), ∃ b off, a = some ⟨b, off, none⟩ ∧ w.cell? ⟨b, off + j, none⟩ = some (.string l[j])
theorem Sl.of_own {w : World} {base : Nat} {v : Value} {l : List ByteArray} (h : w.ownsRow base 9 1 v l.length (l.map .string)) : Sl w v l := by
 obtain ⟨_, ⟨rfl, h0⟩ | ⟨g, cap, cur, rfl, hb, hh, hn, hc, hs, ht⟩⟩ := h
 · exact ⟨none, 0, by rw [h0], fun j hj => by omega⟩
 · refine ⟨_, cap, rfl, fun j hj => ⟨g, 0, rfl, ?_⟩⟩
   have h1 : (l.map Value.string)[j]? = some (.string l[j]) := by simp [hj]
   rw [← ht, List.getElem?_take] at h1
   rw [if_pos (by omega)] at h1
   simpa [World.cell?, hh] using h1
theorem same_eq (w : World) (v u : Value) (l : List ByteArray) (h : Sl w v l) (g : Sl w u l) (hl : l.length ≤ 1000000) :
  Calls Tryz.prog 27 #[v, u] w fun e w' => e = .returned (.bool true) ∧ ∃ k, w' = w.drewN k := by
 obtain ⟨a, ca, rfl, ha⟩ := h
 obtain ⟨b, cb, rfl, hb⟩ := g
 have HA := Hd ha
 have HB := Hd hb
 have hl1 : (l.length : Int) ≤ 1000000 := by omega
 clear ha hb
 go_enter Tryz.func27, Tryz.ntmps27
 go_wp2
 go_loopw [5] (fun i wr => ∃ k q : Nat, k ≤ l.length ∧ i = .int .i64 k ∧ wr = w.drewN q) (fun i _ => l.length - (intOf i).toNat)
 case atStart => exact ⟨0, 0, Nat.zero_le _, rfl, rfl⟩
 case round =>
  obtain ⟨k, q, hk, rfl, rfl⟩ := hrel
  by_cases hlt : k < l.length
  · obtain ⟨ba, oa, rfl, hca⟩ := HA.out k hlt
    obtain ⟨bb, ob, rfl, hcb⟩ := HB.out k hlt
    generalize l[k] = x at hca hcb
    have hlt1 : (k : Int) < l.length := by omega
    go_wp2
    go_quiet (fail)
    go_wp2
    go_roundw
    case rel => exact ⟨k + 1, q + nq, by omega, by go_num, rfl⟩
    case measure => simp [intOf]; omega
  · go_wp2
    go_ret
    exact ⟨rfl, _, rfl⟩
theorem Sl.names {w : World} {base : Nat} {T : IT.Tr} {k : Nat} {v : Value} (h : w.ownsRow base 9 1 v (namesT T k).length ((namesT T k).map encStr)) : Sl w v ((namesT T k).map tx) := by
 refine Sl.of_own (base := base) ?_
 rw [List.length_map, List.map_map]
 exact h
theorem Sl.below {w w' : World} {v : Value} {l : List ByteArray} (h : Sl w v l) (hb : Below w.heap.size w w') : Sl w' v l := by
 obtain ⟨a, cap, e, hc⟩ := h
 refine ⟨a, cap, e, fun j hj => ?_⟩
 obtain ⟨b, off, e1, e2⟩ := hc j hj
 exact ⟨b, off, e1, (hb.cell (p := ⟨b, off + j, none⟩) (World.block_lt_of_cell? w ⟨b, off + j, none⟩ e2)).trans e2⟩
theorem eqF_same {P : Program} (ht : P.underlying 3 = some (.int .i64)) (w : World) (d : Nat) (xs : Array Value) : ∀ fs : List Field, (∀ f ∈ fs, f.type = 3 ∧ ∃ i : Int, (part f.type xs f.offset).run P w = .ok (.int .i64 i) w) → (Op.eqFields (d + 1) xs xs fs).run P w = .ok true w
 | [], _ => by rw [Op.eqFields]; rfl
 | f :: fs, h => by
   obtain ⟨h1, i, h2⟩ := h f (List.mem_cons_self ..)
   have ih := eqF_same ht w d xs fs (fun g hg => h g (List.mem_cons_of_mem _ hg))
   have h3 := run_equalIn_int w d f.type .i64 .i64 i i (by rw [h1]; exact ht)
   rw [Op.eqFields]
   by_cases hn : f.name ≠ "_"
   · rw [if_pos hn]
     simp [h2, h3, ih]
   · rw [if_neg hn]; exact ih
theorem info_fields : (Tryz.prog.fieldsOf 44).toList.all (fun f => decide (f.type = 3 ∧ f.offset < 8)) = true := by kernel_rfl
theorem info_eqin (w : World) (i0 i1 i2 i3 i4 i5 i6 i7 : Int) : (Op.equalIn 10000 44 (.agg #[.int .i64 i0, .int .i64 i1, .int .i64 i2, .int .i64 i3, .int .i64 i4, .int .i64 i5, .int .i64 i6, .int .i64 i7]) (.agg #[.int .i64 i0, .int .i64 i1, .int .i64 i2, .int .i64 i3, .int .i64 i4, .int .i64 i5, .int .i64 i6, .int .i64 i7])).run Tryz.prog w = .ok true w := by
 rw [run_equalIn_struct w 9999 44 _ _ (by kernel_rfl) (by kernel_rfl), eqF_same Tryz.underlying3 w 9998]
 intro f hf
 have := List.all_eq_true.1 info_fields f hf
 obtain ⟨e1, e2⟩ := of_decide_eq_true this
 refine ⟨e1, ?_⟩
 rw [e1]
 have key : ∀ o, o < 8 → ∃ i : Int, (part 3 #[.int .i64 i0, .int .i64 i1, .int .i64 i2, .int .i64 i3, .int .i64 i4, .int .i64 i5, .int .i64 i6, .int .i64 i7] o).run Tryz.prog w = .ok (.int .i64 i) w := fun o ho => by
  obtain rfl | rfl | rfl | rfl | rfl | rfl | rfl | rfl : o = 0 ∨ o = 1 ∨ o = 2 ∨ o = 3 ∨ o = 4 ∨ o = 5 ∨ o = 6 ∨ o = 7 := by omega
  · exact ⟨i0, by kernel_rfl⟩
  · exact ⟨i1, by kernel_rfl⟩
  · exact ⟨i2, by kernel_rfl⟩
  · exact ⟨i3, by kernel_rfl⟩
  · exact ⟨i4, by kernel_rfl⟩
  · exact ⟨i5, by kernel_rfl⟩
  · exact ⟨i6, by kernel_rfl⟩
  · exact ⟨i7, by kernel_rfl⟩
 exact key _ e2
theorem info_neq (w : World) (i0 i1 i2 i3 i4 i5 i6 i7 : Int) : (binOp .neq 44 (.agg #[.int .i64 i0, .int .i64 i1, .int .i64 i2, .int .i64 i3, .int .i64 i4, .int .i64 i5, .int .i64 i6, .int .i64 i7]) (.agg #[.int .i64 i0, .int .i64 i1, .int .i64 i2, .int .i64 i3, .int .i64 i4, .int .i64 i5, .int .i64 i6, .int .i64 i7])).run Tryz.prog w = .ok (.bool false) w := by
 rw [run_neq_struct, info_eqin]; rfl
theorem statV_ints (T : IT.Tr) (k : Nat) : ∃ i0 i1 i2 i3 i4 i5 i6 i7 : Int, statV T k = .agg #[.int .i64 i0, .int .i64 i1, .int .i64 i2, .int .i64 i3, .int .i64 i4, .int .i64 i5, .int .i64 i6, .int .i64 i7] := by
 unfold statV
 cases T k with
 | none => exact ⟨_, _, _, _, _, _, _, _, rfl⟩
 | some m => exact ⟨_, _, _, _, _, _, _, _, rfl⟩
theorem namesT_few {T : IT.Tr} (hs : IT.Sound0 okN T) (d : Nat) : (namesT T d).length ≤ 40 := by
 unfold namesT
 cases hd : T d with
 | none => exact Nat.zero_le _
 | some m => dsimp only; rw [List.length_map]; exact hs.few d m hd
theorem same7_any {n0 : Nat} {w0 w : World} {t : Nat} {S : Tab} {T : IT.Tr} {r B : Nat} {G : RF.Gt} (h : Duo n0 w0 w t S T r B G T) :
  Calls Tryz.prog 31 #[.pointer (some ⟨t, 0, none⟩), .pointer (some ⟨r, 0, none⟩)] w fun e w' => e = .returned (.bool true) ∧ Below w.heap.size w w' := by
 have HI0 := Hd (And.intro h (Below.refl w.heap.size w))
 clear h
 go_enter Tryz.func31, Tryz.ntmps31
 go_wp2_with fail
 go_loopg [5] 20 (fun g iv wr => ∃ i : Nat, iv = .int .i64 (i : Int) ∧ i + g = 21 ∧ 1 ≤ i ∧ Hid (Duo n0 w0 wr t S T r B G T ∧ Below w.heap.size w wr))
 case atStart => exact ⟨1, rfl, rfl, by omega, HI0⟩
 case round =>
  clear HI0
  obtain ⟨i, rfl, hig, hi1, HI⟩ := hrel
  by_cases hi : i ≤ 20
  · obtain ⟨og, rfl⟩ : ∃ og, gk = og + 1 := ⟨gk - 1, by omega⟩
    have hi2 : (i : Int) ≤ 20 := by omega
    obtain ⟨i0, i1, i2, i3, i4, i5, i6, i7, hst⟩ := statV_ints T i
    have HS1 : Hid (∀ W, Below wr.heap.size wr W → Calls Tryz.prog 17 #[.pointer (some ⟨t, 0, none⟩), .int .i64 (i : Int)] W fun e w' => e = .returned (.tuple #[.agg #[.int .i64 i0, .int .i64 i1, .int .i64 i2, .int .i64 i3, .int .i64 i4, .int .i64 i5, .int .i64 i6, .int .i64 i7], .bool (T i).isSome]) ∧ Below W.heap.size W w') := Hd (fun W hb => by have := stat_any (HI.out.1.below hb).a.tre (i : Int); rw [Int.toNat_natCast, hst] at this; exact this)
    have HS2 : Hid (∀ W, Below wr.heap.size wr W → Calls Tryz.prog 69 #[.pointer (some ⟨r, 0, none⟩), .int .i64 (i : Int)] W fun e w' => e = .returned (.tuple #[.agg #[.int .i64 i0, .int .i64 i1, .int .i64 i2, .int .i64 i3, .int .i64 i4, .int .i64 i5, .int .i64 i6, .int .i64 i7], .bool (T i).isSome]) ∧ Below W.heap.size W w') := Hd (fun W hb => by have := RF.rf_stat (HI.out.1.below hb).b (i : Int); rw [Int.toNat_natCast, hst] at this; exact this)
    clear hst
    generalize (T i).isSome = q0 at *
    go_wp2_with fail
    refine (HS1.out wr (Below.refl _ _)).mono ?_
    rintro e w1 ⟨rfl, hb1⟩
    have hx0 := alloc_heap w1 (.cells #[.int .i64 i0, .int .i64 i1, .int .i64 i2, .int .i64 i3, .int .i64 i4, .int .i64 i5, .int .i64 i6, .int .i64 i7] 44)
    have hb2 := hb1.alloc hb1.size (.cells #[.int .i64 i0, .int .i64 i1, .int .i64 i2, .int .i64 i3, .int .i64 i4, .int .i64 i5, .int .i64 i6, .int .i64 i7] 44)
    have HBA := Hd hb2
    clear hb1
    go_wp2_with fail
    refine (HS2.out _ HBA.out).mono ?_
    rintro e w3 ⟨rfl, hb3⟩
    have hb4 : Below wr.heap.size wr w3 := HBA.out.trans (hb3.mono HBA.out.size)
    have hx1 := (hb3.block w1.heap.size (by rw [alloc_size]; omega)).trans hx0
    have hx2 := (alloc_heap_old w3 (.cells #[.int .i64 i0, .int .i64 i1, .int .i64 i2, .int .i64 i3, .int .i64 i4, .int .i64 i5, .int .i64 i6, .int .i64 i7] 44) (lt_of_heap hx1)).trans hx1
    have hx3 := alloc_heap w3 (.cells #[.int .i64 i0, .int .i64 i1, .int .i64 i2, .int .i64 i3, .int .i64 i4, .int .i64 i5, .int .i64 i6, .int .i64 i7] 44)
    have hb5 := hb4.alloc hb4.size (.cells #[.int .i64 i0, .int .i64 i1, .int .i64 i2, .int .i64 i3, .int .i64 i4, .int .i64 i5, .int .i64 i6, .int .i64 i7] 44)
    go_wp2_with fail
    clear hb3 hb4 hx0 hx1 hb2 HBA
    generalize w3.alloc (.cells #[.int .i64 i0, .int .i64 i1, .int .i64 i2, .int .i64 i3, .int .i64 i4, .int .i64 i5, .int .i64 i6, .int .i64 i7] 44) = w4 at *
    generalize w3.heap.size = D2 at *
    generalize w1.heap.size = D1 at *
    have HB5 := Hd hb5
    have HX2 := Hd hx2
    have HX3 := Hd hx3
    have HD4 := Hd (HI.out.1.below hb5)
    have h40 : ((namesT T i).map tx).length ≤ 1000000 := by
     rw [List.length_map]
     have := namesT_few HD4.out.a.snd.1 i
     omega
    clear hb5 hx2 hx3
    refine (names_any HD4.out.a.tre (i : Int)).mono ?_
    rintro e w5 ⟨v, rfl, hown, hnil, hb⟩
    have HB6 := Hd hb
    have HSL := Hd (Sl.names hown)
    clear hown hnil hb
    go_wp2_with fail
    refine (RF.rf_names (HD4.out.below HB6.out).b (i : Int)).mono ?_
    rintro e w6 ⟨v2, rfl, hown, hnil, hb⟩
    have hbw : Below w4.heap.size w4 w6 := HB6.out.trans (hb.mono HB6.out.size)
    have HS := Hd (same_eq w6 v v2 ((namesT T i).map tx) (HSL.out.below hb) (Sl.names hown) h40)
    have HB7 := Hd hbw
    clear hown hnil hb hbw h40 HSL HB6
    go_wp2_with fail
    refine HS.out.mono ?_
    rintro e w7 ⟨rfl, nq, rfl⟩
    have hb8 : Below w4.heap.size w4 (w6.drewN nq) := belowDrewN HB7.out nq
    have HB9 := Hd (HB5.out.trans (hb8.mono HB5.out.size))
    have x1 := (hb8.block D1 (lt_of_heap HX2.out)).trans HX2.out
    have x2 := (hb8.block D2 (lt_of_heap HX3.out)).trans HX3.out
    clear hb8 HS HB7 HD4 HS1 HS2
    generalize w6.drewN nq = w8 at *
    have HDW := Hd (HI.out.1.below HB9.out)
    have d0 : w8.cell? ⟨D1, 0, none⟩ = some (.int .i64 i0) := cell_of x1 0
    have d1 : w8.cell? ⟨D1, 1, none⟩ = some (.int .i64 i1) := cell_of x1 1
    have d2 : w8.cell? ⟨D1, 2, none⟩ = some (.int .i64 i2) := cell_of x1 2
    have d3 : w8.cell? ⟨D1, 3, none⟩ = some (.int .i64 i3) := cell_of x1 3
    have d4 : w8.cell? ⟨D1, 4, none⟩ = some (.int .i64 i4) := cell_of x1 4
    have d5 : w8.cell? ⟨D1, 5, none⟩ = some (.int .i64 i5) := cell_of x1 5
    have d6 : w8.cell? ⟨D1, 6, none⟩ = some (.int .i64 i6) := cell_of x1 6
    have d7 : w8.cell? ⟨D1, 7, none⟩ = some (.int .i64 i7) := cell_of x1 7
    have f0 : w8.cell? ⟨D2, 0, none⟩ = some (.int .i64 i0) := cell_of x2 0
    have f1 : w8.cell? ⟨D2, 1, none⟩ = some (.int .i64 i1) := cell_of x2 1
    have f2 : w8.cell? ⟨D2, 2, none⟩ = some (.int .i64 i2) := cell_of x2 2
    have f3 : w8.cell? ⟨D2, 3, none⟩ = some (.int .i64 i3) := cell_of x2 3
    have f4 : w8.cell? ⟨D2, 4, none⟩ = some (.int .i64 i4) := cell_of x2 4
    have f5 : w8.cell? ⟨D2, 5, none⟩ = some (.int .i64 i5) := cell_of x2 5
    have f6 : w8.cell? ⟨D2, 6, none⟩ = some (.int .i64 i6) := cell_of x2 6
    have f7 : w8.cell? ⟨D2, 7, none⟩ = some (.int .i64 i7) := cell_of x2 7
    have heq := fun W => info_neq W i0 i1 i2 i3 i4 i5 i6 i7
    have HDA := Hd (data_any HDW.out.a.tre (i : Int))
    have HDB : Hid (Calls Tryz.prog 72 #[.pointer (some ⟨r, 0, none⟩), .int .i64 (i : Int)] w8 fun e w' => e = .returned (.string (tx (dataT T (i : Int).toNat))) ∧ w8 = w') := Hd (by
     have := RF.rf_data HDW.out.b (i : Int)
     unfold dataT
     cases hT : T (i : Int).toNat <;> rw [hT] at this <;> exact this)
    clear x1 x2
    have hqq : (q0 != q0) = false := by simp
    go_wp2_with fail
    refine HDA.out.mono ?_
    rintro e w9 ⟨rfl, rfl⟩
    go_wp2_with fail
    refine HDB.out.mono ?_
    rintro e w9 ⟨rfl, rfl⟩
    have HN := Hd (And.intro HDW.out (HI.out.2.trans (HB9.out.mono HI.out.2.size)))
    clear HDA HDB
    go_wp2
    go_roundg og
    case measure => omega
    case rel => exact ⟨i + 1, by go_num, by omega, by omega, HN⟩
  · obtain rfl : i = 21 := by omega
    have hi2 : ¬ ((21 : Nat) : Int) ≤ 20 := by decide
    clear hi
    go_wp2
    go_ret
    exact ⟨rfl, HI.out.2⟩
def s7r : IT.Nd := ⟨1, 493, 0, 0, 0, 0, [], [], 1⟩
def s7d : IT.Nd := { newN (whoC 0 0) 1 448 2 with holds := 0 }
def s71 : IT.Tr := IT.entT (IT.upd (IT.rootT 493 0 0) 2 (some s7d)) 1 2 [100] s7r s7d
def s7d2 : IT.Nd := ⟨1, 448, 5, 5, 0, 0, [], [], 1⟩
def s72 : IT.Tr := IT.upd s71 2 (some s7d2)
def s7f : IT.Nd := newN (whoC 5 5) 0 420 3
def s73 : IT.Tr := IT.entT (IT.upd s72 3 (some s7f)) 2 3 [120] s7d2 s7f
theorem rt_of {m o g : Int} (h : rightB m o g = true) : rt m o g := h
theorem s7_mkdir {r : Int} {T' : IT.Tr} (h : isMkdir (IT.rootT 493 0 0) (whoC 0 0) 1 [47, 100] 448 r T') : r = 0 ∧ T' = s71 :=
 mkdir_new (IT.rootT_sound okN 493 0 0) (d := 1) (n := s7r) (nm := [100]) (must := false) (by kernel_rfl) rfl rfl (by decide +kernel) rfl (by decide) (by decide +kernel) (by decide +kernel) (rt_of (by decide +kernel)) (j := 2) ⟨by omega, by omega, rfl, fun k h1 h2 => (show k = 1 by omega) ▸ (show IT.rootT 493 0 0 1 ≠ none from fun e => by cases e)⟩ h
theorem s7_chown {r : Int} {T' : IT.Tr} (h : isChown s71 (whoC 0 0) 1 [100] 5 5 r T') : r = 0 ∧ T' = s72 := by
 unfold isChown at h
 have hf : findT s71 (whoC 0 0) 1 [100] = (2, 0) := by kernel_rfl
 rw [hf, if_neg (by decide)] at h
 obtain ⟨m, hm, h⟩ := h
 have e2 : s71 2 = some ⟨1, 448, 0, 0, 0, 0, [], [], 1⟩ := by kernel_rfl
 rw [e2] at hm
 obtain rfl := Option.some.inj hm
 rw [if_neg (by decide)] at h
 unfold IT.isSet at h
 rw [e2] at h
 dsimp only at h
 rw [if_neg (fun hh => hh (rt_of (by decide +kernel)))] at h
 exact h
theorem s7_open {i : Nat} {r : Int} {T' : IT.Tr} (hs : IT.Sound okN s72) (h : isOpen s72 (whoC 5 5) 1 [47, 100, 47, 120] ⟨2, true, false, false, false, 420⟩ i r T') : i = 3 ∧ r = 0 ∧ T' = s73 := by
 unfold isOpen at h
 have he : entryT s72 (whoC 5 5) 1 [47, 100, 47, 120] = .ok ⟨2, [120], false, none⟩ := by kernel_rfl
 rw [if_neg (by decide +kernel), if_pos rfl, he] at h
 dsimp only at h
 rw [if_neg (by decide)] at h
 obtain ⟨m, hm, h⟩ := h
 have e2 : s72 2 = some s7d2 := by kernel_rfl
 rw [e2] at hm
 obtain rfl := Option.some.inj hm
 rw [show mayN s7d2 (whoC 5 5) 2 = true by decide +kernel] at h
 exact makes_new hs e2 rfl (by decide +kernel) rfl (by decide) (.inl rfl) (rt_of (by decide +kernel)) (j := 3) ⟨by omega, by omega, by kernel_rfl, fun k h1 h2 => by
  rcases (show k = 1 ∨ k = 2 by omega) with rfl | rfl
  · rw [show s72 1 = some { s7r with names := [([100], 2)] } by kernel_rfl]; exact fun e => by cases e
  · rw [e2]; exact fun e => by cases e⟩ h
theorem s7_remove {r : Int} {T' : IT.Tr} (h : isWRemove s73 (whoC 6 6) 1 [47, 100, 47, 120] false r T') : r = 4 ∧ T' = s73 := by
 unfold isWRemove at h
 have he : entryT s73 (whoC 6 6) 1 [47, 100, 47, 120] = .error 4 := by kernel_rfl
 rw [he] at h
 exact h
theorem hb_few {T : IT.Tr} (h : (List.range 201).all (fun k => match T k with
  | none => true
  | some m => decide (m.holds ≤ 1000)) = true) (hs : IT.Sound okN T) : HB T 1000 := fun k m hk => by
 have hr := hs.1.rng k m hk
 have h2 := List.all_eq_true.1 h k (by simp; omega)
 rw [hk] at h2
 exact of_decide_eq_true h2
theorem shown7_any (w : World) : Calls Tryz.prog 8 #[] w fun e w' => e = .returned (.bool true) ∧ Below w.heap.size w w' := by
 go_enter Tryz.func8, Tryz.ntmps8
 go_wp2_with fail
 refine (new_ok _ _ _ _ (by decide +kernel)).mono ?_
 rintro e w1 ⟨t, S0, rfl, h0⟩
 have H0 := Hd h0
 clear h0
 go_wp2_with fail
 refine (who_any _ _ _).mono ?_
 rintro e w2 ⟨rfl, hb⟩
 have H1 := Hd (H0.out.below hb)
 clear hb
 go_wp2_with fail
 refine (walkMkdir_any H1.out.tre ((hb_few (by decide +kernel) H1.out.snd).mono (by decide)) 1 (whoC 0 0) _ _).mono ?_
 rintro e w3 ⟨r, rfl, hst⟩
 obtain ⟨S1, T1, h1, hr, _⟩ := H1.out.stp hst fun T' h => h.sound H1.out.snd
 obtain ⟨rfl, rfl⟩ := s7_mkdir hr
 have H2 := Hd h1
 clear hst hr h1
 go_wp2_with fail
 refine (who_any _ _ _).mono ?_
 rintro e w4 ⟨rfl, hb⟩
 have H3 := Hd (H2.out.below hb)
 clear hb
 go_wp2_with fail
 refine (walkChown_any H3.out.tre 1 (whoC 0 0) _ _ _).mono ?_
 rintro e w5 ⟨r, rfl, hst⟩
 obtain ⟨S2, T2, h2, hr, _⟩ := H3.out.stp hst fun T' h => h.sound H3.out.snd
 obtain ⟨rfl, rfl⟩ := s7_chown hr
 have H4 := Hd h2
 clear hst hr h2
 go_wp2_with fail
 refine (who_any _ _ _).mono ?_
 rintro e w6 ⟨rfl, hb⟩
 have H5 := Hd (H4.out.below hb)
 clear hb
 go_wp2_with fail
 refine (walkOpen_any H5.out.tre ((hb_few (by decide +kernel) H5.out.snd).mono (by decide)) 1 (whoC 5 5) _ ⟨2, true, false, false, false, 420⟩).mono ?_
 rintro e w7 ⟨i, r, rfl, hst⟩
 obtain ⟨S3, T3, h3, hr, _⟩ := H5.out.stp hst fun T' h => h.sound H5.out.snd
 obtain ⟨rfl, rfl, rfl⟩ := s7_open H5.out.snd hr
 have H6 := Hd h3
 clear hst hr h3
 go_wp2_with fail
 refine (who_any _ _ _).mono ?_
 rintro e w8 ⟨rfl, hb⟩
 have H7 := Hd (H6.out.below hb)
 clear hb
 go_wp2_with fail
 refine (walkFind_any H7.out.tre 1 (whoC 6 6) _ (k := 0) (r := 4) (by kernel_rfl)).mono ?_
 rintro e w9 ⟨he, hb⟩
 replace he : e = .returned (.tuple #[.int .i64 0, .int .i64 4]) := he
 subst he
 have H8 := Hd (H7.out.below hb)
 clear hb
 go_wp2_with fail
 refine (who_any _ _ _).mono ?_
 rintro e w10 ⟨rfl, hb⟩
 have H9 := Hd (H8.out.below hb)
 clear hb
 go_wp2_with fail
 refine (walkFind_any H9.out.tre 1 (whoC 0 0) _ (k := 3) (r := 0) (by kernel_rfl)).mono ?_
 rintro e w11 ⟨he, hb⟩
 replace he : e = .returned (.tuple #[.int .i64 3, .int .i64 0]) := he
 subst he
 have H10 := Hd (H9.out.below hb)
 clear hb
 go_wp2_with fail
 refine (who_any _ _ _).mono ?_
 rintro e w12 ⟨rfl, hb⟩
 have H11 := Hd (H10.out.below hb)
 clear hb
 go_wp2_with fail
 refine (walkRemove_any H11.out.tre 1 (whoC 6 6) _ _).mono ?_
 rintro e w13 ⟨r, rfl, hst⟩
 obtain ⟨S4, T4, h4, hr, _⟩ := H11.out.stp hst fun T' h => h.sound H11.out.snd
 obtain ⟨rfl, rfl⟩ := s7_remove hr
 have H12 := Hd h4
 clear hst hr h4
 go_wp2
 go_ret
 exact ⟨rfl, H12.out.own.below⟩
theorem root_hb (m o g : Int) : HB (IT.rootT m o g) 1 := fun k n hk => by obtain ⟨_, rfl⟩ := IT.rootT_get hk; exact Nat.zero_le _
theorem plays7_any (mo0 : Int) (hmo : mo0 < 9223372036854775808) (a : Option Addr) (len cap : Nat) (w : World) (hl : len ≤ maxLen) (h0 : Ops7 w w.heap.size a len) :
  Calls Tryz.prog 7 #[.int .i64 mo0, .slice a len cap] w fun e w' => e = .returned (.bool true) ∧ Below w.heap.size w w' := by
 unfold maxLen at hl
 have HS := Hd h0
 clear h0
 cases hr : rightB mo0 0 0 with
 | false =>
   go_enter Tryz.func7, Tryz.ntmps7
   go_wp2_with fail
   refine (shown7_any w).mono ?_
   rintro e w1 ⟨rfl, hb⟩
   have HB1 := Hd hb
   clear hb
   go_wp2_with fail
   refine (new_bad _ _ _ _ hr).mono ?_
   rintro e w2 ⟨rfl, rfl⟩
   go_wp2_with fail
   refine (RF.rf_new_bad _ _ _ hmo _ hr).mono ?_
   rintro e w3 ⟨rfl, rfl⟩
   go_wp2
   go_ret
   exact ⟨rfl, HB1.out⟩
 | true =>
   go_enter Tryz.func7, Tryz.ntmps7
   go_wp2_with fail
   refine (shown7_any w).mono ?_
   rintro e w1 ⟨rfl, hb⟩
   have HB1 := Hd hb
   clear hb
   go_wp2_with fail
   refine (new_ok _ _ _ _ hr).mono ?_
   rintro e w2 ⟨t, S0, rfl, ho⟩
   have H0 := Hd ho
   clear ho
   go_wp2_with fail
   refine (RF.rf_new _ _ _ hmo _ hr).mono ?_
   rintro e w3 ⟨r, B, G0, rfl, hr1, hr2, hbl, htr⟩
   have HI0 : Hid (Duo w1.heap.size w1 w3 t S0 (IT.rootT mo0 0 0) r B G0 (IT.rootT mo0 0 0) ∧ HB (IT.rootT mo0 0 0) (0 + 1) ∧ MR (IT.rootT mo0 0 0)) := Hd ⟨⟨H0.out.below hbl, htr, by have := H0.out.own.le; omega⟩, root_hb _ _ _, MR.root hr⟩
   clear hr1 hr2 hbl htr H0
   go_wp2_with fail
   go_loopg [8] 80 (fun g iv wr => ∃ (k : Nat) (S : Tab) (T : IT.Tr) (G : RF.Gt), iv = .int .i64 (k : Int) ∧ k + g = 80 ∧ Hid (Duo w1.heap.size w1 wr t S T r B G T ∧ HB T (k + 1) ∧ MR T))
   case atStart => exact ⟨0, _, _, _, rfl, rfl, HI0⟩
   case round =>
    clear HI0
    obtain ⟨k, S, T, G, rfl, hkg, HI⟩ := hrel
    by_cases hc : k < len ∧ k < 80
    · obtain ⟨hk1, hk2⟩ := hc
      obtain ⟨og, rfl⟩ : ∃ og, gk = og + 1 := ⟨gk - 1, by omega⟩
      obtain ⟨b, off, K, cwd, uid, gid, s, u, mo, N, oa, ob, rfl, hbb, hm1, hm2, hsz, husz, q0, q1, q2, q3, q4, q5, q6, q7, q8, q9⟩ := HS.out k hk1
      have tr : ∀ (i : Nat) (v : Value), w.cell? ⟨b, i, none⟩ = some v → wr.cell? ⟨b, i, none⟩ = some v := fun i v hv => by
       rw [HI.out.1.a.own.below.cell (p := ⟨b, i, none⟩) (by have := HB1.out.size; simp; omega), HB1.out.cell (p := ⟨b, i, none⟩) hbb]; exact hv
      have p0 := tr _ _ q0
      have p1 := tr _ _ q1
      have p2 := tr _ _ q2
      have p3 := tr _ _ q3
      have p4 := tr _ _ q4
      have p5 := tr _ _ q5
      have p6 := tr _ _ q6
      have p7 := tr _ _ q7
      have p8 := tr _ _ q8
      have p9 := tr _ _ q9
      clear tr q0 q1 q2 q3 q4 q5 q6 q7 q8 q9
      have hk3 : (k : Int) < len := by omega
      have hk4 : (k : Int) < 80 := by omega
      have hbw : b < wr.heap.size := World.block_lt_of_cell? wr ⟨b, off + k * 10, none⟩ p0
      by_cases h5 : u.size ≤ 5000
      case' pos =>
       have h6 : (u.size : Int) ≤ 5000 := by omega
       go_wp2_with fail
       clear p0 p1 p2 p3 p4 p5 p6 p7 p8 p9
      case' neg =>
       have h6 : (5000 : Int) < u.size := by omega
       go_wp2_with fail
       have husz2 : (u.extract 0 5000).size ≤ 1048576 := by rw [ByteArray.size_extract]; omega
       clear p0 p1 p2 p3 p4 p5 p6 p7 p8 p9 h5 h6 husz
       generalize u.extract 0 5000 = u at *
       have husz := husz2
       clear husz2
      all_goals
       have hd := HI.out.1.below ((Below.refl _ _).alloc (Nat.le_refl _) (.cells #[.int .i64 K, .int .i64 cwd, .int .i64 uid, .int .i64 gid, .string s, .string u, .int .i64 mo, .int .i64 N, .int .i64 oa, .int .i64 ob] 24))
       have HHB := Hd HI.out.2.1
       have HMR := Hd HI.out.2.2
       clear HI
       generalize wr.alloc (.cells #[.int .i64 K, .int .i64 cwd, .int .i64 uid, .int .i64 gid, .string s, .string u, .int .i64 mo, .int .i64 N, .int .i64 oa, .int .i64 ob] 24) = W at *
       refine (does7_any hd (n := k + 1) (by omega) (by omega) HHB.out HMR.out K cwd uid gid s u mo N oa ob hsz husz hm1 hm2).mono ?_
       rintro e w5 ⟨rfl, S', T', G', hd2, hx1, hm3, hlay⟩
       have HJ := Hd (And.intro hd2 (And.intro hx1 hm3))
       clear hd hd2 hx1 hm3 hlay HHB HMR
       go_wp2_with fail
       refine (same7_any HJ.out.1).mono ?_
       rintro e w6 ⟨rfl, hb6⟩
       have HN := Hd (And.intro (HJ.out.1.below hb6) HJ.out.2)
       clear hb6 HJ
       go_wp2
       go_roundg og
       case measure => omega
       case rel => exact ⟨k + 1, S', T', G', by go_num, by omega, HN⟩
    · have HEND := Hd (HB1.out.trans (HI.out.1.a.own.below.mono HB1.out.size))
      clear HI HS
      by_cases hkl : k < len
      · have hk3 : (k : Int) < len := by omega
        have hk4 : (80 : Int) ≤ k := by omega
        clear hc
        go_wp2
        go_ret
        exact ⟨rfl, HEND.out⟩
      · have hk3 : (len : Int) ≤ k := by omega
        clear hc
        go_wp2
        go_ret
        exact ⟨rfl, HEND.out⟩
end Go.Proofs.YtafonmnfeibaiaaGreat
namespace Go.Proofs.YtafonmnfeibaiaaGreat.walkPlays
open Go.ChangeShapes Go.WideShapes Go.ChangeAt Go.RowKit
open Go.ChangeMaps (open_string shut_string)
set_option linter.unusedVariables false
theorem own : ownKnob Tryz.prog.godebug = none := by kernel_rfl
theorem laidOut : laidOutB Tryz.prog = true := by kernel_rfl
theorem lifted (os : Os) (started : os.Started) (H : Type) (enc : TypeId × Value → H) (F0 : Stop.Interp) :
  ReturnsInHanded {} Tryz.checked os 7 .any ((Rows.OpenSpec.upto Rows.walkPlaysSpec).pre6 enc Tryz.prog Tryz.f7 Rows.walkPlaysUptoRow.domain false) (((Rows.OpenSpec.upto Rows.walkPlaysSpec).at F0).post enc Tryz.prog Tryz.f7 false true false false) := by
 refine returnsInHanded_of_cond (C := Tryz.checked) (s := (Rows.OpenSpec.upto Rows.walkPlaysSpec)) (k := Rows.uptoSmall) rfl own started (by kernel_rfl) Tryz.func7
  (OpenSpec.witness (enc := enc) (C := Tryz.checked) (s := (Rows.OpenSpec.upto Rows.walkPlaysSpec)) (k := Rows.uptoSmall) rfl false ⟨#[], #[.int .i64 0, .slice none 0 0], []⟩ 8 (by kernel_rfl) (by kernel_rfl) (by kernel_rfl)
    (x := ([.lit (.int .i64 0), .nil], [], [])) (by kernel_rfl) (by kernel_rfl) (by kernel_rfl)) ?_
 intro W base args ds gs before hval0 hW hcnd hu0 _
 have hval : ∀ (j : Nat) t v, Tryz.f7.params[j]? = some t → args[j]? = some v → Value.okWide Tryz.prog W .any base t v := hval0
 have hW' := hW
 obtain ⟨p, q, hA0, hV, rfl, hfz, hnd⟩ := hW
 have hA : DataW.TrodAll enc Tryz.prog W 0 (fun _ => true) true Tryz.f7.params.toList args.toList ds p := hA0
 rw [Tryz.params7] at hA hval
 obtain ⟨v0, vs0, d0, ds0, p0, q0, hargs, rfl, rfl, h0, r0⟩ := trodAll_cons hA
 obtain ⟨v1, vs1, d1, ds1, p1, q1, rfl, rfl, rfl, h1, r1⟩ := trodAll_cons r0
 obtain ⟨rfl, rfl, rfl⟩ := trodAll_nil r1
 obtain rfl : args = #[v0, v1] := by cases args; simp_all
 obtain ⟨rfl, rfl⟩ := trodVars_none hV
 have hu : Rows.uptoBulkAll [d0, d1] ≤ 1048576 := of_decide_eq_true hu0
 simp only [Rows.uptoBulkAll] at hu
 obtain ⟨a0, rfl, rfl, rfl, w0⟩ := open_int Tryz.underlying3 (hval 0 3 v0 rfl rfl) h0
 obtain ⟨a1, len1, cap1, rfl⟩ := okWide_slice Tryz.underlying22 (hval 1 22 v1 rfl rfl)
 have lt1 : ∀ x ∈ p1, x.block < W.heap.size := by obtain ⟨m, hm⟩ := h1; exact DataW.trod_lt m _ _ _ hm
 obtain ⟨m1, w1⟩ := ops7_of h1 (by omega)
 clear hA0 hval0
 refine (plays7_any a0 (op7_wf w0).2 a1 len1 cap1 W m1 w1).mono fun e W' ⟨he, bel⟩ => ?_
 subst he
 exact ⟨_, rfl, _, _, _, [], _, [], hW', trodAll_mk1 (shut_bool Tryz.underlying4 _), (trodAll_cons_mk (shut_int Tryz.underlying3 w0) (trodAll_cons_mk (Below.trod laidOut (by kernel_rfl) (of_decide_eq_true (by kernel_rfl)) h1 bel lt1) trodAll_mk0)), rfl, bel.frame _, fun h => by cases h⟩
theorem proved : Rows.WalkPlaysUptoSaid :=
 OpenClaim.holds_of_cond 7 Tryz.f7 rfl rfl rfl rfl rfl rfl rfl ⟨rfl, rfl, rfl, rfl, rfl⟩ rfl rfl rfl rfl rfl (by kernel_rfl) Tryz.func7 (by kernel_rfl)
  (of_decide_eq_true (by kernel_rfl)) (by unfold Func.isWrapper; first | (rw [if_pos (by decide +kernel)]; kernel_rfl) | (rw [if_neg (by decide +kernel)]; exact ⟨rfl, rfl⟩))
  (fun os started H enc _ F0 => lifted os started H enc F0)
#print axioms proved
end Go.Proofs.YtafonmnfeibaiaaGreat.walkPlays
