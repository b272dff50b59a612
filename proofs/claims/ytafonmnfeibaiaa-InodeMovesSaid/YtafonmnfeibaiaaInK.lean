import Derived.Test.YtafonmnfeibaiaaInI
import Derived.Test.YtafonmnfeibaiaaITTv
import Derived.Deep.Draws
namespace Go.Proofs.Ytafonmnfeibaiaa
open Go.RowKit

/-! ### A map's writes, at whatever world in which it lies as it lies -/
section
variable {P : Program} {T K : TypeId} {E : TypeId} {es : Array MapEntry} {c : Nat} {l : List (ByteArray × Nat)}
theorem delete_all (hT : P.underlying T = some (.map K E)) (hK : P.underlying K = some .string) (h2 : MapOk es c l) (s : ByteArray) (x : Nat) (hs : look l s = some x) (m : Nat) :
    ∃ es', MapOk es' c (delL l s) ∧ ∀ (w : World) (ty : TypeId), w.heap[m]? = some (.map es c) → (Builtin.delete_ #[T, K] ty #[.map (some m), .string s]).run P w = .ok (.tuple #[]) (w.putObj m (.map es' c)) := by
  obtain ⟨j, hf, hj, hd, _⟩ := findNow_some_of s x es.toList l 0 h2.vals hs
  have hes : (es.eraseIdxIfInBounds j).toList = es.toList.eraseIdx j := by
    have : j < es.size := by simpa using hj
    simp [Array.eraseIdxIfInBounds, this]
  refine ⟨es.eraseIdxIfInBounds j, ⟨?_, ?_, ?_, ?_⟩, fun w ty h1 => ?_⟩
  · rw [hes, ← hd]
    have := h2.vals
    simp only [entVals] at this ⊢
    rw [map_eraseIdx', map_eraseIdx', this]
  · rw [← hd]
    exact List.Nodup.sublist ((List.eraseIdx_sublist l j).map _) h2.keys
  · intro e he
    rw [hes] at he
    exact h2.born e ((List.eraseIdx_sublist _ j).subset he)
  · rw [hes]
    exact List.Nodup.sublist ((List.eraseIdx_sublist _ j).map _) h2.apart
  · simp [Builtin.delete_, run_underlying hT, MapKept.run_getObj_map h1, check_string hK, Instr.findKey, run_underlying hK, hf, Result.andThen, MapKept.run_setObj_map _ h1, World.putObj]
/-- A name is let lead to x: it stands once. -/
theorem update_all (hT : P.underlying T = some (.map K E)) (hK : P.underlying K = some .string) (h2 : MapOk es c l) (s : ByteArray) (x : Nat) (m : Nat) :
    ∃ es' c' l', MapOk es' c' l' ∧ l'.Perm ((s, x) :: delL l s) ∧ ∀ (w : World), w.heap[m]? = some (.map es c) → (Instr.mapUpdate T (.map (some m)) (.string s) (.int .i64 (x : Int))).run P w = .ok () (w.putObj m (.map es' c')) := by
  cases hs : look l s with
  | none =>
    have hf := findNow_nil_of s es.toList l 0 h2.vals hs
    have hdl : delL l s = l := by
      simp only [look, Option.map_eq_none_iff, List.find?_eq_none] at hs
      exact List.eraseP_of_forall_not (fun p hp => by simpa using hs p hp)
    refine ⟨es.push ⟨.string s, .int .i64 (x : Int), c⟩, c + 1, l ++ [(s, x)], ⟨?_, ?_, ?_, ?_⟩, by rw [hdl]; exact List.perm_append_comm, fun w h1 => ?_⟩
    · simp [entVals, h2.vals]
    · rw [List.map_append, List.nodup_append]
      refine ⟨h2.keys, by simp, ?_⟩
      intro a ha b hb
      simp at hb
      subst hb
      intro e
      obtain ⟨p, hp, hp2⟩ := List.mem_map.1 ha
      simp only [look, Option.map_eq_none_iff, List.find?_eq_none] at hs
      exact hs p hp (by rw [hp2, e]; simp)
    · intro e he
      simp at he
      rcases he with he | rfl
      · have := h2.born e (by simpa using he); omega
      · simp
    · simp only [Array.toList_push, List.map_append, List.map_cons, List.map_nil]
      rw [List.nodup_append]
      refine ⟨h2.apart, by simp, ?_⟩
      intro a ha b hb
      simp at hb
      obtain ⟨p, hp, hp2⟩ := List.mem_map.1 ha
      have := h2.born p hp
      omega
    · simp [Instr.mapUpdate, run_underlying hT, MapKept.run_getObj_map h1, check_string hK, Instr.findKey, run_underlying hK, hf, Result.andThen, MapKept.run_setObj_map _ h1, World.putObj]
  | some y =>
    obtain ⟨j, hf, hj, hd, hkj⟩ := findNow_some_of s y es.toList l 0 h2.vals hs
    have hjs : j < es.size := by simpa using hj
    have hlen : l.length = es.size := by have := congrArg List.length h2.vals; simpa [entVals] using this.symm
    have hjl : j < l.length := by omega
    have hkey : es[j].key = .string s := by
      have e1 := congrArg (fun L => L[j]?) h2.vals
      simp only [entVals, List.getElem?_map] at e1
      have e2 : l[j]? = some l[j] := List.getElem?_eq_getElem hjl
      have e3 : es.toList[j]? = some es[j] := by rw [List.getElem?_eq_getElem hj]; rfl
      rw [e2, e3] at e1
      rw [e2] at hkj
      simp only [Option.map_some, Option.some.injEq, Prod.mk.injEq] at e1 hkj
      rw [e1.1, hkj]
    have hst : ∀ w, (Instr.keyThatStays (((es[j]?).map (·.key)).getD (.string s)) (.string s)).run P w = .ok (.string s) w := fun w => by
      rw [Array.getElem?_eq_getElem hjs]
      simp only [Option.map_some, Option.getD_some, hkey]
      simp [Instr.keyThatStays, Instr.sameBits, ba_beq]
    refine ⟨es.modify j fun e => { e with key := .string s, val := .int .i64 (x : Int) }, c, l.set j (s, x), ⟨?_, ?_, ?_, ?_⟩, ?_, fun w h1 => ?_⟩
    · apply List.ext_getElem?
      intro i
      have e1 := congrArg (fun L => L[i]?) h2.vals
      simp only [entVals, List.getElem?_map, Array.toList_modify, List.getElem?_modify, List.getElem?_set] at e1 ⊢
      by_cases hi : j = i
      · subst hi
        have e3 : es.toList[j]? = some es[j] := by rw [List.getElem?_eq_getElem hj]; rfl
        simp [e3, hjl]
      · simp only [hi, if_false]
        rw [← e1]
        cases es.toList[i]? <;> simp
    · have : (l.set j (s, x)).map (·.1) = l.map (·.1) := by
        apply List.ext_getElem?
        intro i
        simp only [List.getElem?_map, List.getElem?_set]
        by_cases hi : j = i
        · subst hi
          simp only [if_pos, hjl]
          exact hkj.symm
        · simp [hi]
      rw [this]; exact h2.keys
    · intro e he
      rw [Array.toList_modify] at he
      obtain ⟨i, hi, rfl⟩ := List.getElem_of_mem he
      rw [List.getElem_modify]
      have hi2 : i < es.toList.length := by simpa using hi
      by_cases e : j = i
      · rw [if_pos e]; exact (show es.toList[i].born < c from h2.born _ (List.getElem_mem hi2))
      · rw [if_neg e]; exact h2.born _ (List.getElem_mem hi2)
    · have : (es.modify j fun e => { e with key := .string s, val := .int .i64 (x : Int) }).toList.map (·.born) = es.toList.map (·.born) := by
        apply List.ext_getElem?
        intro i
        simp only [List.getElem?_map, Array.toList_modify, List.getElem?_modify]
        by_cases hi : j = i
        · subst hi; cases es.toList[j]? <;> simp
        · simp [hi]
      rw [this]; exact h2.apart
    · rw [← hd]; exact set_perm _ l j hjl
    · simp [Instr.mapUpdate, run_underlying hT, MapKept.run_getObj_map h1, check_string hK, Instr.findKey, run_underlying hK, hf, Result.andThen, hst, MapKept.run_setObj_map _ h1, World.putObj]
end

/-! ### Remove -/
theorem rm_dir {w : World} {t bd : Nat} {S : Tab} {nd : Nd} (h : Rep w t S) (d : Int) (hd : S d.toNat = some (bd, nd)) (s : ByteArray) (hkd : ¬ nd.kind = 1) :
    Calls Try.prog 47 #[.pointer (some ⟨t, 0, none⟩), .int .i64 d, .string s] w fun e w' => e = .returned (.int .i64 6) ∧ w = w' := by
  have c1 := h.c1 hd
  have hkb : (nd.kind != 1) = true := by simpa using hkd
  have H := Lib.hid h
  have HD := Lib.hid hd
  clear h hd hkd
  go_enter Try.func47, Try.ntmps47
  go_wp2_with fail
  refine (H.out.at_some _ HD.out).mono ?_
  rintro e w' ⟨rfl, rfl⟩
  go_wp2
  go_ret
  exact ⟨rfl, rfl⟩
theorem rm_none {w : World} {t : Nat} {S : Tab} (h : Rep w t S) (d : Int) (hd : S d.toNat = none) (s : ByteArray) :
    Calls Try.prog 47 #[.pointer (some ⟨t, 0, none⟩), .int .i64 d, .string s] w fun e w' => e = .returned (.int .i64 3) ∧ w = w' := by
  have H := Lib.hid h
  have HD := Lib.hid hd
  clear h hd
  go_enter Try.func47, Try.ntmps47
  go_wp2_with fail
  refine (H.out.at_none _ HD.out).mono ?_
  rintro e w' ⟨rfl, rfl⟩
  go_wp2
  go_ret
  exact ⟨rfl, rfl⟩
theorem rm_noent {w : World} {t bd : Nat} {S : Tab} {nd : Nd} (h : Rep w t S) (d : Int) (hd : S d.toNat = some (bd, nd)) (s : ByteArray) (hkd : nd.kind = 1) (hl : look nd.names s = none) :
    Calls Try.prog 47 #[.pointer (some ⟨t, 0, none⟩), .int .i64 d, .string s] w fun e w' => e = .returned (.int .i64 3) ∧ w = w' := by
  have c1 : w.cell? ⟨bd, 1, none⟩ = some (.int .i64 1) := by rw [h.c1 hd, hkd]
  have H := Lib.hid h
  have HD := Lib.hid hd
  have HK := Lib.hid hkd
  have HL := Lib.hid hl
  clear h hd hkd hl
  go_enter Try.func47, Try.ntmps47
  go_wp2_with fail
  refine (H.out.at_some _ HD.out).mono ?_
  rintro e w' ⟨rfl, rfl⟩
  go_wp2_with fail
  refine (entry_none H.out HD.out HK.out _ HL.out).mono ?_
  rintro e w' ⟨rfl, rfl⟩
  go_wp2
  go_ret
  exact ⟨rfl, rfl⟩
theorem rm_busy {w : World} {t bd bx : Nat} {S : Tab} {nd nx : Nd} (h : Rep w t S) (d : Int) (hd : S d.toNat = some (bd, nd)) (s : ByteArray) (hkd : nd.kind = 1) {x : Nat} (hl : look nd.names s = some x) (hx : S x = some (bx, nx)) (hn : 0 < nx.names.length) :
    Calls Try.prog 47 #[.pointer (some ⟨t, 0, none⟩), .int .i64 d, .string s] w fun e w' => e = .returned (.int .i64 8) ∧ w = w' := by
  have c1 : w.cell? ⟨bd, 1, none⟩ = some (.int .i64 1) := by rw [h.c1 hd, hkd]
  have d10 := h.c10 hx
  have hlen : ∀ ty, (Builtin.len_ #[84] ty #[.map nx.mp]).run Try.prog w = .ok (.int .i64 nx.names.length) w := fun ty => h.len hx ty
  have hn1 : 0 < (nx.names.length : Int) := by omega
  have H := Lib.hid h
  have HD := Lib.hid hd
  have HK := Lib.hid hkd
  have HL := Lib.hid hl
  have HX := Lib.hid hx
  clear h hd hkd hl hx hn
  go_enter Try.func47, Try.ntmps47
  go_wp2_with fail
  refine (H.out.at_some _ HD.out).mono ?_
  rintro e w' ⟨rfl, rfl⟩
  go_wp2_with fail
  refine (entry_some H.out HD.out HK.out _ _ HL.out HX.out).mono ?_
  rintro e w' ⟨rfl, rfl⟩
  go_wp2
  go_ret
  exact ⟨rfl, rfl⟩
set_option maxRecDepth 100000 in
theorem rm_ok {w : World} {t bd bx : Nat} {S : Tab} {nd nx : Nd} (h : Rep w t S) (d : Int) (hd : S d.toNat = some (bd, nd)) (s : ByteArray) (hkd : nd.kind = 1) {x : Nat} (hl : look nd.names s = some x) (hx : S x = some (bx, nx)) (hn : nx.names = []) {Q : World → Prop}
    (hlo : ∀ w1, Mv w t S w1 (upd S d.toNat (some (bd, { nd with names := delL nd.names s }))) → Calls Try.prog 53 #[.pointer (some ⟨t, 0, none⟩), .pointer (some ⟨bx, 0, none⟩)] w1 fun e w' => e = .returned (.tuple #[]) ∧ Q w') :
    Calls Try.prog 47 #[.pointer (some ⟨t, 0, none⟩), .int .i64 d, .string s] w fun e w' => e = .returned (.int .i64 0) ∧ Q w' := by
  have c1 : w.cell? ⟨bd, 1, none⟩ = some (.int .i64 1) := by rw [h.c1 hd, hkd]
  obtain ⟨m, hm⟩ := h.dir_mp hd hkd
  have c10 : w.cell? ⟨bd, 10, none⟩ = some (.map (some m)) := by rw [h.c10 hd, hm]
  have d10 := h.c10 hx
  have hlen : ∀ ty, (Builtin.len_ #[84] ty #[.map nx.mp]).run Try.prog w = .ok (.int .i64 0) w := fun ty => by have := h.len hx ty; rw [hn] at this; exact this
  obtain ⟨es, c, hm1, hmo⟩ := h.map _ bd nd m hd hm
  obtain ⟨es', hmo', hrun⟩ := delete_all Try.underlying84 Try.underlying9 hmo s x hl m
  have hrun1 := fun ty => hrun w ty hm1
  have hsz := (h.small _ bd nd hd).2
  have hmv : Mv w t S (w.putObj m (.map es' c)) (upd S d.toNat (some (bd, { nd with names := delL nd.names s }))) := (Mv.refl h).setMap hd hm es' c _ hmo' (by
    have h2 : (delL nd.names s).length ≤ nd.names.length := List.length_eraseP_le
    omega)
  have HLO := Lib.hid (hlo _ hmv)
  have H := Lib.hid h
  have HD := Lib.hid hd
  have HK := Lib.hid hkd
  have HL := Lib.hid hl
  have HX := Lib.hid hx
  clear h hd hkd hl hx hn hlo hm hm1 hmo hmo' hrun hsz hmv
  go_enter Try.func47, Try.ntmps47
  go_wp2_with fail
  refine (H.out.at_some _ HD.out).mono ?_
  rintro e w' ⟨rfl, rfl⟩
  go_wp2_with fail
  refine (entry_some H.out HD.out HK.out _ _ HL.out HX.out).mono ?_
  rintro e w' ⟨rfl, rfl⟩
  go_wp2_with fail
  refine HLO.out.mono ?_
  rintro e w' ⟨rfl, hq⟩
  have HQ := Lib.hid hq
  clear hq
  go_wp2
  go_ret
  exact ⟨rfl, HQ.out⟩
theorem names_nil {n : Nd} {m : IT.Nd} (h : (ents n.names).Perm m.names) : n.names.length = m.names.length := by rw [← h.length_eq]; simp [ents]
theorem remove_any {w : World} {t : Nat} {S : Tab} {T : IT.Tr} (h : Tre w t S T) (d : Int) (s : ByteArray) :
    Calls Try.prog 47 #[.pointer (some ⟨t, 0, none⟩), .int .i64 d, .string s] w fun e w' => ∃ r, e = .returned (.int .i64 r) ∧ Stp w t S (fun T' => IT.isRemove T d.toNat (bs s) r T') w' := by
  have hstay : ∀ {r : Int} {e : Ending} {w' : World}, IT.isRemove T d.toNat (bs s) r T → e = .returned (.int .i64 r) ∧ w = w' → ∃ r, e = .returned (.int .i64 r) ∧ Stp w t S (fun T' => IT.isRemove T d.toNat (bs s) r T') w' := by
    rintro r e w' hr ⟨rfl, rfl⟩
    exact ⟨r, rfl, Stp.keep h hr⟩
  cases hd : S d.toNat with
  | none =>
    refine (rm_none h.rep d hd s).mono fun e w' => hstay ?_
    unfold IT.isRemove; rw [(h.none_iff _).1 hd]; exact ⟨rfl, rfl⟩
  | some p1 =>
    obtain ⟨bd, nd⟩ := p1
    obtain ⟨n, hT, hkp⟩ := h.get hd
    have hkd : nd.kind = n.kind := hkp.kind
    by_cases h1 : n.kind = 1
    · have hlo := h.look hd hT s
      cases hl : look nd.names s with
      | none =>
        refine (rm_noent h.rep d hd s (hkd.trans h1) hl).mono fun e w' => hstay ?_
        unfold IT.isRemove; rw [hT]; dsimp only; rw [if_neg (fun hh => hh h1), ← hlo, hl]; exact ⟨rfl, rfl⟩
      | some x =>
        have hfn : IT.findN (bs s) n.names = some x := by rw [← hlo]; exact hl
        obtain ⟨mx, hmx⟩ := h.snd.1.lead _ n (bs s, x) hT (IT.find_mem hfn)
        obtain ⟨bx, nx, hSx, hkx⟩ := h.back hmx
        have hlen := names_nil hkx.names
        by_cases hn : mx.names = []
        · have hnx : nx.names = [] := List.eq_nil_of_length_eq_zero (by rw [hlen, hn]; rfl)
          have hrd := (h.snd.1.rng _ n hT).2
          have hrx := (h.snd.1.rng _ mx hmx).2
          have hne := h.snd.1.apart hT hmx hfn
          have s1 := h.snd.1.del hT hmx hfn
          refine (rm_ok h.rep d hd s (hkd.trans h1) hl hSx hnx (Q := fun w' => Stp w t S (fun T' => IT.NF (IT.delT T d.toNat x (bs s) n mx) T') w') fun w1 hmv => ?_).mono ?_
          · refine loses_one hmv s1 ?_ (fun y => ?_) (fun j hj => ?_) (by rw [upd_other _ _ hne]; exact hSx)
            · rw [kpOf_upd]
              exact h.ties.del hT hmx hne hrd hrx (h.snd.1.ord _ n hT) hfn (kpOf_some hd) (ents (delL nd.names s)) (by
                rw [ents_del s (h.rep.nodup hd)]; exact List.Perm.refl _)
            · have h2 : IT.lnk (IT.delT T d.toNat x (bs s) n mx) y + (if x = y then 1 else 0) = IT.lnk T y := IT.del_lnk hT hmx hne hrd hrx (h.snd.1.ord _ n hT) hfn y
              have h3 := h.snd.1.many y
              unfold IT.single
              by_cases e : x = y
              · subst e; rw [if_pos rfl] at h2 ⊢; omega
              · rw [if_neg e] at h2; rw [if_neg (Ne.symm e)]; omega
            · rcases IT.del_can hT hmx hne hrd hrx (h.snd.1.ord _ n hT) hfn hj with e | e
              · exact e
              · exact absurd e (h.snd.2 j)
          · rintro e w' ⟨rfl, S', T', g1, g2, g3⟩
            refine ⟨0, rfl, S', T', g1, g2, ?_⟩
            unfold IT.isRemove; rw [hT]; dsimp only; rw [if_neg (fun hh => hh h1), hfn]
            exact ⟨mx, hmx, by rw [if_neg (fun hh => hh hn)]; exact ⟨rfl, g3⟩⟩
        · have hnx : 0 < nx.names.length := by
            rw [hlen]
            cases hmn : mx.names with
            | nil => exact absurd hmn hn
            | cons => simp
          refine (rm_busy h.rep d hd s (hkd.trans h1) hl hSx hnx).mono fun e w' => hstay ?_
          unfold IT.isRemove; rw [hT]; dsimp only; rw [if_neg (fun hh => hh h1), hfn]
          exact ⟨mx, hmx, by rw [if_pos hn]; exact ⟨rfl, rfl⟩⟩
    · refine (rm_dir h.rep d hd s (by rw [hkd]; exact h1)).mono fun e w' => hstay ?_
      unfold IT.isRemove; rw [hT]; dsimp only; rw [if_pos h1]; exact ⟨rfl, rfl⟩
end Go.Proofs.Ytafonmnfeibaiaa
