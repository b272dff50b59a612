/- Part 7 of the proof: contracts of functions that the statement reaches, and plain lemmas. -/
import Derived.Test.YtafonmnfeibaiaaGreatAll5
import Derived.Test.YtafonmnfeibaiaaGreatAll4
import Derived.Test.YtafonmnfeibaiaaGreatAll2
set_option linter.all false
set_option maxRecDepth 100000
set_option maxHeartbeats 40000000
namespace Go.Proofs.YtafonmnfeibaiaaGreat
open Go.RowKit
theorem may_of {T : IT.Tr} {k : Nat} {m : IT.Nd} (h : T k = some m) (uid gid want : Int) : mayT T k uid gid want = mayN m (whoC uid gid) want := by
 unfold mayT; rw [h]; rfl
theorem enters_zero {m : IT.Nd} {c : Cr} (h : entersE m c = 0) : m.kind = 1 ∧ mayN m c 1 = true := by
 unfold entersE at h
 split at h
 · cases h
 · rename_i h1
   split at h
   · cases h
   · rename_i h2
     exact ⟨Decidable.not_not.1 h1, by simpa using h2⟩
theorem sea_app {T : IT.Tr} {uid gid : Int} : ∀ (l : List IT.Bytes) (k d : Nat) (tl : List IT.Bytes), downT T (whoC uid gid) k l = (d, 0) → seaL T uid gid d tl = true → seaL T uid gid k (l ++ tl) = true
 | [], k, d, tl, h, ht => by cases h; exact ht
 | n :: l, k, d, tl, h, ht => by
   unfold downT at h
   cases hk : T k with
   | none => rw [hk] at h; cases h
   | some m =>
     rw [hk] at h
     dsimp only at h
     by_cases he : entersE m (whoC uid gid) = 0
     · rw [if_neg (fun hh => hh he)] at h
       show (if mayT T k uid gid 1 = false then false else match lookT T k n with
        | none => (l ++ tl).isEmpty
        | some j => seaL T uid gid j (l ++ tl)) = true
       rw [may_of hk, (enters_zero he).2, if_neg (by decide)]
       cases hl : lookT T k n with
       | none => rw [hl] at h; cases h
       | some j => rw [hl] at h; exact sea_app l j d tl h ht
     · rw [if_pos he] at h
       exact absurd (Prod.mk.inj h).2 he
theorem down_app {T : IT.Tr} {c : Cr} : ∀ (l : List IT.Bytes) (k d : Nat) (tl : List IT.Bytes), downT T c k l = (d, 0) → downT T c k (l ++ tl) = downT T c d tl
 | [], k, d, tl, h => by cases h; rfl
 | n :: l, k, d, tl, h => by
   unfold downT at h
   show downT T c k (n :: (l ++ tl)) = _
   conv => lhs; unfold downT
   cases hk : T k with
   | none => rw [hk] at h; cases h
   | some m =>
     rw [hk] at h
     dsimp only at h ⊢
     by_cases he : entersE m c = 0
     · rw [if_neg (fun hh => hh he)] at h ⊢
       cases hl : lookT T k n with
       | none => rw [hl] at h; cases h
       | some j => rw [hl] at h; exact down_app l j d tl h
     · rw [if_pos he] at h
       exact absurd (Prod.mk.inj h).2 he
theorem last_app {α : Type} {l : List α} {d : α} (h : l ≠ []) : l = l.dropLast ++ [l.getLast?.getD d] := by
 conv => lhs; rw [← List.dropLast_concat_getLast h]
 rw [List.getLast?_eq_some_getLast h]; rfl
theorem entry_way {T : IT.Tr} {uid gid cwd : Int} {s : IT.Bytes} {x : Ent} (h : entryT T (whoC uid gid) cwd s = .ok x) :
  (Pp.splitS s).2.2.2 = 0 ∧ T (startT cwd (Pp.splitS s).1) ≠ none ∧ ∃ m, T x.dir = some m ∧ entersE m (whoC uid gid) = 0 ∧ x.tg = lookT T x.dir x.name ∧
    (Pp.splitS s).2.2.1 = (Pp.splitS s).2.2.1.dropLast ++ [x.name] ∧ downT T (whoC uid gid) (startT cwd (Pp.splitS s).1) (Pp.splitS s).2.2.1.dropLast = (x.dir, 0) := by
 unfold entryT at h
 split at h
 · cases h
 · rename_i h1
   split at h
   · cases h
   · rename_i h2
     split at h
     · cases h
     · rename_i h3
       split at h
       · cases h
       · rename_i m hm
         split at h
         · cases h
         · rename_i h4
           cases h
           have h3 := Decidable.not_not.1 h3
           unfold goT at h3 hm ⊢
           by_cases hs : T (startT cwd (Pp.splitS s).1) = none
           · rw [if_pos hs] at h3; cases h3
           · simp only [if_neg hs] at h3 hm ⊢
             exact ⟨Decidable.not_not.1 h1, hs, m, hm, Decidable.not_not.1 h4, by trivial, last_app fun hh => h2 (.inl hh), Prod.ext rfl h3⟩
theorem sea_entry {T : IT.Tr} {uid gid cwd : Int} {s : IT.Bytes} {x : Ent} (h : entryT T (whoC uid gid) cwd s = .ok x) : seaT T cwd s uid gid = true := by
 obtain ⟨h1, _, m, hm, he, _, h5, h6⟩ := entry_way h
 unfold seaT
 rw [if_neg (fun hh => hh h1), h5]
 refine sea_app _ _ _ _ h6 ?_
 unfold seaL
 rw [may_of hm, (enters_zero he).2, if_neg (by decide)]
 cases lookT T x.dir x.name <;> rfl
theorem find_way {T : IT.Tr} {c : Cr} {cwd : Int} {s : IT.Bytes} (h : (findT T c cwd s).2 = 0) :
  (Pp.splitS s).2.2.2 = 0 ∧ downT T c (startT cwd (Pp.splitS s).1) (Pp.splitS s).2.2.1 = ((findT T c cwd s).1, 0) := by
 unfold findT at h ⊢
 split at h
 · rename_i h1; exact absurd h h1
 · rename_i h1
   split at h
   · rename_i h2; exact absurd h h2
   · rename_i h2
     split at h
     · cases h
     · rename_i h3
       rw [if_neg h1, if_neg h2, if_neg h3]
       have h2 := Decidable.not_not.1 h2
       unfold goT at h2 ⊢
       by_cases hs : T (startT cwd (Pp.splitS s).1) = none
       · rw [if_pos hs] at h2; cases h2
       · rw [if_neg hs] at h2 ⊢
         exact ⟨Decidable.not_not.1 h1, Prod.ext rfl h2⟩
theorem sea_find {T : IT.Tr} {uid gid cwd : Int} {s : IT.Bytes} (h : (findT T (whoC uid gid) cwd s).2 = 0) : seaT T cwd s uid gid = true := by
 obtain ⟨h1, h2⟩ := find_way h
 unfold seaT
 rw [if_neg (fun hh => hh h1), ← List.append_nil (Pp.splitS s).2.2.1]
 exact sea_app _ _ _ _ (by simpa using h2) rfl
theorem find_entry {T : IT.Tr} {uid gid cwd : Int} {s : IT.Bytes} {x : Ent} (he : entryT T (whoC uid gid) cwd s = .ok x) (h : (findT T (whoC uid gid) cwd s).2 = 0) : x.tg = some (findT T (whoC uid gid) cwd s).1 := by
 obtain ⟨_, _, m, hm, hen, ht, h5, h6⟩ := entry_way he
 obtain ⟨_, h7⟩ := find_way h
 rw [h5, down_app _ _ _ _ h6] at h7
 unfold downT at h7
 rw [hm] at h7
 dsimp only at h7
 rw [if_neg (fun hh => hh hen)] at h7
 rw [ht]
 cases hl : lookT T x.dir x.name with
 | none => rw [hl] at h7; exact absurd (Prod.mk.inj h7).2 (by decide)
 | some j => rw [hl] at h7; dsimp only at h7; unfold downT at h7; exact congrArg some (Prod.mk.inj h7).1
theorem clr_may (m o g : Int) (d : Bool) (uid gid want : Int) (h : Md.mayS m o g d uid gid want = true) : Md.mayS (clr m) o g d uid gid want = true := by
 unfold Md.mayS at h
 split at h
 · cases h
 · rename_i h1
   have hr : Md.rightB m = true := by
    cases hh : Md.rightB m with
    | true => rfl
    | false => exact absurd (.inl hh) h1
   have hw0 : 1 ≤ want := Int.not_lt.1 fun hh => h1 (.inr (.inl hh))
   have hw7 : want ≤ 7 := Int.not_lt.1 fun hh => h1 (.inr (.inr hh))
   obtain ⟨n, rfl, hn⟩ := Md.right_nat hr
   obtain ⟨k, hk, hk1, hk2, hk3⟩ : ∃ k : Nat, clr (n : Int) = (k : Int) ∧ k % 512 = n % 512 ∧ Md.rightB (k : Int) = true ∧ k ≤ 3071 := by
    refine ⟨n &&& 18446744073709549567, Md.andNot_nat (by unfold Md.big; omega) (by decide), ?_, ?_, Nat.le_trans Nat.and_le_left hn⟩
    · have e : ∀ x : Nat, x % 512 = x &&& 511 := fun x => by rw [show 511 = 2 ^ 9 - 1 from rfl, Nat.and_two_pow_sub_one_eq_mod]
      rw [e, e, Nat.and_assoc]
      exact congrArg (n &&& ·) (by decide)
    · rw [← Md.andNot_nat (a := n) (b := 2048) (by unfold Md.big; omega) (by decide)]
      exact clr_right hr
   rw [hk]
   unfold Md.mayS
   rw [if_neg (fun a => a.elim (fun a => by rw [hk2] at a; cases a) (fun a => a.elim (fun a => by omega) (fun a => by omega)))]
   have a1 : ∀ x : Nat, x ≤ 7 → ∀ y z : Nat, y % 8 = z % 8 → x &&& y = x &&& z := fun x hx y z hyz => by
    have e : x &&& 7 = x := by rw [show 7 = 2 ^ 3 - 1 from rfl, Nat.and_two_pow_sub_one_eq_mod]; omega
    rw [← e, Nat.and_assoc, Nat.and_assoc, Nat.and_comm 7 y, Nat.and_comm 7 z, show 7 = 2 ^ 3 - 1 from rfl, Nat.and_two_pow_sub_one_eq_mod, Nat.and_two_pow_sub_one_eq_mod, hyz]
   have a2 : k &&& 73 = n &&& 73 := by
    have e : ∀ x : Nat, x &&& 73 = (x % 512) &&& 73 := fun x => by
     rw [show x % 512 = x &&& 511 by rw [show 511 = 2 ^ 9 - 1 from rfl, Nat.and_two_pow_sub_one_eq_mod], Nat.and_assoc]
     exact congrArg (x &&& ·) (by decide)
    rw [e k, e n, hk1]
   split at h
   · rename_i hu
     rw [if_pos hu, Int.toNat_natCast, a2]
     rwa [Int.toNat_natCast] at h
   · rename_i hu
     rw [if_neg hu, Int.toNat_natCast]
     rw [Int.toNat_natCast] at h
     rw [a1 want.toNat (by omega) (Md.yS k o g uid gid) (Md.yS n o g uid gid)]
     · exact h
     · unfold Md.yS
       split
       · omega
       · split <;> omega
theorem opened_may {T T' : IT.Tr} {uid gid : Int} {o : Ho} {k i : Nat} (h : isOpened T (whoC uid gid) o k i 0 T') : i = k ∧ mayT T k uid gid o.want = true ∧ mayT T' i uid gid o.want = true := by
 obtain ⟨q, hq, h⟩ := h
 split at h
 · cases h.2.1
 · split at h
   · cases h.2.1
   · rename_i hm
     have hm : mayN q (whoC uid gid) o.want = true := by simpa using hm
     obtain ⟨rfl, _, b, T1, h1, h⟩ := h
     have g1 := held_there hq h1
     refine ⟨rfl, by rw [may_of hq]; exact hm, ?_⟩
     split at h
     · rename_i hc
       obtain ⟨r2, T2, h2, h3⟩ := h
       unfold IT.isCut at h2
       rw [g1] at h2
       dsimp only at h2
       rw [if_neg (by rw [hc.2.2]; decide), if_neg (by rw [hc.2.2]; decide)] at h2
       obtain ⟨rfl, rfl⟩ := h2
       unfold isPlainer at h3
       rw [IT.upd_same] at h3
       dsimp only at h3
       obtain ⟨r3, h3⟩ := h3
       unfold IT.isSet at h3
       rw [IT.upd_same] at h3
       dsimp only at h3
       split at h3
       · obtain ⟨rfl, rfl⟩ := h3
         rw [may_of (IT.upd_same _ _ _)]
         exact hm
       · obtain ⟨rfl, rfl⟩ := h3
         rw [may_of (IT.upd_same _ _ _)]
         exact clr_may _ _ _ _ _ _ _ hm
     · subst h
       rw [may_of g1]
       exact hm
def madeT (T : IT.Tr) (i : Nat) (uid gid mode : Int) : Prop := ∃ q, T i = some q ∧ q.kind = 0 ∧ q.mode = mode ∧ q.owner = uid ∧ q.group = gid ∧ IT.lnk T i = 1
theorem enter_ok {T T' : IT.Tr} {d x : Nat} {nm : IT.Bytes} (h : IT.isEnter okN T d nm x 0 T') : ∃ n m, T d = some n ∧ T x = some m ∧ n.kind = 1 ∧ T' = IT.entT T d x nm n m := by
 unfold IT.isEnter at h
 split at h
 · rename_i n m hn hm
   refine ⟨n, m, hn, hm, ?_⟩
   split at h
   · cases h.1
   · rename_i hk
     split at h
     · cases h.1
     · split at h
       · cases h.1
       · split at h
         · cases h.1
         · split at h
           · cases h.1
           · split at h
             · cases h.1
             · exact ⟨Decidable.not_not.1 hk, h.2⟩
 · cases h.1
theorem makes_made {T T' : IT.Tr} (hs : IT.Sound okN T) {b : Bool} {uid gid : Int} {d : Nat} {nm : IT.Bytes} {mode : Int} {i : Nat} (h : isMakes b T (whoC uid gid) d nm 0 mode i 0 T') : b = true ∧ madeT T' i uid gid mode := by
 unfold isMakes at h
 split at h
 · cases h.2.1
 · rename_i hb
   refine ⟨by simpa using hb, ?_⟩
   obtain ⟨i1, r1, T1, h1, h⟩ := h
   split at h
   · rename_i h0; exact absurd h.2.1.symm h0
   · rename_i h0
     obtain rfl := Decidable.not_not.1 h0
     obtain ⟨r2, T2, h2, h⟩ := h
     split at h
     · rename_i h0; exact absurd h.2.1.symm h0
     · rename_i h0
       obtain rfl := Decidable.not_not.1 h0
       obtain ⟨rfl, _, rfl⟩ := h
       unfold IT.isMake at h1
       split at h1
       · cases h1.2.1
       · split at h1
         · cases h1.2.1
         · split at h1
           · cases h1.2.1
           · obtain ⟨_, g1, g2, g3, _, rfl⟩ := h1
             obtain ⟨n, m, hn, hm, hnk, rfl⟩ := enter_ok h2
             rw [IT.upd_same] at hm
             obtain rfl := Option.some.inj hm
             have hne : i ≠ d := fun e => by
              rw [← e, IT.upd_same] at hn
              obtain rfl := Option.some.inj hn
              have h01 : (0 : Int) = 1 := hnk
              omega
             have hd2 : d ≤ 200 := by
              rw [IT.upd_other _ _ (Ne.symm hne)] at hn
              exact (hs.1.rng d n hn).2
             refine ⟨⟨0, mode, uid, gid, 0, 1, [], [], 0⟩, ?_, rfl, rfl, rfl, rfl, ?_⟩
             · unfold IT.entT
               rw [IT.upd_other _ _ hne, IT.upd_same]
               rfl
             · rw [IT.ent_lnk hn (IT.upd_same _ _ _) hne hd2 g2, IT.lnk_new g3 g2 rfl, hs.1.free g3, if_pos rfl]
theorem opens_no {T T' : IT.Tr} {c : Cr} {cwd : Int} {s : IT.Bytes} {o : Ho} {i : Nat} {r : Int} (h : isOpen T c cwd s o i r T') (hr : r ≠ 0) : i = 0 := by
 have ho : ∀ k, isOpened T c o k i r T' → i = 0 := fun k h => by
  obtain ⟨q, hq, h⟩ := h
  split at h
  · exact h.1
  · split at h
    · exact h.1
    · exact absurd h.2.1 hr
 have hm : ∀ b d nm, isMakes b T c d nm 0 o.mode i r T' → i = 0 := fun b d nm h => by
  unfold isMakes at h
  split at h
  · exact h.1
  · obtain ⟨i1, r1, T1, h1, h⟩ := h
    split at h
    · exact h.1
    · obtain ⟨r2, T2, h2, h⟩ := h
      split at h
      · exact h.1
      · exact absurd h.2.1 hr
 unfold isOpen at h
 split at h
 · exact h.1
 · split at h
   · split at h
     · exact h.1
     · split at h
       · split at h
         · exact h.1
         · obtain ⟨m, _, h⟩ := h
           exact hm _ _ _ h
       · split at h
         · exact h.1
         · split at h
           · exact h.1
           · exact ho _ h
   · split at h
     · exact h.1
     · exact ho _ h
theorem opens_ok {T T' : IT.Tr} (hs : IT.Sound okN T) {uid gid cwd : Int} {s : IT.Bytes} {o : Ho} {i : Nat} (h : isOpen T (whoC uid gid) cwd s o i 0 T') :
  seaT T cwd s uid gid = true ∧ (match entryT T (whoC uid gid) cwd s with
   | .error _ => o.make = false ∧ mayT T' i uid gid o.want = true
   | .ok x => match x.tg with
     | some j => i = j ∧ mayT T j uid gid o.want = true ∧ (o.make && o.alone) = false
     | none => o.make = true ∧ mayT T x.dir uid gid 2 = true ∧ madeT T' i uid gid o.mode) := by
 unfold isOpen at h
 split at h
 · cases h.2.1
 · split at h
   · rename_i hmk
     cases he : entryT T (whoC uid gid) cwd s with
     | error e =>
       rw [he] at h
       exact absurd h.2.1.symm (entry_ne he)
     | ok x =>
       rw [he] at h
       dsimp only at h ⊢
       refine ⟨sea_entry he, ?_⟩
       cases ht : x.tg with
       | none =>
         rw [ht] at h
         dsimp only at h ⊢
         split at h
         · cases h.2.1
         · obtain ⟨m, hm, h⟩ := h
           obtain ⟨h1, h2⟩ := makes_made hs h
           exact ⟨hmk, by rw [may_of hm]; exact h1, h2⟩
       | some j =>
         rw [ht] at h
         dsimp only at h ⊢
         split at h
         · cases h.2.1
         · rename_i hal
           split at h
           · cases h.2.1
           · obtain ⟨h1, h2, _⟩ := opened_may h
             exact ⟨h1, h2, by rw [show o.alone = false by simpa using hal]; simp⟩
   · rename_i hmk
     split at h
     · rename_i h0; exact absurd h.2.1.symm h0
     · rename_i h0
       have h0 := Decidable.not_not.1 h0
       obtain ⟨h1, h2, h3⟩ := opened_may h
       refine ⟨sea_find h0, ?_⟩
       have hmk : o.make = false := by simpa using hmk
       cases he : entryT T (whoC uid gid) cwd s with
       | error e => exact ⟨hmk, h3⟩
       | ok x =>
         have ht := find_entry he h0
         dsimp only
         rw [ht]
         dsimp only
         exact ⟨h1, h2, by rw [hmk]; rfl⟩
theorem opens_all {T : IT.Tr} (hs : IT.Sound okN T) (uid gid cwd : Int) (s : ByteArray) (o : Ho) :
  ∃ (pd : Int) (pn : ByteArray) (pe : Int), parW (entryT T (whoC uid gid) cwd (bs s)) = .tuple #[.int .i64 pd, .string pn, .int .i64 pe] ∧ ∀ i T', isOpen T (whoC uid gid) cwd (bs s) o i 0 T' →
   seaT T cwd (bs s) uid gid = true ∧ (pe ≠ 0 → o.make = false ∧ mayT T' i uid gid o.want = true) ∧ (pe = 0 → (∀ k, lookT T pd.toNat (bs pn) = some k → i = k ∧ mayT T k uid gid o.want = true ∧ (o.make && o.alone) = false) ∧ (lookT T pd.toNat (bs pn) = none → o.make = true ∧ mayT T pd.toNat uid gid 2 = true ∧ madeT T' i uid gid o.mode)) := by
 cases he : entryT T (whoC uid gid) cwd (bs s) with
 | error e =>
   refine ⟨0, ⟨#[]⟩, e, rfl, fun i T' h => ?_⟩
   obtain ⟨h1, h2⟩ := opens_ok hs h
   rw [he] at h2
   exact ⟨h1, fun _ => h2, fun hh => absurd hh (entry_ne he)⟩
 | ok x =>
   refine ⟨(x.dir : Nat), tx x.name, 0, rfl, fun i T' h => ?_⟩
   obtain ⟨h1, h2⟩ := opens_ok hs h
   obtain ⟨_, _, ht, _⟩ := entry_ok he
   rw [he] at h2
   dsimp only at h2
   rw [Int.toNat_natCast, bs_tx, ← ht]
   refine ⟨h1, fun hh => absurd rfl hh, fun _ => ⟨fun k hk => ?_, fun hk => ?_⟩⟩
   · rw [hk] at h2; exact h2
   · rw [hk] at h2; exact h2
theorem made_stat {T : IT.Tr} {i : Nat} {uid gid mode : Int} (h : madeT T i uid gid mode) : ∃ z y : Int, statV T i = .agg #[.int .i64 i, .int .i64 0, .int .i64 mode, .int .i64 uid, .int .i64 gid, .int .i64 1, .int .i64 z, .int .i64 y] ∧ (T i).isSome = true := by
 obtain ⟨q, h1, h2, h3, h4, h5, h6⟩ := h
 refine ⟨(q.data.length + q.names.length : Nat), q.tty, ?_, by rw [h1]; rfl⟩
 unfold statV
 rw [h1]
 show infoT T i q = _
 unfold infoT
 rw [h2, h3, h4, h5, h6]
 rfl
end Go.Proofs.YtafonmnfeibaiaaGreat
namespace Go.Proofs.YtafonmnfeibaiaaGreat
open Go.ChangeShapes Go.WideShapes Go.ChangeAt Go.RowKit
theorem op7_arg {H : Type} {enc : TypeId × Value → H} {W : World} {base : Nat} {v : Value} {d : DataW H} {p : List MemPlace} (hv : Value.okWide Tryz.prog W .any base 24 v) (h : DataW.Trod enc Tryz.prog W 0 (fun _ => true) true 24 v d p) (hb : Rows.uptoBulk d ≤ 1048576) :
  ∃ (K cwd uid gid : Int) (s u : ByteArray) (mo N oa ob : Int), v = .agg #[.int .i64 K, .int .i64 cwd, .int .i64 uid, .int .i64 gid, .string s, .string u, .int .i64 mo, .int .i64 N, .int .i64 oa, .int .i64 ob] ∧ mo < 9223372036854775808 ∧ s.size ≤ 1048576 ∧ u.size ≤ 1048576 := by
 obtain ⟨cs, rfl, hsz⟩ := okWide_struct Tryz.underlying24 hv
 obtain ⟨fuel, h2⟩ := h
 obtain ⟨K, cwd, uid, gid, s, u, mo, N, oa, ob, h3, _, h5, h6, _, hall⟩ := op7_opened (x := (d, p)) h2 hb
 refine ⟨K, cwd, uid, gid, s, u, mo, N, oa, ob, ?_, h3, h5, h6⟩
 have e : cs = op7 K cwd uid gid s u mo N oa ob := by
  rw [op7Cells] at hsz
  apply Array.ext'
  apply List.ext_getElem?
  intro k
  by_cases hk : k < 10
  · have := hall k hk
    rw [← Array.getElem?_toList] at this
    exact this
  · rw [List.getElem?_eq_none (by rw [Array.length_toList]; omega), List.getElem?_eq_none (by show 10 ≤ k; omega)]
 rw [e]
 rfl
end Go.Proofs.YtafonmnfeibaiaaGreat
namespace Go.Proofs.YtafonmnfeibaiaaGreat
open Go.RowKit
def OwnsR (T T' : IT.Tr) (uid : Int) : Prop := ∀ k, statV T' k = statV T k ∨ ∃ m m', T k = some m ∧ T' k = some m' ∧ (uid = 0 ∨ uid = m.owner ∧ m'.owner = m.owner)
theorem owns_same (T : IT.Tr) (uid : Int) : OwnsR T T uid := fun _ => .inl rfl
theorem owns_set {T T' : IT.Tr} (hs : IT.Sound okN T) {k : Nat} {m : IT.Nd} (hk : T k = some m) {uid mo o g r : Int} (hu : uid = 0 ∨ uid = m.owner ∧ o = m.owner) (h : IT.isSet rt T k mo o g r T') : OwnsR T T' uid := by
 unfold IT.isSet at h
 rw [hk] at h
 dsimp only at h
 split at h
 · rw [h.2]; exact owns_same T uid
 · obtain ⟨_, rfl⟩ := h
   intro j
   by_cases e : j = k
   · subst e
     exact .inr ⟨m, _, hk, IT.upd_same _ _ _, hu⟩
   · left
     unfold statV
     rw [IT.upd_other _ _ e]
     cases T j with
     | none => rfl
     | some q =>
       show infoT _ j q = infoT _ j q
       unfold infoT
       rw [IT.lnk_same (n' := { m with mode := mo, owner := o, group := g }) (hs.1.rng k m hk).2 hk rfl]
theorem chmod_owns {T T' : IT.Tr} (hs : IT.Sound okN T) {uid gid cwd mode r : Int} {s : IT.Bytes} (h : isChmod T (whoC uid gid) cwd s mode r T') : OwnsR T T' uid := by
 unfold isChmod at h
 split at h
 · rw [h.2]; exact owns_same T uid
 · obtain ⟨m, hm, h⟩ := h
   split at h
   · rw [h.2]; exact owns_same T uid
   · rename_i hc
     refine owns_set hs hm ?_ h
     by_cases e : uid = 0
     · exact .inl e
     · refine .inr ⟨?_, rfl⟩
       by_cases e2 : uid = m.owner
       · exact e2
       · exact absurd ⟨e, e2⟩ hc
theorem chown_owns {T T' : IT.Tr} (hs : IT.Sound okN T) {uid gid cwd o g r : Int} {s : IT.Bytes} (h : isChown T (whoC uid gid) cwd s o g r T') : OwnsR T T' uid := by
 unfold isChown at h
 split at h
 · rw [h.2]; exact owns_same T uid
 · obtain ⟨m, hm, h⟩ := h
   split at h
   · rw [h.2]; exact owns_same T uid
   · rename_i hc
     refine owns_set hs hm ?_ h
     by_cases e : uid = 0
     · exact .inl e
     · right
       by_cases e2 : uid = m.owner ∧ o = m.owner ∧ (g = (whoC uid gid).eg ∨ g = m.group)
       · exact ⟨e2.1, e2.2.1⟩
       · exact absurd ⟨e, e2⟩ hc
theorem look_set {T : IT.Tr} {k : Nat} {m : IT.Nd} (hk : T k = some m) (mo o g : Int) (j : Nat) (nm : IT.Bytes) : lookT (IT.upd T k (some { m with mode := mo, owner := o, group := g })) j nm = lookT T j nm := by
 unfold lookT
 by_cases e : j = k
 · subst e; rw [IT.upd_same, hk]
 · rw [IT.upd_other _ _ e]
theorem down_set {T : IT.Tr} {k : Nat} {m : IT.Nd} (hk : T k = some m) (mo o g : Int) (c : Cr) : ∀ (l : List IT.Bytes) (a i j : Nat), downT T c a l = (i, 0) → downT (IT.upd T k (some { m with mode := mo, owner := o, group := g })) c a l = (j, 0) → j = i
 | [], a, i, j, h1, h2 => by cases h1; cases h2; rfl
 | n :: l, a, i, j, h1, h2 => by
   unfold downT at h1 h2
   rw [look_set hk] at h2
   cases ha : T a with
   | none => rw [ha] at h1; cases h1
   | some q =>
     rw [ha] at h1
     dsimp only at h1
     split at h1
     · rename_i e; exact absurd (Prod.mk.inj h1).2 e
     · split at h2
       · cases h2
       · split at h2
         · rename_i e; exact absurd (Prod.mk.inj h2).2 e
         · cases hl : lookT T a n with
           | none => rw [hl] at h1; cases h1
           | some x => rw [hl] at h1 h2; exact down_set hk mo o g c l x i j h1 h2
theorem chown_ok {T T' : IT.Tr} (hm : MR T) {uid gid cwd o g : Int} {s : IT.Bytes} (h : isChown T (whoC uid gid) cwd s o g 0 T') {j : Nat} (hf : findT T' (whoC uid gid) cwd s = (j, 0)) :
  ∃ mo a1 a5 a6 a7 : Int, statV T' j = .agg #[.int .i64 j, .int .i64 a1, .int .i64 mo, .int .i64 o, .int .i64 g, .int .i64 a5, .int .i64 a6, .int .i64 a7] ∧ (bits .and .i64 mo 2048 == 0) = true ∧ (T' j).isSome = true := by
 unfold isChown at h
 split at h
 · rename_i e; exact absurd h.1.symm e
 · rename_i e
   obtain ⟨m, hk, h⟩ := h
   split at h
   · cases h.1
   · unfold IT.isSet at h
     rw [hk] at h
     dsimp only at h
     split at h
     · cases h.1
     · obtain ⟨_, rfl⟩ := h
       obtain ⟨_, h1⟩ := find_way (Decidable.not_not.1 e)
       obtain ⟨_, h2⟩ := find_way (show (findT (IT.upd T (findT T (whoC uid gid) cwd s).1 (some { m with mode := clr m.mode, owner := o, group := g })) (whoC uid gid) cwd s).2 = 0 by rw [hf])
       rw [hf] at h2
       obtain rfl := down_set hk _ _ _ _ _ _ _ _ h1 h2
       refine ⟨clr m.mode, m.kind, (IT.lnk (IT.upd T (findT T (whoC uid gid) cwd s).1 (some { m with mode := clr m.mode, owner := o, group := g })) (findT T (whoC uid gid) cwd s).1 : Nat), (m.data.length + m.names.length : Nat), m.tty, ?_, ?_, by rw [IT.upd_same]; rfl⟩
       · unfold statV
         rw [IT.upd_same]
         rfl
       · obtain ⟨n, e1, hn⟩ := Md.right_nat (rt_right (hm _ _ hk))
         unfold clr
         rw [e1, show bits .andNot .i64 (n : Int) 2048 = ((n &&& (18446744073709551615 - 2048) : Nat) : Int) from Md.andNot_nat (b := 2048) (by unfold Md.big; omega) (by decide)]
         have hlt : n &&& (18446744073709551615 - 2048) < Md.big := Nat.lt_of_le_of_lt Nat.and_le_left (by unfold Md.big; omega)
         rw [show bits .and .i64 ((n &&& (18446744073709551615 - 2048) : Nat) : Int) 2048 = (((n &&& (18446744073709551615 - 2048)) &&& 2048 : Nat) : Int) from Md.and_nat (b := 2048) hlt (by decide), Nat.and_assoc]
         simp
theorem eqF_some {P : Program} (ht : P.underlying 3 = some (.int .i64)) (d : Nat) (xs ys : Array Value) : ∀ fs : List Field, (∀ f ∈ fs, f.type = 3 ∧ ∃ i j : Int, ∀ w, (part f.type xs f.offset).run P w = .ok (.int .i64 i) w ∧ (part f.type ys f.offset).run P w = .ok (.int .i64 j) w) → ∃ b, ∀ w, (Op.eqFields (d + 1) xs ys fs).run P w = .ok b w
 | [], _ => ⟨true, fun w => by rw [Op.eqFields]; rfl⟩
 | f :: fs, h => by
   obtain ⟨h1, i, j, h2⟩ := h f (List.mem_cons_self ..)
   obtain ⟨b, ih⟩ := eqF_some ht d xs ys fs (fun g hg => h g (List.mem_cons_of_mem _ hg))
   have h4 := fun w => run_equalIn_int w d f.type .i64 .i64 i j (by rw [h1]; exact ht)
   by_cases hn : f.name ≠ "_"
   · cases hij : (i == j) with
     | true => exact ⟨b, fun w => by rw [Op.eqFields, if_pos hn]; have h4 := h4 w; rw [hij] at h4; simp [(h2 w).1, (h2 w).2, h4, ih w]⟩
     | false => exact ⟨false, fun w => by rw [Op.eqFields, if_pos hn]; have h4 := h4 w; rw [hij] at h4; simp [(h2 w).1, (h2 w).2, h4]⟩
   · exact ⟨b, fun w => by rw [Op.eqFields, if_neg hn]; exact ih w⟩
theorem info_cmp (i0 i1 i2 i3 i4 i5 i6 i7 j0 j1 j2 j3 j4 j5 j6 j7 : Int) : ∃ b, ∀ w, (binOp .eql 44 (.agg #[.int .i64 i0, .int .i64 i1, .int .i64 i2, .int .i64 i3, .int .i64 i4, .int .i64 i5, .int .i64 i6, .int .i64 i7]) (.agg #[.int .i64 j0, .int .i64 j1, .int .i64 j2, .int .i64 j3, .int .i64 j4, .int .i64 j5, .int .i64 j6, .int .i64 j7])).run Tryz.prog w = .ok (.bool b) w := by
 have key : ∀ (o : Nat), o < 8 → ∀ i0 i1 i2 i3 i4 i5 i6 i7 : Int, ∃ i : Int, ∀ w, (part 3 #[.int .i64 i0, .int .i64 i1, .int .i64 i2, .int .i64 i3, .int .i64 i4, .int .i64 i5, .int .i64 i6, .int .i64 i7] o).run Tryz.prog w = .ok (.int .i64 i) w := fun o ho i0 i1 i2 i3 i4 i5 i6 i7 => by
  obtain rfl | rfl | rfl | rfl | rfl | rfl | rfl | rfl : o = 0 ∨ o = 1 ∨ o = 2 ∨ o = 3 ∨ o = 4 ∨ o = 5 ∨ o = 6 ∨ o = 7 := by omega
  · exact ⟨i0, fun w => by kernel_rfl⟩
  · exact ⟨i1, fun w => by kernel_rfl⟩
  · exact ⟨i2, fun w => by kernel_rfl⟩
  · exact ⟨i3, fun w => by kernel_rfl⟩
  · exact ⟨i4, fun w => by kernel_rfl⟩
  · exact ⟨i5, fun w => by kernel_rfl⟩
  · exact ⟨i6, fun w => by kernel_rfl⟩
  · exact ⟨i7, fun w => by kernel_rfl⟩
 obtain ⟨b, h⟩ := eqF_some (P := Tryz.prog) Tryz.underlying3 9998 #[.int .i64 i0, .int .i64 i1, .int .i64 i2, .int .i64 i3, .int .i64 i4, .int .i64 i5, .int .i64 i6, .int .i64 i7] #[.int .i64 j0, .int .i64 j1, .int .i64 j2, .int .i64 j3, .int .i64 j4, .int .i64 j5, .int .i64 j6, .int .i64 j7] (Tryz.prog.fieldsOf 44).toList (fun f hf => by
  obtain ⟨e1, e2⟩ := of_decide_eq_true (List.all_eq_true.1 info_fields f hf)
  rw [e1]
  obtain ⟨i, hi⟩ := key _ e2 i0 i1 i2 i3 i4 i5 i6 i7
  obtain ⟨j, hj⟩ := key _ e2 j0 j1 j2 j3 j4 j5 j6 j7
  exact ⟨rfl, i, j, fun w => ⟨hi w, hj w⟩⟩)
 exact ⟨b, fun w => by rw [run_eql_struct, run_equalIn_struct w 9999 44 _ _ (by kernel_rfl) (by kernel_rfl), h w]; rfl⟩
end Go.Proofs.YtafonmnfeibaiaaGreat
