/-
  It is proved that WalkShut returns true for every input of bulk at most 1048576: whatever tree some steps have made, whoever owns a directory of mode 700 in it and whatever names stand below it: by a path through it whoever is neither its owner nor 0 finds, opens, makes, removes, moves, links and changes nothing.
  Conditions: none beyond the statement's own (the reading of the arguments, its bulk; internal/bytealg.MaxLen is named, not read).
-/
import Derived.Test.YtafonmnfeibaiaaGreatAll5
import Derived.Lib.IndexAny
import Derived.Test.YtafonmnfeibaiaaGreatAll6
import Derived.Test.YtafonmnfeibaiaaGreatAll4
import Derived.Test.YtafonmnfeibaiaaGreatRows
import Derived.WalkKit
import Derived.ProofKit
import Derived.OpenShut
import Derived.ShutString
import Derived.ChangeOld
import Derived.SliceStrings
import Derived.Below
import Derived.JoinedCond
set_option linter.all false
set_option maxRecDepth 100000
set_option maxHeartbeats 40000000
namespace Go.Proofs.YtafonmnfeibaiaaGreat
open Go.RowKit
def pathB (l : List IT.Bytes) : IT.Bytes := l.flatMap fun n => 47 :: n
theorem pathB_snoc (l : List IT.Bytes) (n : IT.Bytes) : pathB (l ++ [n]) = pathB l ++ 47 :: n := by
 unfold pathB; rw [List.flatMap_append]; simp
theorem okN_parts {n : IT.Bytes} (h : okN n = true) : n ≠ [] ∧ n.length ≤ 14 ∧ n ≠ [46] ∧ n ≠ [46, 46] ∧ plainB n = true ∧ (47 : UInt8) ∉ n := by
 obtain ⟨h1, h2, h3, h4, h5, h6⟩ := of_decide_eq_true h
 refine ⟨h1, h2, h3, h4, h5, fun hm => h6 ?_⟩
 have := Lib.contains_iff_indexByte n 47
 rw [List.contains_iff_mem.2 hm] at this
 exact of_decide_eq_true this.symm
theorem parts_path : ∀ (l : List IT.Bytes) (r : IT.Bytes), (∀ n ∈ l, n ≠ [] ∧ (47 : UInt8) ∉ n) → (r = [] ∨ ∃ b, r = 47 :: b) → Pp.parts (pathB l ++ r) = l ++ Pp.parts r
 | [], r, _, _ => rfl
 | n :: l, r, hn, hr => by
   obtain ⟨n1, n2⟩ := hn n (by simp)
   have ih := parts_path l r (fun q hq => hn q (by simp [hq])) hr
   have e : pathB (n :: l) ++ r = [] ++ 47 :: (n ++ (pathB l ++ r)) := by unfold pathB; simp
   rw [e, Pp.parts_cut [] _ (by simp)]
   show [] ++ Pp.parts (n ++ (pathB l ++ r)) = n :: (l ++ Pp.parts r)
   rw [List.nil_append, ← ih]
   have hX : pathB l ++ r = [] ∨ ∃ b, pathB l ++ r = 47 :: b := by
    cases l with
    | nil => exact hr
    | cons q l => exact .inr ⟨_, by unfold pathB; rw [List.flatMap_cons, List.append_assoc]; rfl⟩
   rcases hX with hX | ⟨b, hX⟩
   · rw [hX, List.append_nil]
     unfold Pp.parts
     have := Pp.partsA_run n [] [] n2
     rw [List.append_nil, List.append_nil] at this
     rw [this]
     unfold Pp.partsA
     rw [if_neg (by simpa using n1), if_pos rfl, List.reverse_reverse]
   · rw [hX, Pp.parts_cut n b n2, if_neg n1]
     have := Pp.parts_cut [] b (by simp)
     rw [List.nil_append, if_pos rfl, List.nil_append] at this
     rw [this]; rfl
theorem pathB_len : ∀ (l : List IT.Bytes), (∀ n ∈ l, n.length ≤ 14) → (pathB l).length ≤ 15 * l.length
 | [], _ => Nat.le_refl _
 | n :: l, h => by
   have := pathB_len l (fun q hq => h q (by simp [hq]))
   have := h n (by simp)
   unfold pathB at *
   simp only [List.flatMap_cons, List.length_append, List.length_cons]
   omega
theorem pathB_ok : ∀ (l : List IT.Bytes), (∀ n ∈ l, plainB n = true) → (pathB l).all Pp.okb = true
 | [], _ => rfl
 | n :: l, h => by
   have := pathB_ok l (fun q hq => h q (by simp [hq]))
   have h1 := h n (by simp)
   unfold pathB at *
   rw [List.flatMap_cons, List.all_append, this, Bool.and_true, List.all_cons]
   exact Bool.and_eq_true_iff.2 ⟨by decide, h1⟩
theorem suffix_no {l0 : List IT.Bytes} {n0 : IT.Bytes} (h : n0 ≠ []) (h2 : (47 : UInt8) ∉ n0) : Lib.hasSuffix (pathB (l0 ++ [n0])) [47] = false := by
 obtain ⟨a, x, rfl⟩ : ∃ a x, n0 = a ++ [x] := ⟨n0.dropLast, n0.getLast h, (List.dropLast_concat_getLast h).symm⟩
 rw [pathB_snoc]
 have hx : x ≠ 47 := fun e => h2 (by rw [e]; simp)
 simp [Lib.hasSuffix, List.isSuffixOf, List.isPrefixOf, Ne.symm hx]
theorem split_path (l : List IT.Bytes) (hl : l ≠ []) (h4 : l.length ≤ 8) (ho : ∀ n ∈ l, okN n = true) :
  Pp.splitS (pathB l) = (true, false, l, 0) ∧ Pp.splitS (pathB l ++ [47]) = (true, true, l, 0) ∧ Pp.splitS (pathB l ++ [47, 46]) = (true, true, l, 0) := by
 have hp : ∀ n ∈ l, n ≠ [] ∧ (47 : UInt8) ∉ n := fun n hn => ⟨(okN_parts (ho n hn)).1, (okN_parts (ho n hn)).2.2.2.2.2⟩
 have h14 : ∀ n ∈ l, n.length ≤ 14 := fun n hn => (okN_parts (ho n hn)).2.1
 have hln := pathB_len l h14
 have hok := pathB_ok l (fun n hn => (okN_parts (ho n hn)).2.2.2.2.1)
 obtain ⟨c, hc⟩ : ∃ c, pathB l = 47 :: c := by
  cases l with
  | nil => exact absurd rfl hl
  | cons n l => exact ⟨_, by unfold pathB; rw [List.flatMap_cons]; rfl⟩
 obtain ⟨l0, n0, rfl⟩ : ∃ l0 n0, l = l0 ++ [n0] := (snoc l).resolve_left hl
 have hn0 := okN_parts (ho n0 (by simp))
 have hfil : (l0 ++ [n0]).filter (fun x => decide (¬ x = [46])) = l0 ++ [n0] := by
  rw [List.filter_eq_self]; exact fun x hx => decide_eq_true (okN_parts (ho x hx)).2.2.1
 have hb : ¬ ∃ x ∈ l0 ++ [n0], 14 < x.length := fun ⟨x, hx, hh⟩ => by have := h14 x hx; omega
 have hb2 : ¬ ∃ x ∈ l0 ++ [n0] ++ [[46]], 14 < x.length := fun ⟨x, hx, hh⟩ => by
  rcases List.mem_append.1 hx with hx | hx
  · have := h14 x hx; omega
  · rw [List.mem_singleton.1 hx] at hh; simp at hh
 refine ⟨?_, ?_, ?_⟩
 · have hP : Pp.parts (pathB (l0 ++ [n0])) = l0 ++ [n0] := by
    have := parts_path (l0 ++ [n0]) [] hp (.inl rfl)
    rw [List.append_nil] at this
    rw [this]; simp [Pp.parts, Pp.partsA]
   unfold Pp.splitS
   rw [if_neg (by rw [hc]; simp), hP, if_neg (fun hh => hh.elim (fun hh => by omega) hb), if_neg (by rw [hok]; decide), hfil, List.getLast?_concat]
   have e1 : Lib.hasPrefix (pathB (l0 ++ [n0])) [47] = true := by rw [hc]; simp [Lib.hasPrefix]
   have e2 : Lib.hasSuffix (pathB (l0 ++ [n0])) [47] = false := suffix_no hn0.1 hn0.2.2.2.2.2
   have e3 : ((some n0).getD [] == [46]) = false := beq_eq_false_iff_ne.2 hn0.2.2.1
   have e4 : ((some n0).getD [] == [46, 46]) = false := beq_eq_false_iff_ne.2 hn0.2.2.2.1
   rw [e1, e2, e3, e4]
   rfl
 · have hP : Pp.parts (pathB (l0 ++ [n0]) ++ [47]) = l0 ++ [n0] := by
    have := parts_path (l0 ++ [n0]) [47] hp (.inr ⟨[], rfl⟩)
    rw [this]; simp [Pp.parts, Pp.partsA]
   unfold Pp.splitS
   rw [if_neg (by simp), hP, if_neg (fun hh => hh.elim (fun hh => by rw [List.length_append] at hh; simp at hh hln h4; omega) hb), if_neg (by rw [List.all_append, hok]; decide), hfil, List.getLast?_concat]
   have e1 : Lib.hasPrefix (pathB (l0 ++ [n0]) ++ [47]) [47] = true := by rw [hc]; simp [Lib.hasPrefix]
   have e2 : Lib.hasSuffix (pathB (l0 ++ [n0]) ++ [47]) [47] = true := by simp [Lib.hasSuffix, List.isSuffixOf]
   rw [e1, e2]
   rfl
 · have hP : Pp.parts (pathB (l0 ++ [n0]) ++ [47, 46]) = l0 ++ [n0] ++ [[46]] := by
    have := parts_path (l0 ++ [n0]) [47, 46] hp (.inr ⟨[46], rfl⟩)
    rw [this]; simp [Pp.parts, Pp.partsA]
   unfold Pp.splitS
   rw [if_neg (by simp), hP, if_neg (fun hh => hh.elim (fun hh => by rw [List.length_append] at hh; simp at hh hln h4; omega) hb2), if_neg (by rw [List.all_append, hok]; decide), List.filter_append, hfil, List.getLast?_concat]
   have e1 : Lib.hasPrefix (pathB (l0 ++ [n0]) ++ [47, 46]) [47] = true := by rw [hc]; simp [Lib.hasPrefix]
   rw [e1]
   simp
def shutN : IT.Bytes := [115, 104, 117, 116]
theorem shut_split : Pp.splitS [47, 115, 104, 117, 116] = (true, false, [shutN], 0) := by kernel_rfl
theorem zero_may {m : IT.Nd} (h : rtN m) (hk : m.kind = 1) {want : Int} (h1 : 1 ≤ want) (h7 : want ≤ 7) : mayN m (whoC 0 0) want = true := by
 unfold mayN Md.mayS
 rw [if_neg (fun a => a.elim (fun a => by rw [rt_right h] at a; cases a) (fun a => a.elim (fun a => by omega) (fun a => by omega)))]
 show (if (0 : Int) = 0 then _ else _) = true
 rw [if_pos rfl, hk]
 rfl
theorem zero_enters {m : IT.Nd} (h : rtN m) (hk : m.kind = 1) : entersE m (whoC 0 0) = 0 := by
 unfold entersE
 rw [if_neg (fun hh => hh hk), zero_may h hk (by decide) (by decide), if_neg (by decide)]
theorem root_go {T : IT.Tr} {c : Cr} {r : IT.Nd} (h : T 1 = some r) (l : List IT.Bytes) : goT T c 1 true l = downT T c 1 l := by
 unfold goT startT
 rw [if_neg (by rw [if_pos rfl, h]; exact fun hh => Option.some_ne_none _ hh), if_pos rfl]
theorem root_entry {T : IT.Tr} (hm : MR T) {r : IT.Nd} (h : T 1 = some r) (hk : r.kind = 1) : entryT T (whoC 0 0) 1 [47, 115, 104, 117, 116] = .ok ⟨1, shutN, false, lookT T 1 shutN⟩ := by
 unfold entryT
 rw [shut_split]
 dsimp only
 rw [if_neg (by decide), if_neg (by decide), root_go h]
 show (if (0 : Int) ≠ 0 then _ else match T 1 with
  | none => _
  | some m => _) = _
 rw [if_neg (by decide), h]
 dsimp only
 rw [if_neg (fun hh => hh (zero_enters (hm 1 r h) hk))]
 rfl
theorem root_find {T : IT.Tr} (hm : MR T) {r : IT.Nd} (h : T 1 = some r) (hk : r.kind = 1) {d : Nat} (hl : lookT T 1 shutN = some d) : findT T (whoC 0 0) 1 [47, 115, 104, 117, 116] = (d, 0) := by
 have hd : downT T (whoC 0 0) 1 [shutN] = (d, 0) := by
  unfold downT
  rw [h]
  dsimp only
  rw [if_neg (fun hh => hh (zero_enters (hm 1 r h) hk)), hl]
  rfl
 unfold findT
 rw [shut_split]
 dsimp only
 rw [if_neg (by decide), root_go h, hd, if_neg (fun hh => hh rfl), if_neg (fun hh => Bool.false_ne_true hh.1)]
theorem look_root {T : IT.Tr} {r : IT.Nd} (h : T 1 = some r) (hk : r.kind = 1) : lookT T 1 shutN = IT.findN shutN r.names := by
 unfold lookT
 rw [h]
 dsimp only
 rw [if_neg (fun hh => hh hk), if_neg (by decide), if_neg (by decide)]
theorem free_at (T : IT.Tr) : (∀ k, 1 ≤ k → k ≤ 200 → T k ≠ none) ∨ ∃ j, FreeAt T j := by
 have gen : ∀ n, n ≤ 200 → (∀ k, 1 ≤ k → k ≤ n → T k ≠ none) ∨ ∃ j, FreeAt T j := by
  intro n
  induction n with
  | zero => exact fun _ => .inl fun k h1 h2 => by omega
  | succ n ih =>
    intro hn
    rcases ih (by omega) with h | h
    · by_cases e : T (n + 1) = none
      · exact .inr ⟨n + 1, by omega, hn, e, fun k h1 h2 => h k h1 (by omega)⟩
      · refine .inl fun k h1 h2 => ?_
        by_cases e2 : k = n + 1
        · rw [e2]; exact e
        · exact h k h1 (by omega)
    · exact .inr h
 exact gen 200 (Nat.le_refl _)
theorem shut_mkdir {T T' : IT.Tr} (hs : IT.Sound okN T) (hm : MR T) {e : Int} (h : isMkdir T (whoC 0 0) 1 [47, 115, 104, 117, 116] 448 e T') : e = 9 ∨ (e = 0 ∨ e = 5) ∧ ∃ d, lookT T' 1 shutN = some d := by
 obtain ⟨r, hr, hk, _⟩ := hs.1.root
 have he := root_entry hm hr hk
 cases hl : lookT T 1 shutN with
 | some d =>
   unfold isMkdir at h
   rw [if_neg (by decide +kernel), he, hl] at h
   dsimp only at h
   rw [if_pos (show (some d).isSome = true from rfl)] at h
   obtain ⟨rfl, rfl⟩ := h
   exact .inr ⟨.inr rfl, d, hl⟩
 | none =>
   rw [hl] at he
   have hf := look_root hr hk
   rw [hl] at hf
   have h2 := zero_may (hm 1 r hr) hk (want := 2) (by decide) (by decide)
   rcases free_at T with hfull | ⟨j, hj⟩
   · unfold isMkdir at h
     rw [if_neg (by decide +kernel), he] at h
     dsimp only at h
     rw [if_neg (by decide)] at h
     obtain ⟨m, i1, r1, T1, hm1, hmk, h⟩ := h
     rw [hr] at hm1
     obtain rfl := Option.some.inj hm1
     rw [h2] at hmk
     unfold isMakes at hmk
     rw [if_neg (by decide)] at hmk
     obtain ⟨i2, r2, T2, hmk2, hmk⟩ := hmk
     unfold IT.isMake at hmk2
     rw [if_neg (fun a => a.elim (fun a => by omega) (fun a => a.elim (fun a => by omega) (fun a => by exact a (by unfold rt; decide +kernel)))), if_neg (by omega), if_pos hfull] at hmk2
     obtain ⟨_, rfl, _⟩ := hmk2
     rw [if_pos (by decide)] at hmk
     obtain ⟨_, rfl, _⟩ := hmk
     rw [if_neg (by decide)] at h
     exact .inl h.1
   · by_cases h40 : r.names.length < 40
     · have hs' := isMkdir.sound h hs
       obtain ⟨rfl, rfl⟩ := mkdir_new hs he hr hk (by decide +kernel) hf.symm h40 (by decide +kernel) h2 (by unfold rt; decide +kernel) hj h
       refine .inr ⟨.inl rfl, j, ?_⟩
       have e1 : IT.entT (IT.upd T j (some { newN (whoC 0 0) 1 448 j with holds := 0 })) 1 j shutN r { newN (whoC 0 0) 1 448 j with holds := 0 } 1 = some { r with names := IT.insN shutN j r.names } := by
        unfold IT.entT; rw [IT.upd_same]
       rw [look_root e1 hk]
       exact IT.find_of (hs'.1.ord 1 _ e1) ((IT.ins_perm shutN j r.names).mem_iff.2 (List.mem_cons_self ..))
     · unfold isMkdir at h
       rw [if_neg (by decide +kernel), he] at h
       dsimp only at h
       rw [if_neg (by decide)] at h
       obtain ⟨m, i1, r1, T1, hm1, hmk, h⟩ := h
       rw [hr] at hm1
       obtain rfl := Option.some.inj hm1
       rw [h2] at hmk
       unfold isMakes at hmk
       rw [if_neg (by decide)] at hmk
       obtain ⟨i2, r2, T2, hmk2, hmk⟩ := hmk
       unfold IT.isMake at hmk2
       rw [if_neg (fun a => a.elim (fun a => by omega) (fun a => a.elim (fun a => by omega) (fun a => by exact a (by unfold rt; decide +kernel)))), if_neg (by omega), if_neg (fun hh => hh j hj.1 hj.2.1 hj.2.2.1)] at hmk2
       obtain ⟨rfl, g1, g2, g3, g4, rfl⟩ := hmk2
       rw [if_neg (by decide)] at hmk
       obtain ⟨r3, T3, h3, hmk⟩ := hmk
       have hne : (1 : Nat) ≠ i2 := fun e => by rw [← e, hr] at g3; cases g3
       unfold IT.isEnter at h3
       rw [IT.upd_other _ _ hne, hr, IT.upd_same] at h3
       dsimp only at h3
       have hz : IT.lnk (IT.upd T i2 (some ⟨1, 448, (whoC 0 0).eff, (whoC 0 0).eg, if (1 : Int) = 2 then 0 else 0, 1, [], [], if (1 : Int) = 1 then i2 else 0⟩)) i2 = 0 := by
        rw [IT.lnk_new g3 g2 rfl]; exact hs.1.free g3
       rw [if_neg (fun hh => hh hk), if_neg (by decide +kernel), if_neg (by rw [← hf]; exact fun hh => hh rfl), if_neg (fun a => a.elim (fun a => by exact hne a.symm) (fun a => a.elim (fun a => by have := a.2; rw [hz] at this; omega) (fun a => by rw [hz] at a; omega))), if_pos (by omega)] at h3
       obtain ⟨rfl, _⟩ := h3
       rw [if_pos (by decide)] at hmk
       obtain ⟨_, rfl, _⟩ := hmk
       rw [if_neg (by decide)] at h
       exact .inl h.1
theorem shut_chown {T T' : IT.Tr} (hs : IT.Sound okN T) (hm : MR T) {d : Nat} (hl : lookT T 1 shutN = some d) {owner r : Int} (h0 : 0 ≤ owner) (h1 : owner ≤ 65535) (h : isChown T (whoC 0 0) 1 [47, 115, 104, 117, 116] owner 3 r T') : r = 0 ∧ lookT T' 1 shutN = some d ∧ ∃ m, T' d = some m ∧ m.owner = owner := by
 obtain ⟨q, hr, hk, _⟩ := hs.1.root
 unfold isChown at h
 rw [root_find hm hr hk hl, if_neg (fun hh => hh rfl)] at h
 obtain ⟨m, hd, h⟩ := h
 rw [if_neg (fun hh => hh.1 rfl)] at h
 dsimp only at hd h
 unfold IT.isSet at h
 rw [hd] at h
 dsimp only at h
 rw [if_neg (fun hh => hh (by
  have h2 := clr_right (rt_right (hm _ _ hd))
  unfold rt
  rw [RF.right_ids]
  simp only [Bool.and_eq_true]
  exact ⟨h2, decide_eq_true ⟨h0, h1⟩, by decide⟩))] at h
 obtain ⟨rfl, rfl⟩ := h
 exact ⟨rfl, by rw [look_set hd]; exact hl, _, IT.upd_same _ _ _, rfl⟩
theorem shut_chmod {T T' : IT.Tr} (hs : IT.Sound okN T) (hm : MR T) {d : Nat} {m : IT.Nd} (hl : lookT T 1 shutN = some d) (hd : T d = some m) {r : Int} (h : isChmod T (whoC 0 0) 1 [47, 115, 104, 117, 116] 448 r T') : r = 0 ∧ lookT T' 1 shutN = some d ∧ ∃ m', T' d = some m' ∧ m'.owner = m.owner ∧ m'.mode = 448 := by
 obtain ⟨q, hr, hk, _⟩ := hs.1.root
 unfold isChmod at h
 rw [root_find hm hr hk hl, if_neg (fun hh => hh rfl)] at h
 obtain ⟨m1, hd1, h⟩ := h
 dsimp only at hd1
 rw [hd] at hd1
 obtain rfl := Option.some.inj hd1
 rw [if_neg (fun hh => hh.1 rfl)] at h
 dsimp only at h
 unfold IT.isSet at h
 rw [hd] at h
 dsimp only at h
 rw [if_neg (fun hh => hh (by
  have h2 := hm _ _ hd
  unfold rtN rt at *
  rw [RF.right_ids] at h2 ⊢
  simp only [Bool.and_eq_true] at h2 ⊢
  exact ⟨by decide +kernel, h2.2⟩))] at h
 obtain ⟨rfl, rfl⟩ := h
 exact ⟨rfl, by rw [look_set hd]; exact hl, _, IT.upd_same _ _ _, rfl, rfl⟩
def Shut (T : IT.Tr) (owner : Int) : Prop := ∃ d m, lookT T 1 shutN = some d ∧ T d = some m ∧ m.mode = 448 ∧ m.owner = owner
theorem shut_enters {m : IT.Nd} {owner uid gid : Int} (h1 : m.mode = 448) (h2 : m.owner = owner) (hu : uid ≠ 0) (hne : uid ≠ owner) : entersE m (whoC uid gid) ≠ 0 := by
 unfold entersE
 split
 · decide
 · have hf : mayN m (whoC uid gid) 1 = false := by
    unfold mayN Md.mayS
    rw [h1, h2, if_neg (fun a => a.elim (fun a => by exact absurd a (by decide +kernel)) (fun a => a.elim (fun a => by omega) (fun a => by omega))), if_neg (show ¬ (whoC uid gid).eff = 0 from hu)]
    unfold Md.yS
    rw [if_neg (show ¬ (whoC uid gid).eff = owner from hne)]
    split <;> rfl
   rw [hf, if_pos rfl]
   decide
theorem shut_down {T : IT.Tr} {owner uid gid : Int} (h : Shut T owner) (hu : uid ≠ 0) (hne : uid ≠ owner) (n : IT.Bytes) (l : List IT.Bytes) : (downT T (whoC uid gid) 1 (shutN :: n :: l)).2 ≠ 0 := by
 obtain ⟨d, m, h1, h2, h3, h4⟩ := h
 unfold downT
 split
 · decide
 · split
   · rename_i e; exact e
   · rw [h1]
     dsimp only
     unfold downT
     rw [h2]
     dsimp only
     rw [if_pos (shut_enters h3 h4 hu hne)]
     exact shut_enters h3 h4 hu hne
theorem shut_find {T : IT.Tr} {owner uid gid : Int} (h : Shut T owner) (hu : uid ≠ 0) (hne : uid ≠ owner) {s : IT.Bytes} {l : List IT.Bytes} (hl : l ≠ []) (hsp : Pp.splitS s = (true, false, shutN :: l, 0)) : (findT T (whoC uid gid) 1 s).2 ≠ 0 := by
 intro hf
 obtain ⟨_, h2⟩ := find_way hf
 rw [hsp] at h2
 cases l with
 | nil => exact hl rfl
 | cons n l => exact shut_down h hu hne n l (congrArg (·.2) h2)
theorem shut_entry {T : IT.Tr} {owner uid gid : Int} (h : Shut T owner) (hu : uid ≠ 0) (hne : uid ≠ owner) {s : IT.Bytes} {l : List IT.Bytes} (hl : l ≠ []) (hsp : Pp.splitS s = (true, false, shutN :: l, 0)) : ∃ e, entryT T (whoC uid gid) 1 s = .error e ∧ e ≠ 0 := by
 cases he : entryT T (whoC uid gid) 1 s with
 | error e => exact ⟨e, rfl, entry_ne he⟩
 | ok x =>
   exfalso
   obtain ⟨_, _, m, hm, hen, _, _, h6⟩ := entry_way he
   rw [hsp] at h6
   cases l with
   | nil => exact hl rfl
   | cons n l =>
     cases l with
     | cons n2 l => exact shut_down h hu hne n (n2 :: l).dropLast (congrArg (·.2) h6)
     | nil =>
       obtain ⟨d, m1, h1, h2, h3, h4⟩ := h
       have h6 : downT T (whoC uid gid) 1 [shutN] = (x.dir, 0) := h6
       unfold downT at h6
       split at h6
       · exact absurd (Prod.mk.inj h6).2 (by decide)
       · split at h6
         · rename_i e; exact e (congrArg (·.2) h6)
         · rw [h1] at h6
           have e1 : d = x.dir := congrArg (·.1) h6
           rw [← e1, h2] at hm
           obtain rfl := Option.some.inj hm
           exact shut_enters h3 h4 hu hne hen
theorem shut_open {T T' : IT.Tr} {c : Cr} {s : IT.Bytes} (hf : (findT T c 1 s).2 ≠ 0) (he : ∃ e, entryT T c 1 s = .error e ∧ e ≠ 0) {o : Ho} {i : Nat} {r : Int} (h : isOpen T c 1 s o i r T') : r ≠ 0 ∧ T' = T := by
 obtain ⟨e, he, h0⟩ := he
 unfold isOpen at h
 rw [he] at h
 split at h
 · obtain ⟨_, rfl, rfl⟩ := h; exact ⟨by decide, rfl⟩
 · split at h
   · obtain ⟨_, rfl, rfl⟩ := h; exact ⟨h0, rfl⟩
   · try rw [if_pos hf] at h
     obtain ⟨_, rfl, rfl⟩ := h; exact ⟨hf, rfl⟩
theorem shut_mk {T T' : IT.Tr} {c : Cr} {s : IT.Bytes} (he : ∃ e, entryT T c 1 s = .error e ∧ e ≠ 0) {mode r : Int} (h : isMkdir T c 1 s mode r T') : r ≠ 0 ∧ T' = T := by
 obtain ⟨e, he, h0⟩ := he
 unfold isMkdir at h
 rw [he] at h
 split at h
 · obtain ⟨rfl, rfl⟩ := h; exact ⟨by decide, rfl⟩
 · obtain ⟨rfl, rfl⟩ := h; exact ⟨h0, rfl⟩
theorem shut_rm {T T' : IT.Tr} {c : Cr} {s : IT.Bytes} (he : ∃ e, entryT T c 1 s = .error e ∧ e ≠ 0) {b : Bool} {r : Int} (h : isWRemove T c 1 s b r T') : r ≠ 0 ∧ T' = T := by
 obtain ⟨e, he, h0⟩ := he
 unfold isWRemove at h
 rw [he] at h
 obtain ⟨rfl, rfl⟩ := h
 exact ⟨h0, rfl⟩
theorem shut_mv {T T' : IT.Tr} {c : Cr} {s a : IT.Bytes} (he : ∃ e, entryT T c 1 s = .error e ∧ e ≠ 0) {r : Int} (h : isRename T c 1 s a r T') : r ≠ 0 ∧ T' = T := by
 obtain ⟨e, he, h0⟩ := he
 unfold isRename at h
 rw [he] at h
 obtain ⟨rfl, rfl⟩ := h
 exact ⟨h0, rfl⟩
theorem shut_ln {T T' : IT.Tr} {c : Cr} {s a : IT.Bytes} (hf : (findT T c 1 s).2 ≠ 0) {r : Int} (h : isLink T c 1 s a r T') : r ≠ 0 ∧ T' = T := by
 unfold isLink at h
 rw [if_pos hf] at h
 obtain ⟨rfl, rfl⟩ := h
 exact ⟨hf, rfl⟩
theorem shut_ch {T T' : IT.Tr} {c : Cr} {s : IT.Bytes} (hf : (findT T c 1 s).2 ≠ 0) {mode r : Int} (h : isChmod T c 1 s mode r T') : r ≠ 0 ∧ T' = T := by
 unfold isChmod at h
 rw [if_pos hf] at h
 obtain ⟨rfl, rfl⟩ := h
 exact ⟨hf, rfl⟩
theorem and255 (n : Int) : 0 ≤ bits .and .i64 n 255 ∧ bits .and .i64 n 255 ≤ 255 := by
 have h : bits .and .i64 n 255 = IntKind.i64.wrap (((BitVec.ofInt 64 n).toNat &&& 255 : Nat) : Int) := by
  simp only [bits, BitVec.toNat_and]; rfl
 have h7 : (BitVec.ofInt 64 n).toNat &&& 255 ≤ 255 := Nat.and_le_right
 rw [h, IntKind.wrap_i64]; omega
structure SW (n0 : Nat) (w1 wr : World) (t : Nat) (S : Tab) (T : IT.Tr) (b5 : Nat) (V : Array Value) : Prop where
 tro : Tro n0 w1 wr t S T
 op : wr.heap[b5]? = some (.cells V 24 (0, 0))
theorem SW.below {n0 : Nat} {w1 wr w' : World} {t : Nat} {S : Tab} {T : IT.Tr} {b5 : Nat} {V : Array Value} (h : SW n0 w1 wr t S T b5 V) (hb : Below wr.heap.size wr w') : SW n0 w1 w' t S T b5 V :=
 ⟨h.tro.below hb, (hb.block _ (lt_of_heap h.op)).trans h.op⟩
theorem SW.step {n0 : Nat} {w1 wr w' : World} {t : Nat} {S : Tab} {T : IT.Tr} {b5 : Nat} {V : Array Value} (h : SW n0 w1 wr t S T b5 V) {R : IT.Tr → Prop} (g : Stp wr t S R w') (hR : ∀ T', R T' → IT.Sound okN T') : ∃ S' T', SW n0 w1 w' t S' T' b5 V ∧ R T' := by
 obtain ⟨S', T', h1, h2, h3⟩ := h.tro.lay g hR
 exact ⟨S', T', ⟨h1, h3.2 _ _ _ _ h.op (by decide) (by decide) (by decide)⟩, h2⟩
structure SC (n0 : Nat) (w1 wr : World) (t : Nat) (S : Tab) (T : IT.Tr) (b5 bc : Nat) (V C : Array Value) : Prop where
 sw : SW n0 w1 wr t S T b5 V
 cr : wr.heap[bc]? = some (.cells C 36 (0, 0))
theorem SC.below {n0 : Nat} {w1 wr w' : World} {t : Nat} {S : Tab} {T : IT.Tr} {b5 bc : Nat} {V C : Array Value} (h : SC n0 w1 wr t S T b5 bc V C) (hb : Below wr.heap.size wr w') : SC n0 w1 w' t S T b5 bc V C :=
 ⟨h.sw.below hb, (hb.block _ (lt_of_heap h.cr)).trans h.cr⟩
theorem SC.step {n0 : Nat} {w1 wr w' : World} {t : Nat} {S : Tab} {T : IT.Tr} {b5 bc : Nat} {V C : Array Value} (h : SC n0 w1 wr t S T b5 bc V C) {r : Int} {R : Int → IT.Tr → Prop} (g : Stp wr t S (R r) w') (hR : ∀ T', R r T' → r ≠ 0 ∧ T' = T) : ∃ S', SC n0 w1 w' t S' T b5 bc V C ∧ (r != 0) = true := by
 obtain ⟨S', T', h1, h2, h3⟩ := h.sw.tro.lay g (fun T' hh => (hR T' hh).2 ▸ h.sw.tro.snd)
 obtain ⟨e1, rfl⟩ := hR T' h2
 exact ⟨S', ⟨⟨h1, h3.2 _ _ _ _ h.sw.op (by decide) (by decide) (by decide)⟩, h3.2 _ _ _ _ h.cr (by decide) (by decide) (by decide)⟩, by simpa using e1⟩
theorem sc_cells {W : World} {b5 bc : Nat} {K cwd uid gid u7 : Int} {s u : ByteArray} {mo N oa ob : Int} (h : W.heap[b5]? = some (.cells (op7 K cwd uid gid s u mo N oa ob) 24 (0, 0)) ∧ W.heap[bc]? = some (.cells #[.int .i64 u7, .int .i64 u7, .int .i64 u7, .int .i64 gid, .int .i64 gid] 36 (0, 0))) : W.cell? ⟨b5, 0, none⟩ = some (.int .i64 K) ∧ W.cell? ⟨b5, 1, none⟩ = some (.int .i64 cwd) ∧ W.cell? ⟨b5, 2, none⟩ = some (.int .i64 uid) ∧ W.cell? ⟨b5, 3, none⟩ = some (.int .i64 gid) ∧ W.cell? ⟨b5, 4, none⟩ = some (.string s) ∧ W.cell? ⟨b5, 5, none⟩ = some (.string u) ∧ W.cell? ⟨b5, 6, none⟩ = some (.int .i64 mo) ∧ W.cell? ⟨b5, 7, none⟩ = some (.int .i64 N) ∧ W.cell? ⟨b5, 8, none⟩ = some (.int .i64 oa) ∧ W.cell? ⟨b5, 9, none⟩ = some (.int .i64 ob) ∧ W.cell? ⟨bc, 0, none⟩ = some (.int .i64 u7) ∧ W.cell? ⟨bc, 1, none⟩ = some (.int .i64 u7) ∧ W.cell? ⟨bc, 2, none⟩ = some (.int .i64 u7) ∧ W.cell? ⟨bc, 3, none⟩ = some (.int .i64 gid) ∧ W.cell? ⟨bc, 4, none⟩ = some (.int .i64 gid) :=
 ⟨cell_of h.1 0, cell_of h.1 1, cell_of h.1 2, cell_of h.1 3, cell_of h.1 4, cell_of h.1 5, cell_of h.1 6, cell_of h.1 7, cell_of h.1 8, cell_of h.1 9, cell_of h.2 0, cell_of h.2 1, cell_of h.2 2, cell_of h.2 3, cell_of h.2 4⟩
theorem bs_app7 (a b : ByteArray) : bs (a ++ b) = bs a ++ bs b := by unfold bs; rw [ByteArray.data_append, Array.toList_append]
def StrsS (w : World) (B : Nat) (a : Option Addr) (len : Nat) : Prop := ∀ j, j < len → ∃ b off s, a = some ⟨b, off, none⟩ ∧ b < B ∧ w.cell? ⟨b, off + j, none⟩ = some (.string s) ∧ s.size ≤ maxLen
theorem shut7_any (a : Option Addr) (len cap : Nat) (w : World) (hl : len ≤ maxLen) (h0 : Ops7 w w.heap.size a len) (own0 uid0 : Int) (na : Option Addr) (nlen ncap : Nat) (hnl : nlen ≤ maxLen) (hn : StrsS w w.heap.size na nlen) (K cwd uid gid : Int) (s u : ByteArray) (mo N oa ob : Int) :
  Calls Tryz.prog 5 #[.slice a len cap, .int .i64 own0, .int .i64 uid0, .slice na nlen ncap, .agg #[.int .i64 K, .int .i64 cwd, .int .i64 uid, .int .i64 gid, .string s, .string u, .int .i64 mo, .int .i64 N, .int .i64 oa, .int .i64 ob]] w fun e w' => e = .returned (.bool true) ∧ Below w.heap.size w w' := by
 unfold maxLen at hnl
 have HS := Hd h0
 have HNS := Hd hn
 have HHW := Hd (fun W' => how_any K cwd uid gid s u mo N oa ob W')
 obtain ⟨⟨want, make, alone, empty, fin, mode⟩, hho⟩ : ∃ ho, how7 mo N = ho := ⟨_, rfl⟩
 rw [hho] at HHW
 unfold howV at HHW
 dsimp only at HHW
 clear hho h0 hn
 go_enter Tryz.func5, Tryz.ntmps5
 go_wp2_with fail
 refine (shown7_any _).mono ?_
 rintro e w1 ⟨rfl, hb⟩
 have HB1 := Hd (one_below hb)
 have h1 : w1.heap[w.heap.size]? = some (.cells (op7 K cwd uid gid s u mo N oa ob) 24 (0, 0)) := (hb.block _ (by rw [alloc_size]; omega)).trans (alloc_heap w _)
 have HO := Hd h1
 clear hb h1
 go_wp2_with fail
 refine (some7_any a len cap w w1 hl HS.out HB1.out).mono ?_
 rintro e w2 ⟨t, S, T, rfl, hd, hhb, hmr⟩
 have h1 := (hd.own.below.block _ (lt_of_heap HO.out)).trans HO.out
 have HD := Hd hd
 have HX := Hd (hhb.mono (show 61 ≤ 999999 by omega))
 have HMR := Hd hmr
 clear hd hhb hmr HO HS
 have HO := Hd h1
 clear h1
 obtain ⟨ha0, ha1⟩ := and255 own0
 obtain ⟨hb0, hb1⟩ := and255 uid0
 go_upto_region 7 with fail
 obtain ⟨ow, how⟩ : ∃ ow, 1 + bits .and .i64 own0 255 = ow := ⟨_, rfl⟩
 obtain ⟨u7, hu7⟩ : ∃ u7, 1 + bits .and .i64 uid0 255 = u7 := ⟨_, rfl⟩
 rw [how, hu7]
 have ho1 : 0 ≤ ow := by omega
 have ho2 : ow ≤ 65535 := by omega
 have hu1 : u7 ≠ 0 := by omega
 clear how hu7 ha0 ha1 hb0 hb1
 have HFIN : Hid (∀ W' T' S', Tro w1.heap.size w1 W' t S' T' → Below w.heap.size w W') := Hd fun W' T' S' hh => HB1.out.trans (hh.own.below.mono HB1.out.size)
 by_cases hne : u7 = ow
 · have he1 : ow = u7 := hne.symm
   clear hne ho1 ho2 hu1
   go_wp2
   go_ret
   exact ⟨rfl, HFIN.out _ _ _ HD.out⟩
 have he1 : ¬ ow = u7 := fun e => hne e.symm
 have HNE := Hd hne
 have HU1 := Hd hu1
 have HO1 := Hd ho1
 have HO2 := Hd ho2
 have HWHO : Hid (∀ (g u : Int) W', Calls Tryz.prog 13 #[.int .i64 u, .int .i64 g] W' fun e w' => e = .returned (.agg #[.int .i64 u, .int .i64 u, .int .i64 u, .int .i64 g, .int .i64 g]) ∧ Below W'.heap.size W' w') := Hd (fun g u W' => who_any u g W')
 have HSW : Hid (SW w1.heap.size w1 w2 t S T w.heap.size (op7 K cwd uid gid s u mo N oa ob)) := Hd ⟨HD.out, HO.out⟩
 clear hne hu1 ho1 ho2 HD HO
 go_wp2_with fail
 refine (HWHO.out _ _ _).mono ?_
 rintro e w3 ⟨rfl, hb⟩
 have HSW3 := Hd (HSW.out.below hb)
 clear hb HSW
 go_wp2_with fail
 refine (walkRemove_any HSW3.out.tro.tre 1 (whoC 0 0) _ false).mono ?_
 rintro e w4 ⟨r1, rfl, hst⟩
 obtain ⟨S1, T1, hs1, hr1⟩ := HSW3.out.step hst (fun _ hh => isWRemove.sound hh HSW3.out.tro.snd)
 have HSW4 := Hd hs1
 have HX1 := Hd (HX.out.wremove hr1)
 have HM1 := Hd (HMR.out.wremove hr1)
 clear hst hs1 hr1 HSW3 HX HMR
 go_wp2_with fail
 refine (HWHO.out _ _ _).mono ?_
 rintro e w5 ⟨rfl, hb⟩
 have HSW5 := Hd (HSW4.out.below hb)
 clear hb HSW4
 go_wp2_with fail
 refine (walkMkdir_any HSW5.out.tro.tre (HX1.out.mono (by decide)) 1 (whoC 0 0) _ 448).mono ?_
 rintro e w6 ⟨e0, rfl, hst⟩
 obtain ⟨S2, T2, hs2, hr2⟩ := HSW5.out.step hst (fun _ hh => isMkdir.sound hh HSW5.out.tro.snd)
 have HSW6 := Hd hs2
 have HX2 := Hd (HX1.out.mkdir (by decide) hr2)
 have HM2 := Hd (HM1.out.mkdir hr2)
 have hmk := shut_mkdir HSW5.out.tro.snd HM1.out hr2
 clear hst hs2 hr2 HSW5 HX1 HM1
 rcases hmk with rfl | ⟨hz, d, hld⟩
 · go_wp2
   go_ret
   exact ⟨rfl, HFIN.out _ _ _ HSW6.out.tro⟩
 have HLD := Hd hld
 clear hld
 rcases hz with rfl | rfl
 all_goals
  go_wp2_with fail
  refine (HWHO.out _ _ _).mono ?_
  rintro e w7 ⟨rfl, hb⟩
  have HSW7 := Hd (HSW6.out.below hb)
  clear hb HSW6
  go_wp2_with fail
  refine (walkChown_any HSW7.out.tro.tre 1 (whoC 0 0) _ ow 3).mono ?_
  rintro e w8 ⟨r3, rfl, hst⟩
  obtain ⟨S3, T3, hs3, hr3⟩ := HSW7.out.step hst (fun _ hh => isChown.sound hh HSW7.out.tro.snd)
  obtain ⟨rfl, hl3, m3, hm3, hmo3⟩ := shut_chown HSW7.out.tro.snd HM2.out HLD.out HO1.out HO2.out hr3
  have HSW8 := Hd hs3
  have HX3 := Hd (HX2.out.chown hr3)
  have HM3 := Hd (HM2.out.chown hr3)
  have HL3 := Hd hl3
  have HD3 := Hd hm3
  have HMO := Hd hmo3
  clear hst hs3 hr3 hl3 hm3 hmo3 HSW7 HX2 HM2 HLD
  go_wp2_with fail
  refine (HWHO.out _ _ _).mono ?_
  rintro e w9 ⟨rfl, hb⟩
  have HSW9 := Hd (HSW8.out.below hb)
  clear hb HSW8
  go_wp2_with fail
  refine (walkChmod_any HSW9.out.tro.tre 1 (whoC 0 0) _ 448).mono ?_
  rintro e wa ⟨r4, rfl, hst⟩
  obtain ⟨S4, T4, hs4, hr4⟩ := HSW9.out.step hst (fun _ hh => isChmod.sound hh HSW9.out.tro.snd)
  obtain ⟨rfl, hl4, m4, hm4, ho4, hmo4⟩ := shut_chmod HSW9.out.tro.snd HM3.out HL3.out HD3.out hr4
  have HSWA := Hd hs4
  have HX4 := Hd (HX3.out.chmod hr4)
  have HSH : Hid (Shut T4 ow) := Hd ⟨d, m4, hl4, hm4, hmo4, ho4.trans HMO.out⟩
  clear hst hs4 hr4 hl4 hm4 ho4 hmo4 HSW9 HX3 HM3 HL3 HD3 HMO
  go_upto_region 14 with fail
  have HJ0 : Hid (bs ⟨#[47, 115, 104, 117, 116]⟩ = pathB (shutN :: []) ∧ ([] : List IT.Bytes).length = 0 ∧ ∀ n ∈ ([] : List IT.Bytes), okN n = true) := Hd ⟨rfl, rfl, fun n hn => by cases hn⟩
  go_wp2_with fail
  go_loopg [14, 15] 5 (fun g sv iv wr => ∃ (s2 : ByteArray) (k : Nat) (L : List IT.Bytes), sv = .string s2 ∧ iv = .int .i64 (k : Int) ∧ k ≤ nlen ∧ k + g = 5 ∧ wr = wa ∧ Hid (bs s2 = pathB (shutN :: L) ∧ L.length = k ∧ ∀ n ∈ L, okN n = true))
  case atStart => exact ⟨_, 0, [], rfl, rfl, Nat.zero_le _, rfl, rfl, HJ0⟩
  case round =>
   clear HJ0
   obtain ⟨s2, k, L, rfl, rfl, hk, hkg, rfl, HJ⟩ := hrel
   have hsz : s2.size ≤ 90 := by
    have h1 := pathB_len (shutN :: L) (fun q hq => by
     rcases List.mem_cons.1 hq with rfl | hq
     · decide
     · exact (okN_parts (HJ.out.2.2 q hq)).2.1)
    rw [← HJ.out.1, bs_len, List.length_cons, HJ.out.2.1] at h1
    omega
   by_cases hc : k < nlen ∧ k < 5
   · obtain ⟨hc1, hc2⟩ := hc
     obtain ⟨og, rfl⟩ : ∃ og, gk = og + 1 := ⟨gk - 1, by omega⟩
     obtain ⟨ba, oa2, nm, rfl, hba, hcl, _⟩ := HNS.out k hc1
     have hnm : wr.cell? ⟨ba, oa2 + k, none⟩ = some (.string nm) := by rw [HSWA.out.tro.own.below.cell (p := ⟨ba, oa2 + k, none⟩) (by have := HB1.out.size; simp; omega), HB1.out.cell (p := ⟨ba, oa2 + k, none⟩) hba]; exact hcl
     clear hba hcl
     have hk0 : (k : Int) < nlen := by omega
     have hk5 : (k : Int) < 5 := by omega
     have HNM := Hd (nameB_ok nm)
     cases hok : nameB nm with
     | false =>
       have HNA : Hid (∀ W', Calls Tryz.prog 23 #[.string nm] W' fun e w' => e = .returned (.bool false) ∧ W' = w') := Hd (fun W' => by have := name_any nm W'; rw [hok] at this; exact this)
       clear hok
       go_wp2_with fail
       refine (HNA.out _).mono ?_
       rintro e w5 ⟨rfl, rfl⟩
       go_wp2
       go_ret
       exact ⟨rfl, HFIN.out _ _ _ HSWA.out.tro⟩
     | true =>
       have HNA : Hid (∀ W', Calls Tryz.prog 23 #[.string nm] W' fun e w' => e = .returned (.bool true) ∧ W' = w') := Hd (fun W' => by have := name_any nm W'; rw [hok] at this; exact this)
       have hok2 : okN (bs nm) = true := by rw [← HNM.out]; exact hok
       have hn1 : nm.size ≤ 14 := by have := (okN_parts hok2).2.1; rw [bs_len] at this; exact this
       have HJ2 : Hid (bs (s2 ++ ⟨#[47]⟩ ++ nm) = pathB (shutN :: (L ++ [bs nm])) ∧ (L ++ [bs nm]).length = k + 1 ∧ ∀ n ∈ L ++ [bs nm], okN n = true) := Hd ⟨by rw [bs_app7, bs_app7, HJ.out.1, ← List.cons_append, pathB_snoc, List.append_assoc]; rfl, by rw [List.length_append, HJ.out.2.1]; rfl, fun n hn => by
        rcases List.mem_append.1 hn with h | h
        · exact HJ.out.2.2 n h
        · rw [List.mem_singleton.1 h]; exact hok2⟩
       clear hok hok2
       go_wp2_with fail
       refine (HNA.out _).mono ?_
       rintro e w5 ⟨rfl, rfl⟩
       go_wp2_with fail
       go_roundg og
       case measure => omega
       case rel => exact ⟨_, k + 1, _, rfl, by go_num, by omega, by omega, rfl, HJ2⟩
   · have hs9 : (s2.size : Int) ≤ 128 := by omega
     clear hsz
     by_cases h0 : nlen = 0
     · subst h0
       have hk3 : ((0 : Nat) : Int) ≤ k := by omega
       clear hc
       go_wp2
       go_ret
       exact ⟨rfl, HFIN.out _ _ _ HSWA.out.tro⟩
     have hL : L ≠ [] := fun e => by
      have := HJ.out.2.1
      rw [e, List.length_nil] at this
      omega
     have hsp : Pp.splitS (bs s2) = (true, false, shutN :: L, 0) := by
      rw [HJ.out.1]
      exact (split_path (shutN :: L) (by simp) (by rw [List.length_cons, HJ.out.2.1]; omega) (fun n hn => by
       rcases List.mem_cons.1 hn with rfl | hn
       · decide +kernel
       · exact HJ.out.2.2 n hn)).1
     have HF := Hd (shut_find (gid := gid) HSH.out HU1.out HNE.out hL hsp)
     have HE := Hd (shut_entry (gid := gid) HSH.out HU1.out HNE.out hL hsp)
     have hq0 : ((nlen : Int) == 0) = false := by
      rw [beq_eq_false_iff_ne]; omega
     have g3 : wr.cell? ⟨w.heap.size, 3, none⟩ = some (.int .i64 gid) := cell_of HSWA.out.op 3
     clear h0 hL hsp HSH
     by_cases hkl : k < nlen
     case' pos =>
      have hk3 : (k : Int) < nlen := by omega
      have hk4 : (5 : Int) ≤ k := by omega
      clear hc hkl
      go_wp2_with fail
     case' neg =>
      have hk3 : (nlen : Int) ≤ k := by omega
      clear hc hkl
      go_wp2_with fail
     all_goals
      refine (HWHO.out _ _ _).mono ?_
      rintro e wb ⟨rfl, hb⟩
      have hsb := HSWA.out.below hb
      clear hb HJ HSWA g3
      go_upto_region 23 with fail
      have hsc : SC w1.heap.size w1 (wb.alloc (.cells #[.int .i64 u7, .int .i64 u7, .int .i64 u7, .int .i64 gid, .int .i64 gid] 36)) t S4 T4 w.heap.size wb.heap.size (op7 K cwd uid gid s u mo N oa ob) #[.int .i64 u7, .int .i64 u7, .int .i64 u7, .int .i64 gid, .int .i64 gid] := ⟨hsb.below ((Below.refl _ _).alloc (Nat.le_refl _) _), alloc_heap _ _⟩
      generalize wb.alloc (.cells #[.int .i64 u7, .int .i64 u7, .int .i64 u7, .int .i64 gid, .int .i64 gid] 36) = W at *
      generalize wb.heap.size = bc at *
      have HC := Hd hsc
      clear hsb hsc
      obtain ⟨o0, o1, o2, o3, o4, o5, o6, o7, o8, o9, c0, c1, c2, c3, c4⟩ := sc_cells ⟨HC.out.sw.op, HC.out.cr⟩
      go_wp2_with fail
      obtain ⟨⟨fk, fr⟩, hg⟩ : ∃ g, findT T4 (whoC u7 gid) 1 (bs s2) = g := ⟨_, rfl⟩
      have hfr : (fr != 0) = true := by have := HF.out; rw [hg] at this; simpa using this
      refine (walkFind_any HC.out.sw.tro.tre 1 (whoC u7 gid) s2 hg).mono ?_
      rintro e wc ⟨rfl, hb⟩
      have HC2 := Hd (HC.out.below hb)
      clear hb hg HC o0 o1 o2 o3 o4 o5 o6 o7 o8 o9 c0 c1 c2 c3 c4
      generalize (if fr = 0 then fk else 0) = fv
      obtain ⟨o0, o1, o2, o3, o4, o5, o6, o7, o8, o9, c0, c1, c2, c3, c4⟩ := sc_cells ⟨HC2.out.sw.op, HC2.out.cr⟩
      have KP : ∀ (W' : World), (W'.heap[w.heap.size]? = some (.cells (op7 K cwd uid gid s u mo N oa ob) 24 (0, 0)) ∧ W'.heap[bc]? = some (.cells #[.int .i64 u7, .int .i64 u7, .int .i64 u7, .int .i64 gid, .int .i64 gid] 36 (0, 0))) → (W'.cell? ⟨w.heap.size, 0, none⟩ = some (.int .i64 K) ∧ W'.cell? ⟨w.heap.size, 1, none⟩ = some (.int .i64 cwd) ∧ W'.cell? ⟨w.heap.size, 2, none⟩ = some (.int .i64 uid) ∧ W'.cell? ⟨w.heap.size, 3, none⟩ = some (.int .i64 gid) ∧ W'.cell? ⟨w.heap.size, 4, none⟩ = some (.string s) ∧ W'.cell? ⟨w.heap.size, 5, none⟩ = some (.string u) ∧ W'.cell? ⟨w.heap.size, 6, none⟩ = some (.int .i64 mo) ∧ W'.cell? ⟨w.heap.size, 7, none⟩ = some (.int .i64 N) ∧ W'.cell? ⟨w.heap.size, 8, none⟩ = some (.int .i64 oa) ∧ W'.cell? ⟨w.heap.size, 9, none⟩ = some (.int .i64 ob) ∧ W'.cell? ⟨bc, 0, none⟩ = some (.int .i64 u7) ∧ W'.cell? ⟨bc, 1, none⟩ = some (.int .i64 u7) ∧ W'.cell? ⟨bc, 2, none⟩ = some (.int .i64 u7) ∧ W'.cell? ⟨bc, 3, none⟩ = some (.int .i64 gid) ∧ W'.cell? ⟨bc, 4, none⟩ = some (.int .i64 gid)) := fun W' hh => sc_cells hh
      have HQ := Hd (And.intro HC2.out.sw.op HC2.out.cr)
      go_wp2_with fail
      go_region_held3 (fun W' => W'.cell? ⟨w.heap.size, 0, none⟩ = some (.int .i64 K) ∧ W'.cell? ⟨w.heap.size, 1, none⟩ = some (.int .i64 cwd) ∧ W'.cell? ⟨w.heap.size, 2, none⟩ = some (.int .i64 uid) ∧ W'.cell? ⟨w.heap.size, 3, none⟩ = some (.int .i64 gid) ∧ W'.cell? ⟨w.heap.size, 4, none⟩ = some (.string s) ∧ W'.cell? ⟨w.heap.size, 5, none⟩ = some (.string u) ∧ W'.cell? ⟨w.heap.size, 6, none⟩ = some (.int .i64 mo) ∧ W'.cell? ⟨w.heap.size, 7, none⟩ = some (.int .i64 N) ∧ W'.cell? ⟨w.heap.size, 8, none⟩ = some (.int .i64 oa) ∧ W'.cell? ⟨w.heap.size, 9, none⟩ = some (.int .i64 ob) ∧ W'.cell? ⟨bc, 0, none⟩ = some (.int .i64 u7) ∧ W'.cell? ⟨bc, 1, none⟩ = some (.int .i64 u7) ∧ W'.cell? ⟨bc, 2, none⟩ = some (.int .i64 u7) ∧ W'.cell? ⟨bc, 3, none⟩ = some (.int .i64 gid) ∧ W'.cell? ⟨bc, 4, none⟩ = some (.int .i64 gid))
       (first | (refine KP _ ?_; first | with_reducible exact HQ.out | exact ⟨hp2.sw.op, hp2.cr⟩ | exact ⟨hp1.sw.op, hp1.cr⟩ | exact HQ.out))
       (first
         | (go_at_call 10; refine (HHW.out _).mono ?_; rintro e wd ⟨rfl, hbd⟩; have hbw : Below wc.heap.size wc wd := (Below.refl wc.heap.size wc).drew.trans hbd; have hp1 := HC2.out.below hbw)
         | (go_at_call 16; refine (walkOpen_any hp1.sw.tro.tre (HX4.out.mono (by decide)) 1 (whoC u7 gid) s2 ⟨want, make, alone, empty, fin, mode⟩).mono ?_; rintro e we ⟨i1, r5, rfl, hst⟩; obtain ⟨S5, hp2, hr5⟩ := hp1.step (R := fun r T' => isOpen T4 (whoC u7 gid) 1 (bs s2) ⟨want, make, alone, empty, fin, mode⟩ i1 r T') hst (fun _ hh => shut_open HF.out HE.out hh)))
      have HC3 := Hd hp2
      clear hst hp1 hp2 hbw KP HQ HC2 o0 o1 o2 o3 o4 o5 o6 o7 o8 o9 c0 c1 c2 c3 c4
      obtain ⟨o0, o1, o2, o3, o4, o5, o6, o7, o8, o9, c0, c1, c2, c3, c4⟩ := sc_cells ⟨HC3.out.sw.op, HC3.out.cr⟩
      go_wp2_with fail
      refine (walkMkdir_any HC3.out.sw.tro.tre (HX4.out.mono (by decide)) 1 (whoC u7 gid) s2 493).mono ?_
      rintro e wf ⟨r6, rfl, hst⟩
      obtain ⟨_, hs, hr6⟩ := HC3.out.step (R := fun r T' => isMkdir T4 (whoC u7 gid) 1 (bs s2) 493 r T') hst (fun _ hh => shut_mk HE.out hh)
      have HC4 := Hd hs
      clear hst hs HC3 o0 o1 o2 o3 o4 o5 o6 o7 o8 o9 c0 c1 c2 c3 c4
      obtain ⟨o0, o1, o2, o3, o4, o5, o6, o7, o8, o9, c0, c1, c2, c3, c4⟩ := sc_cells ⟨HC4.out.sw.op, HC4.out.cr⟩
      go_wp2_with fail
      refine (walkRemove_any HC4.out.sw.tro.tre 1 (whoC u7 gid) s2 (bits .and .i64 N 1 == 1)).mono ?_
      rintro e wg ⟨r7, rfl, hst⟩
      obtain ⟨_, hs, hr7⟩ := HC4.out.step (R := fun r T' => isWRemove T4 (whoC u7 gid) 1 (bs s2) (bits .and .i64 N 1 == 1) r T') hst (fun _ hh => shut_rm HE.out hh)
      have HC5 := Hd hs
      clear hst hs HC4 o0 o1 o2 o3 o4 o5 o6 o7 o8 o9 c0 c1 c2 c3 c4
      obtain ⟨o0, o1, o2, o3, o4, o5, o6, o7, o8, o9, c0, c1, c2, c3, c4⟩ := sc_cells ⟨HC5.out.sw.op, HC5.out.cr⟩
      go_wp2_with fail
      refine (walkRename_any HC5.out.sw.tro.tre (HX4.out.mono (by decide)) 1 (whoC u7 gid) s2 ⟨#[47, 120]⟩).mono ?_
      rintro e wh ⟨r8, rfl, hst⟩
      obtain ⟨_, hs, hr8⟩ := HC5.out.step (R := fun r T' => isRename T4 (whoC u7 gid) 1 (bs s2) (bs ⟨#[47, 120]⟩) r T') hst (fun _ hh => shut_mv HE.out hh)
      have HC6 := Hd hs
      clear hst hs HC5 o0 o1 o2 o3 o4 o5 o6 o7 o8 o9 c0 c1 c2 c3 c4
      obtain ⟨o0, o1, o2, o3, o4, o5, o6, o7, o8, o9, c0, c1, c2, c3, c4⟩ := sc_cells ⟨HC6.out.sw.op, HC6.out.cr⟩
      go_wp2_with fail
      refine (walkLink_any HC6.out.sw.tro.tre 1 (whoC u7 gid) s2 ⟨#[47, 121]⟩).mono ?_
      rintro e wi ⟨r9, rfl, hst⟩
      obtain ⟨_, hs, hr9⟩ := HC6.out.step (R := fun r T' => isLink T4 (whoC u7 gid) 1 (bs s2) (bs ⟨#[47, 121]⟩) r T') hst (fun _ hh => shut_ln HF.out hh)
      have HC7 := Hd hs
      clear hst hs HC6 o0 o1 o2 o3 o4 o5 o6 o7 o8 o9 c0 c1 c2 c3 c4
      obtain ⟨o0, o1, o2, o3, o4, o5, o6, o7, o8, o9, c0, c1, c2, c3, c4⟩ := sc_cells ⟨HC7.out.sw.op, HC7.out.cr⟩
      go_wp2_with fail
      refine (walkChmod_any HC7.out.sw.tro.tre 1 (whoC u7 gid) s2 511).mono ?_
      rintro e wj ⟨ra, rfl, hst⟩
      obtain ⟨_, hs, hra⟩ := HC7.out.step (R := fun r T' => isChmod T4 (whoC u7 gid) 1 (bs s2) 511 r T') hst (fun _ hh => shut_ch HF.out hh)
      have HC8 := Hd hs
      clear hst hs HC7 o0 o1 o2 o3 o4 o5 o6 o7 o8 o9 c0 c1 c2 c3 c4
      obtain ⟨o0, o1, o2, o3, o4, o5, o6, o7, o8, o9, c0, c1, c2, c3, c4⟩ := sc_cells ⟨HC8.out.sw.op, HC8.out.cr⟩
      go_wp2
      go_ret
      exact ⟨rfl, HFIN.out _ _ _ HC8.out.sw.tro⟩
end Go.Proofs.YtafonmnfeibaiaaGreat
namespace Go.Proofs.YtafonmnfeibaiaaGreat
open Go.ChangeShapes Go.WideShapes Go.ChangeAt Go.RowKit
theorem add_none (b off j : Nat) : (Addr.mk b off none).add j = ⟨b, off + j, none⟩ := by
 by_cases h : j = 0
 · subst h; simp [Addr.add]
 · simp [Addr.add, h]
theorem strs_of {H : Type} {enc : TypeId × Value → H} {W : World} {a : Option Addr} {len cap : Nat} {d : DataW H} {p : List MemPlace} (h : ∃ n, DataW.trod enc Tryz.prog W 0 (fun _ => true) true n 52 (Value.cells (.slice a len cap)).toList = some (d, p)) :
  len ≤ maxLen ∧ StrsS W W.heap.size a len := by
 obtain ⟨fuel, hf⟩ := h
 rcases open_strings Tryz.underlying52 Tryz.underlying9 (by kernel_rfl) hf with ⟨hcs, _⟩ | ⟨x, l, c, ss, hcs, _, hl, hm, hz, _, hcell, hws⟩
 · simp [Value.cells] at hcs
   obtain ⟨rfl, rfl, rfl⟩ := hcs
   exact ⟨Nat.zero_le _, fun j hj => by omega⟩
 · simp [Value.cells] at hcs
   obtain ⟨rfl, rfl, rfl⟩ := hcs
   refine ⟨by omega, fun j hj => ?_⟩
   have hc0 := hcell 0 (by simp at hz; omega)
   have hc := hcell j (by simp at hz; omega)
   obtain ⟨b, off, spot⟩ := x
   have hspot : spot = none := by simpa [Addr.add] using World.cell?_spot hc0
   subst hspot
   rw [add_none] at hc
   refine ⟨b, off, _, rfl, World.block_lt_of_cell? W ⟨b, off + j, none⟩ hc, hc, hws _ ?_⟩
   rw [List.getD_eq_getElem?_getD, List.getElem?_eq_getElem (by simp at hz; omega)]
   exact List.getElem_mem _
end Go.Proofs.YtafonmnfeibaiaaGreat
namespace Go.Proofs.YtafonmnfeibaiaaGreat.walkShut
open Go.ChangeShapes Go.WideShapes Go.ChangeAt Go.RowKit
open Go.ChangeMaps (open_string shut_string)
set_option linter.unusedVariables false
theorem own : ownKnob Tryz.prog.godebug = none := by kernel_rfl
theorem laidOut : laidOutB Tryz.prog = true := by kernel_rfl
theorem lifted (os : Os) (started : os.Started) (H : Type) (enc : TypeId × Value → H) (F0 : Stop.Interp) :
  ReturnsInHanded {} Tryz.checked os 5 .any ((Rows.OpenSpec.upto Rows.walkShutSpec).pre6 enc Tryz.prog Tryz.f5 Rows.walkShutUptoRow.domain false) (((Rows.OpenSpec.upto Rows.walkShutSpec).at F0).post enc Tryz.prog Tryz.f5 false true false false) := by
 refine returnsInHanded_of_cond (C := Tryz.checked) (s := (Rows.OpenSpec.upto Rows.walkShutSpec)) (k := Rows.uptoSmall) rfl own started (by kernel_rfl) Tryz.func5
  (OpenSpec.witness (enc := enc) (C := Tryz.checked) (s := (Rows.OpenSpec.upto Rows.walkShutSpec)) (k := Rows.uptoSmall) rfl false ⟨#[], #[.slice none 0 0, .int .i64 0, .int .i64 0, .slice none 0 0, .agg #[.int .i64 0, .int .i64 0, .int .i64 0, .int .i64 0, .string ⟨#[]⟩, .string ⟨#[]⟩, .int .i64 0, .int .i64 0, .int .i64 0, .int .i64 0]], []⟩ 8 (by kernel_rfl) (by kernel_rfl) (by kernel_rfl)
    (x := ([.nil, .lit (.int .i64 0), .lit (.int .i64 0), .nil, .agg [.lit (.int .i64 0), .lit (.int .i64 0), .lit (.int .i64 0), .lit (.int .i64 0), .lit (.string []), .lit (.string []), .lit (.int .i64 0), .lit (.int .i64 0), .lit (.int .i64 0), .lit (.int .i64 0)]], [], [])) (by kernel_rfl) (by kernel_rfl) (by kernel_rfl)) ?_
 intro W base args ds gs before hval0 hW hcnd hu0 _
 have hval : ∀ (j : Nat) t v, Tryz.f5.params[j]? = some t → args[j]? = some v → Value.okWide Tryz.prog W .any base t v := hval0
 have hW' := hW
 obtain ⟨p, q, hA0, hV, rfl, hfz, hnd⟩ := hW
 have hA : DataW.TrodAll enc Tryz.prog W 0 (fun _ => true) true Tryz.f5.params.toList args.toList ds p := hA0
 rw [Tryz.params5] at hA hval
 obtain ⟨v0, vs0, d0, ds0, p0, q0, hargs, rfl, rfl, h0, r0⟩ := trodAll_cons hA
 obtain ⟨v1, vs1, d1, ds1, p1, q1, rfl, rfl, rfl, h1, r1⟩ := trodAll_cons r0
 obtain ⟨v2, vs2, d2, ds2, p2, q2, rfl, rfl, rfl, h2, r2⟩ := trodAll_cons r1
 obtain ⟨v3, vs3, d3, ds3, p3, q3, rfl, rfl, rfl, h3, r3⟩ := trodAll_cons r2
 obtain ⟨v4, vs4, d4, ds4, p4, q4, rfl, rfl, rfl, h4, r4⟩ := trodAll_cons r3
 obtain ⟨rfl, rfl, rfl⟩ := trodAll_nil r4
 obtain rfl : args = #[v0, v1, v2, v3, v4] := by cases args; simp_all
 obtain ⟨rfl, rfl⟩ := trodVars_none hV
 have hu : Rows.uptoBulkAll [d0, d1, d2, d3, d4] ≤ 1048576 := of_decide_eq_true hu0
 simp only [Rows.uptoBulkAll] at hu
 obtain ⟨a0, len0, cap0, rfl⟩ := okWide_slice Tryz.underlying22 (hval 0 22 v0 rfl rfl)
 have lt0 : ∀ x ∈ p0, x.block < W.heap.size := by obtain ⟨m, hm⟩ := h0; exact DataW.trod_lt m _ _ _ hm
 obtain ⟨m0, w0⟩ := ops7_of h0 (by omega)
 obtain ⟨a1, rfl, rfl, rfl, w1⟩ := open_int Tryz.underlying3 (hval 1 3 v1 rfl rfl) h1
 obtain ⟨a2, rfl, rfl, rfl, w2⟩ := open_int Tryz.underlying3 (hval 2 3 v2 rfl rfl) h2
 obtain ⟨a3, len3, cap3, rfl⟩ := okWide_slice Tryz.underlying52 (hval 3 52 v3 rfl rfl)
 have lt3 : ∀ x ∈ p3, x.block < W.heap.size := by obtain ⟨m, hm⟩ := h3; exact DataW.trod_lt m _ _ _ hm
 obtain ⟨m3, w3⟩ := strs_of h3
 have lt4 : ∀ x ∈ p4, x.block < W.heap.size := by obtain ⟨m, hm⟩ := h4; exact DataW.trod_lt m _ _ _ hm
 obtain ⟨K4, cwd4, uid4, gid4, s4, u4, mo4, N4, oa4, ob4, rfl, w4⟩ := op7_arg (hval 4 24 v4 rfl rfl) h4 (by omega)
 clear hA0 hval0
 refine (shut7_any a0 len0 cap0 W m0 w0 a1 a2 a3 len3 cap3 m3 w3 K4 cwd4 uid4 gid4 s4 u4 mo4 N4 oa4 ob4).mono fun e W' ⟨he, bel⟩ => ?_
 subst he
 exact ⟨_, rfl, _, _, _, [], _, [], hW', trodAll_mk1 (shut_bool Tryz.underlying4 _), (trodAll_cons_mk (Below.trod laidOut (by kernel_rfl) (of_decide_eq_true (by kernel_rfl)) h0 bel lt0) (trodAll_cons_mk (shut_int Tryz.underlying3 w1) (trodAll_cons_mk (shut_int Tryz.underlying3 w2) (trodAll_cons_mk (Below.trod laidOut (by kernel_rfl) (of_decide_eq_true (by kernel_rfl)) h3 bel lt3) (trodAll_cons_mk (Below.trod laidOut (by kernel_rfl) (of_decide_eq_true (by kernel_rfl)) h4 bel lt4) trodAll_mk0))))), rfl, bel.frame _, fun h => by cases h⟩
theorem proved : Rows.WalkShutUptoSaid :=
 OpenClaim.holds_of_cond 5 Tryz.f5 rfl rfl rfl rfl rfl rfl rfl ⟨rfl, rfl, rfl, rfl, rfl⟩ rfl rfl rfl rfl rfl (by kernel_rfl) Tryz.func5 (by kernel_rfl)
  (of_decide_eq_true (by kernel_rfl)) (by unfold Func.isWrapper; first | (rw [if_pos (by decide +kernel)]; kernel_rfl) | (rw [if_neg (by decide +kernel)]; exact ⟨rfl, rfl⟩))
  (fun os started H enc _ F0 => lifted os started H enc F0)
#print axioms proved
end Go.Proofs.YtafonmnfeibaiaaGreat.walkShut
