/-
  It is proved that WalkEntries returns true for every input of bulk at most 1048576: whatever tree some steps have made and whoever asks Remove, Link, Rename or Mkdir of it: if the names of a directory are others behind it, the one who asks may write it; and if it was sticky and a name is gone, the one who asks is 0, owns it, or owned what that name led to.
  Conditions: none beyond the statement's own (the reading of the arguments, its bulk; internal/bytealg.MaxLen is named, not read).
-/
import Derived.Test.YtafonmnfeibaiaaGreatAll5
import Derived.Test.YtafonmnfeibaiaaGreatAll6
import Derived.Deep.Cut
import Derived.Deep.CutRange
import Derived.Deep.CutBlock
import Derived.Laws.AppendOwn
import Derived.OwnWalk
import Derived.Test.YtafonmnfeibaiaaGreatRows
import Derived.WalkKit
import Derived.ProofKit
import Derived.OpenShut
import Derived.ShutString
import Derived.ChangeOld
import Derived.SliceStrings
import Derived.JoinedCond
import Derived.Below
set_option linter.all false
set_option maxRecDepth 100000
set_option maxHeartbeats 100000000
namespace Go.Proofs.YtafonmnfeibaiaaGreat
open Go.RowKit
theorem same_some (w : World) (v u : Value) (l1 l2 : List ByteArray) (h : Sl w v l1) (g : Sl w u l2) (hl : l1.length ≤ 1000000) (hl2 : l2.length ≤ 1000000) :
  Calls Tryz.prog 27 #[v, u] w fun e w' => ∃ b, e = .returned (.bool b) ∧ (l1 = l2 → b = true) ∧ Below w.heap.size w w' := by
 by_cases heq : l1 = l2
 · subst heq
   exact (same_eq w v u l1 h g hl).mono fun e w' ⟨e1, k, e2⟩ => ⟨true, e1, fun _ => rfl, by rw [e2]; exact belowDrewN (Below.refl _ _) k⟩
 obtain ⟨a, ca, rfl, ha⟩ := h
 obtain ⟨b, cb, rfl, hb⟩ := g
 have HE := Hd heq
 have HA := Hd ha
 have HB := Hd hb
 have h1 : (l1.length : Int) ≤ 1000000 := by omega
 have h2 : (l2.length : Int) ≤ 1000000 := by omega
 clear ha hb heq
 by_cases hn : l1.length = l2.length
 · rw [← hn] at h2 ⊢
   have HN := Hd hn
   clear hn
   go_enter Tryz.func27, Tryz.ntmps27
   go_wp2
   go_loopw [5] (fun i wr => ∃ k q : Nat, k ≤ l1.length ∧ i = .int .i64 k ∧ wr = w.drewN q) (fun i _ => l1.length - (intOf i).toNat)
   case atStart => exact ⟨0, 0, Nat.zero_le _, rfl, rfl⟩
   case round =>
    obtain ⟨k, q, hk, rfl, rfl⟩ := hrel
    by_cases hlt : k < l1.length
    · obtain ⟨ba, oa, rfl, hca⟩ := HA.out k hlt
      obtain ⟨bb, ob, rfl, hcb⟩ := HB.out k (by rw [← HN.out]; exact hlt)
      generalize l1[k] = x at hca hcb
      generalize l2[k]'(by rw [← HN.out]; exact hlt) = y at hca hcb
      have hlt1 : (k : Int) < l1.length := by omega
      by_cases hxy : x = y
      · subst hxy
        go_wp2
        go_quiet (fail)
        go_wp2
        go_roundw
        case rel => exact ⟨k + 1, q + nq, by omega, by go_num, rfl⟩
        case measure => simp [intOf]; omega
      · have hxy2 : (!x.toList == y.toList) = true := by
         rw [Bool.not_eq_true', beq_eq_false_iff_ne]
         exact fun e => hxy (ByteArray.ext (Array.ext' (by rw [tQ, tQ] at e; exact e)))
        go_wp2
        go_quiet (fail)
        go_wp2
        go_ret
        exact ⟨false, rfl, fun e => absurd e HE.out, belowDrewN (belowDrewN (Below.refl _ _) q) nq⟩
    · go_wp2
      go_ret
      exact ⟨true, rfl, fun _ => rfl, belowDrewN (Below.refl _ _) q⟩
 · have hn2 : ((l1.length : Int) != (l2.length : Int)) = true := by
    rw [bne_iff_ne]; omega
   go_enter Tryz.func27, Tryz.ntmps27
   go_wp2
   go_ret
   exact ⟨false, rfl, fun e => absurd e HE.out, Below.refl _ _⟩
theorem below6 {n : Nat} {w w2 : World} (h : Below n w w2) {b : Nat} (hb : n ≤ b) (v0 v1 v2 v3 v4 v5 : Value) : Below n w ((((((w2.setCell ⟨b, 0, none⟩ v0).setCell ⟨b, 1, none⟩ v1).setCell ⟨b, 2, none⟩ v2).setCell ⟨b, 3, none⟩ v3).setCell ⟨b, 4, none⟩ v4).setCell ⟨b, 5, none⟩ v5) :=
 (((((h.setCell hb _).setCell hb _).setCell hb _).setCell hb _).setCell hb _).setCell hb _
theorem dir_set6 {n : Nat} {w w2 : World} (h : Below n w w2) {b : Nat} (hb : n ≤ b) {u0 u1 u2 u3 u4 u5 : Value} (hh : w2.heap[b]? = some (.cells #[u0, u1, u2, u3, u4, u5] 59 (0, 0))) (v0 v1 v2 v3 v4 v5 : Value) : ∃ Wd, ((((((w2.setCell ⟨b, 0, none⟩ v0).setCell ⟨b, 1, none⟩ v1).setCell ⟨b, 2, none⟩ v2).setCell ⟨b, 3, none⟩ v3).setCell ⟨b, 4, none⟩ v4).setCell ⟨b, 5, none⟩ v5) = Wd ∧ Below n w Wd ∧ Wd.heap[b]? = some (.cells #[v0, v1, v2, v3, v4, v5] 59 (0, 0)) ∧ ∀ (g : Nat) (C : Array Value) (f : Nat × Nat), w2.heap[g]? = some (.cells C 9 f) → Wd.heap[g]? = some (.cells C 9 f) := by
 refine ⟨_, rfl, below6 h hb _ _ _ _ _ _, ?_, fun g C f e => ?_⟩
 · have := sets_same [(0, v0), (1, v1), (2, v2), (3, v3), (4, v4), (5, v5)] w2 _ _ _ hh
   simp only [sets, List.foldl_cons, List.foldl_nil] at this
   exact this
 · have := (sets_other (ne_block e hh (by decide)) [(0, v0), (1, v1), (2, v2), (3, v3), (4, v4), (5, v5)] w2).trans e
   simp only [sets, List.foldl_cons, List.foldl_nil] at this
   exact this
theorem int_text : (Tryz.prog.info? 3).map (fun i => (i.zero, i.size, i.bytes)) = some (some (.int .i64 0), 1, 8) := by kernel_rfl
theorem own_slice {w : World} {base : Nat} {e : TypeId} {sz n : Nat} {v : Value} {xs : List Value} (h : w.ownsRow base e sz v n xs) : ∃ a cap, v = .slice a n cap := by
 obtain ⟨_, ⟨rfl, h0⟩ | ⟨g, cap, cur, rfl, _⟩⟩ := h
 · exact ⟨none, 0, by rw [h0]⟩
 · exact ⟨_, cap, rfl⟩
structure I7 (W0 Wd wr : World) (bd : Nat) (nv ov : Value) (T : IT.Tr) (m : IT.Nd) (k : Nat) (v3 v4 v5 : Value) : Prop where
 bel : Below W0.heap.size W0 wr
 sz : Wd.heap.size ≤ wr.heap.size
 fr : ∀ c, c < Wd.heap.size → c ≠ bd → wr.heap[c]? = Wd.heap[c]?
 blk : wr.heap[bd]? = some (.cells #[.bool true, nv, ov, v3, v4, v5] 59 (0, 0))
 own : wr.ownsRow Wd.heap.size 3 1 ov k ((owV T m).take k)
theorem I7.nm {W0 Wd wr : World} {bd : Nat} {nv ov : Value} {T : IT.Tr} {m : IT.Nd} {k : Nat} {v3 v4 v5 : Value} (h : I7 W0 Wd wr bd nv ov T m k v3 v4 v5) {A : Array Value} (hd : Wd.heap[bd]? = some (.cells A 59 (0, 0))) (hr : RowK Wd nv 9 (nmV m)) : RowK wr nv 9 (nmV m) :=
 hr.keep fun g C f e => (h.fr g (lH e) (ne_block e hd (by decide))).trans e
theorem own_keep {w w' : World} {base : Nat} {e : TypeId} {sz n : Nat} {v : Value} {xs : List Value} (h : w.ownsRow base e sz v n xs) (hk : ∀ (g : Nat) (C : Array Value) (Ty : TypeId) (f : Nat × Nat), base ≤ g → w.heap[g]? = some (.cells C Ty f) → w'.heap[g]? = some (.cells C Ty f)) : w'.ownsRow base e sz v n xs := by
 obtain ⟨h1, ⟨h2, h3⟩ | ⟨g, cap, cur, h2, hg, hh, rest⟩⟩ := h
 · exact ⟨h1, .inl ⟨h2, h3⟩⟩
 · exact ⟨h1, .inr ⟨g, cap, cur, h2, hg, hk _ _ _ _ hg hh, rest⟩⟩
theorem I7.below {W0 Wd wr w' : World} {bd : Nat} {nv ov : Value} {T : IT.Tr} {m : IT.Nd} {k : Nat} {v3 v4 v5 : Value} (h : I7 W0 Wd wr bd nv ov T m k v3 v4 v5) (hb : Below wr.heap.size wr w') : I7 W0 Wd w' bd nv ov T m k v3 v4 v5 :=
 ⟨h.bel.trans (hb.mono h.bel.size), Nat.le_trans h.sz hb.size, fun c hc hne => (hb.block c (Nat.lt_of_lt_of_le hc h.sz)).trans (h.fr c hc hne), (hb.block bd (lH h.blk)).trans h.blk, own_keep h.own fun g C Ty f _ e => (hb.block g (lH e)).trans e⟩
theorem i7_app {W0 Wd Wy wz : World} {bd : Nat} {nv v2 ov : Value} {T : IT.Tr} {m : IT.Nd} {k : Nat} {v3 v4 v5 x : Value} (h : I7 W0 Wd Wy bd nv ov T m k v3 v4 v5) (hlt : bd < Wd.heap.size) (hge : W0.heap.size ≤ bd) (hown : wz.ownsRow Wd.heap.size 3 1 v2 (k + 1) ((owV T m).take k ++ [x])) (hg : (Wy.alloc (.cells #[x] 3)).grownBy wz ov.ownBlock) (hx : (owV T m)[k]? = some x) :
  wz.heap[bd]? = some (.cells #[.bool true, nv, ov, v3, v4, v5] 59 (0, 0)) ∧ I7 W0 Wd (wz.setCell ⟨bd, 2, none⟩ v2) bd nv v2 T m (k + 1) v3 v4 v5 := by
 have hb : Below Wd.heap.size Wy wz := ((Below.refl Wd.heap.size Wy).alloc h.sz _).grown hg (by rw [aZ]; exact Nat.le_succ_of_le h.sz) (RF.own_ge h.own)
 have hk := (hb.block bd hlt).trans h.blk
 refine ⟨hk, (h.bel.trans (hb.mono (by omega))).setCell hge _, by rw [World.size_setCell]; exact Nat.le_trans h.sz hb.size, fun c hc hne => (Below.heap_setCell _ _ _ _ hne).trans ((hb.block c hc).trans (h.fr c hc hne)), heap_setCell_same hk v2, ?_⟩
 have e : (owV T m).take (k + 1) = (owV T m).take k ++ [x] := by rw [List.take_add_one, hx]; rfl
 rw [e]
 exact own_keep hown fun g C Ty f hgb hh => (Below.heap_setCell _ _ _ _ (by show g ≠ bd; omega)).trans hh
theorem one_int (W : World) (x : Value) : ∀ (j : Nat) (u : Value), [x][j]? = some u → (W.alloc (.cells #[x] 3)).cell? ((⟨W.heap.size, 0, none⟩ : Addr).add j) = some u
 | 0, u, h => (cO (aQ W (.cells #[x] 3)) 0).trans h
 | _ + 1, u, h => by cases h
theorem fill_dir {n0 : Nat} {w1 wr : World} {t : Nat} {S : Tab} {T T0 : IT.Tr} {b5 b7 : Nat} {V : Array Value} {F : Nat → Nat → Value} (h : WE n0 w1 wr t S T b5 b7 V (dirA F)) {uid gid : Int} {d : Nat} (hr : RW wr T0 uid gid d F) (hd : d < 201) {m : IT.Nd} (hm : T0 d = some m) (hk : m.kind = 1) (v0 v1 v2 v3 v4 v5 : Value)
  (hv : ∀ W', (∀ (g : Nat) (C : Array Value) (Ty : TypeId) (f : Nat × Nat), Ty ≠ 60 → wr.heap[g]? = some (.cells C Ty f) → W'.heap[g]? = some (.cells C Ty f)) → Kept7 W' T0 uid gid d m (dirV v0 v1 v2 v3 v4 v5)) :
  WE n0 w1 ((((((wr.setCell ⟨b7, d * 6, none⟩ v0).setCell ⟨b7, d * 6 + 1, none⟩ v1).setCell ⟨b7, d * 6 + 2, none⟩ v2).setCell ⟨b7, d * 6 + 3, none⟩ v3).setCell ⟨b7, d * 6 + 4, none⟩ v4).setCell ⟨b7, d * 6 + 5, none⟩ v5) t S T b5 b7 V (dirA (setD F d (dirV v0 v1 v2 v3 v4 v5))) ∧ RW ((((((wr.setCell ⟨b7, d * 6, none⟩ v0).setCell ⟨b7, d * 6 + 1, none⟩ v1).setCell ⟨b7, d * 6 + 2, none⟩ v2).setCell ⟨b7, d * 6 + 3, none⟩ v3).setCell ⟨b7, d * 6 + 4, none⟩ v4).setCell ⟨b7, d * 6 + 5, none⟩ v5) T0 uid gid (d + 1) (setD F d (dirV v0 v1 v2 v3 v4 v5)) := by
 have k1 := h.fill [(d * 6, v0), (d * 6 + 1, v1), (d * 6 + 2, v2), (d * 6 + 3, v3), (d * 6 + 4, v4), (d * 6 + 5, v5)]
 have hkeep : ∀ (g : Nat) (C : Array Value) (Ty : TypeId) (f : Nat × Nat), Ty ≠ 60 → wr.heap[g]? = some (.cells C Ty f) → (sets wr b7 [(d * 6, v0), (d * 6 + 1, v1), (d * 6 + 2, v2), (d * 6 + 3, v3), (d * 6 + 4, v4), (d * 6 + 5, v5)]).heap[g]? = some (.cells C Ty f) := fun g C Ty f hTy e => (sets_other (ne_block e h.was hTy) [(d * 6, v0), (d * 6 + 1, v1), (d * 6 + 2, v2), (d * 6 + 3, v3), (d * 6 + 4, v4), (d * 6 + 5, v5)] wr).trans e
 have k2 := hv _ hkeep
 have k3 := (hr.keep (fun g C f e => hkeep g C _ f (by decide) e) fun g C f e => hkeep g C _ f (by decide) e).add hm hk k2
 clear hkeep k2 hv
 simp only [sets, List.foldl_cons, List.foldl_nil] at k1 k3
 rw [dirA_set F hd] at k1
 exact ⟨k1, k3⟩
theorem dir_cells {W : World} {b : Nat} {v0 v1 v2 v3 v4 v5 : Value} (h : W.heap[b]? = some (.cells #[v0, v1, v2, v3, v4, v5] 59 (0, 0))) : W.cell? ⟨b, 0, none⟩ = some v0 ∧ W.cell? ⟨b, 1, none⟩ = some v1 ∧ W.cell? ⟨b, 2, none⟩ = some v2 ∧ W.cell? ⟨b, 3, none⟩ = some v3 ∧ W.cell? ⟨b, 4, none⟩ = some v4 ∧ W.cell? ⟨b, 5, none⟩ = some v5 ∧ W.frozen? ⟨b, 0, none⟩ = false ∧ W.frozen? ⟨b, 1, none⟩ = false ∧ W.frozen? ⟨b, 2, none⟩ = false ∧ W.frozen? ⟨b, 3, none⟩ = false ∧ W.frozen? ⟨b, 4, none⟩ = false ∧ W.frozen? ⟨b, 5, none⟩ = false :=
 ⟨cO h 0, cO h 1, cO h 2, cO h 3, cO h 4, cO h 5, fO h 0, fO h 1, fO h 2, fO h 3, fO h 4, fO h 5⟩
theorem entries7_any (a : Option Addr) (len cap : Nat) (w : World) (hl : len ≤ maxLen) (h0 : Ops7 w w.heap.size a len) (K cwd uid gid : Int) (s u : ByteArray) (mo N oa ob : Int) :
  Calls Tryz.prog 6 #[.slice a len cap, .agg #[.int .i64 K, .int .i64 cwd, .int .i64 uid, .int .i64 gid, .string s, .string u, .int .i64 mo, .int .i64 N, .int .i64 oa, .int .i64 ob]] w fun e w' => e = .returned (.bool true) ∧ Below w.heap.size w w' := by
 have HS := Hd h0
 have hz := zero_dirs
 clear h0
 go_enter Tryz.func6, Tryz.ntmps6
 go_wp2_with fail
 refine (shown7_any _).mono ?_
 rintro e w1 ⟨rfl, hb⟩
 have HB1 := Hd (one_below hb)
 have h1 : w1.heap[w.heap.size]? = some (.cells (op7 K cwd uid gid s u mo N oa ob) 24 (0, 0)) := (hb.block _ (by rw [aZ]; omega)).trans (aQ w _)
 have HO := Hd h1
 clear hb h1
 go_wp2_with fail
 refine (some7_any a len cap w w1 hl HS.out HB1.out).mono ?_
 rintro e w2 ⟨t, S, T, rfl, hd, hhb, hmr⟩
 have h1 := (hd.own.below.block _ (lH HO.out)).trans HO.out
 have HD := Hd hd
 have HX := Hd (hhb.mono (show 61 ≤ 999999 by omega))
 clear hd hhb hmr HO HS
 have HO0 := Hd h1
 have HTR : Hid (Tro w.heap.size w w2 t S T) := Hd ⟨⟨HD.out.own.rep, HB1.out.trans (HD.out.own.below.mono HB1.out.size), Nat.le_trans HB1.out.size HD.out.own.le, fun b hb => Nat.le_trans HB1.out.size (HD.out.own.own b hb)⟩, HD.out.ties, HD.out.snd⟩
 clear h1 HD HB1
 go_upto_region 5 with fail
 have o0 : w2.cell? ⟨w.heap.size, 0, none⟩ = some (.int .i64 K) := cO HO0.out 0
 go_cut [43] from 36 (fun v43 wx => wx = w2 ∧ v43 = .bool (decide (K < 4) || decide (7 < K)))
 case first =>
  clear hz
  by_cases hK : K < 4
  · go_wp2
    go_meet
    exact ⟨rfl, by simp [hK]⟩
  · have hK1 : 4 ≤ K := by omega
    go_wp2
    go_meet
    exact ⟨rfl, by simp [hK]; intro; omega⟩
 case rest =>
  obtain ⟨rfl, rfl⟩ := hcut
  have f0 := fO HO0.out 0
  obtain ⟨q, hq⟩ : ∃ q, (decide (K < 4) || decide (7 < K)) = q := ⟨_, rfl⟩
  rw [hq]
  go_upto_if 43 with fail
  go_cut [] from 44 (fun wx => ∃ K7 : Int, 4 ≤ K7 ∧ K7 ≤ 7 ∧ wx.heap[w.heap.size]? = some (.cells (op7 K7 cwd uid gid s u mo N oa ob) 24 (0, 0)) ∧ Tro w.heap.size w wx t S T)
  case first =>
   clear hz
   cases q with
   | false =>
     have hK : 4 ≤ K ∧ K ≤ 7 := by
      rw [Bool.or_eq_false_iff, decide_eq_false_iff_not, decide_eq_false_iff_not] at hq
      omega
     go_wp2
     go_meet
     exact ⟨K, hK.1, hK.2, HO0.out, HTR.out⟩
   | true =>
     go_wp2
     go_meet
     exact ⟨5, by decide, by decide, (heap_setCell_same HO0.out _).trans rfl, tro_sets HTR.out HO0.out (by decide) (by decide) (Nat.le_refl _) [(0, .int .i64 5)]⟩
  case rest =>
   obtain ⟨K7, hK1, hK2, ho0, ht0⟩ := hcut
   have hK3 : 4 ≤ K7 ∧ K7 ≤ 7 := ⟨hK1, hK2⟩
   have HO := Hd ho0
   have HT := Hd ht0
   clear ho0 ht0 hq f0 o0 hK1 hK2
   go_upto_region 8 with fail
   generalize wc = W0 at *
   have hwe : WE w.heap.size w (W0.alloc (.cells (dirA fun _ => zeroF) 60)) t S T w.heap.size W0.heap.size (op7 K7 cwd uid gid s u mo N oa ob) (dirA fun _ => zeroF) := by
    have hb := (Below.refl W0.heap.size W0).alloc (Nat.le_refl _) (.cells (dirA fun _ => zeroF) 60)
    exact ⟨HT.out.below hb, (hb.block _ (lH HO.out)).trans HO.out, aQ _ _, HT.out.own.le⟩
   generalize W0.alloc (.cells (dirA fun _ => zeroF) 60) = W at *
   generalize W0.heap.size = b7 at *
   have HW : Hid (WE w.heap.size w W t S T w.heap.size b7 (op7 K7 cwd uid gid s u mo N oa ob) (dirA fun _ => zeroF) ∧ RW W T uid gid 1 (fun _ => zeroF)) := Hd ⟨hwe, fun j m h1 _ h3 => by have := (HT.out.snd.1.rng j m h1).1; omega, fun _ _ => rfl⟩
   have HK3 := Hd hK3
   clear hwe HO HT HO0 HTR hz hK3
   go_wp2_with fail
   go_loopg [8] 200 (fun g dv wr => ∃ (d : Nat) (F : Nat → Nat → Value), dv = .int .i64 (d : Int) ∧ d + g = 201 ∧ 1 ≤ d ∧ Hid (WE w.heap.size w wr t S T w.heap.size b7 (op7 K7 cwd uid gid s u mo N oa ob) (dirA F) ∧ RW wr T uid gid d F))
   case atStart => exact ⟨1, _, rfl, rfl, by omega, HW⟩
   case round =>
    clear HW
    obtain ⟨d, F, rfl, hdg, hd1, HW⟩ := hrel
    by_cases hd : d ≤ 200
    · obtain ⟨og, rfl⟩ : ∃ og, gk = og + 1 := ⟨gk - 1, by omega⟩
      have hd2 : (d : Int) ≤ 200 := by omega
      have HST : Hid (Calls Tryz.prog 17 #[.pointer (some ⟨t, 0, none⟩), .int .i64 (d : Int)] wr fun e w' => e = .returned (.tuple #[.agg #[.int .i64 (statF T d 0), .int .i64 (statF T d 1), .int .i64 (statF T d 2), .int .i64 (statF T d 3), .int .i64 (statF T d 4), .int .i64 (statF T d 5), .int .i64 (statF T d 6), .int .i64 (statF T d 7)], .bool (T d).isSome]) ∧ Below wr.heap.size wr w') := Hd (by
       have := stat_any HW.out.1.tro.tre (d : Int)
       rw [Int.toNat_natCast, stat_F] at this
       exact this)
      have hdir : (∀ m, T d = some m → m.kind ≠ 1) ∨ ∃ m, T d = some m ∧ m.kind = 1 := by
       cases e : T d with
       | none => exact .inl fun m h => by cases h
       | some m =>
         by_cases e2 : m.kind = 1
         · exact .inr ⟨m, rfl, e2⟩
         · exact .inl fun m1 h => by obtain rfl := oI h; exact e2
      rcases hdir with hno | ⟨m, hm, hk⟩
      · have hs : (T d).isSome = false ∨ (T d).isSome = true ∧ (statF T d 1 != 1) = true := by
         cases e : T d with
         | none => exact .inl rfl
         | some m => exact .inr ⟨rfl, by unfold statF; rw [e]; simpa using hno m e⟩
        have HNO := Hd hno
        clear hno
        go_wp2_with fail
        refine HST.out.mono ?_
        rintro e w5 ⟨rfl, hb⟩
        have HB5 := Hd hb
        clear hb HST
        generalize (T d).isSome = q at *
        rcases hs with rfl | ⟨rfl, hs⟩
        all_goals
         go_wp2_with fail
         have hb6 : Below wr.heap.size wr (w5.alloc (.cells #[.int .i64 (statF T d 0), .int .i64 (statF T d 1), .int .i64 (statF T d 2), .int .i64 (statF T d 3), .int .i64 (statF T d 4), .int .i64 (statF T d 5), .int .i64 (statF T d 6), .int .i64 (statF T d 7)] 44)) := bZ HB5.out _
         have HN := Hd (And.intro (HW.out.1.below hb6) ((HW.out.2.below hb6).skip HNO.out))
         clear HW HB5 hb6
         go_roundg og
         case measure => omega
         case rel => exact ⟨d + 1, F, by go_num, by omega, by omega, HN⟩
      · as_aux_lemma =>
         have hso : (T d).isSome = true := by rw [hm]; rfl
         have hs1 : statF T d 1 = 1 := by unfold statF; rw [hm]; exact hk
         rw [hso, hs1] at HST
         have HM := Hd hm
         have HK := Hd hk
         clear hm hk hso
         go_wp2_with fail
         refine HST.out.mono ?_
         rintro e w5 ⟨rfl, hb⟩
         have HB5 := Hd hb
         clear hb HST
         go_upto_region 13 with fail
         have hb6 : Below wr.heap.size wr (w5.alloc (.cells #[.int .i64 (statF T d 0), .int .i64 1, .int .i64 (statF T d 2), .int .i64 (statF T d 3), .int .i64 (statF T d 4), .int .i64 (statF T d 5), .int .i64 (statF T d 6), .int .i64 (statF T d 7)] 44)) := bZ HB5.out _
         have hx := aQ w5 (.cells #[.int .i64 (statF T d 0), .int .i64 1, .int .i64 (statF T d 2), .int .i64 (statF T d 3), .int .i64 (statF T d 4), .int .i64 (statF T d 5), .int .i64 (statF T d 6), .int .i64 (statF T d 7)] 44)
         generalize w5.alloc (.cells #[.int .i64 (statF T d 0), .int .i64 1, .int .i64 (statF T d 2), .int .i64 (statF T d 3), .int .i64 (statF T d 4), .int .i64 (statF T d 5), .int .i64 (statF T d 6), .int .i64 (statF T d 7)] 44) = W at *
         generalize w5.heap.size = x8 at *
         have HW6 := Hd (And.intro (HW.out.1.below hb6) (HW.out.2.below hb6))
         have HQ : Hid (W.heap[w.heap.size]? = some (.cells (op7 K7 cwd uid gid s u mo N oa ob) 24 (0, 0)) ∧ W.heap[x8]? = some (.cells #[.int .i64 (statF T d 0), .int .i64 1, .int .i64 (statF T d 2), .int .i64 (statF T d 3), .int .i64 (statF T d 4), .int .i64 (statF T d 5), .int .i64 (statF T d 6), .int .i64 (statF T d 7)] 44 (0, 0))) := Hd ⟨HW6.out.1.op, hx⟩
         have HB6 := Hd hb6
         have hxs : x8 < W.heap.size := lH hx
         clear HB5 hb6 hx
         have HNM : Hid (∀ W', Below W.heap.size W W' → Calls Tryz.prog 26 #[.pointer (some ⟨t, 0, none⟩), .int .i64 (d : Int)] W' fun e w' => ∃ v, e = .returned v ∧ RowK w' v 9 (nmV m) ∧ Below W'.heap.size W' w') := Hd (fun W' hb => (names_any (HW6.out.1.below hb).tro.tre (d : Int)).mono fun e w' ⟨v, e1, e2, _, e3⟩ => ⟨v, e1, by
          rw [Int.toNat_natCast] at e2
          have en : namesT T d = m.names.map (·.1) := by unfold namesT; rw [HM.out]
          rw [en] at e2
          refine RowK.of_own (base := W'.heap.size) ?_
          unfold nmV
          rw [List.length_map]
          exact e2, e3⟩)
         have HMY : Hid (∀ W', Below W.heap.size W W' → Calls Tryz.prog 15 #[.pointer (some ⟨t, 0, none⟩), .int .i64 (d : Int), .int .i64 uid, .int .i64 gid, .int .i64 2] W' fun e w' => e = .returned (.bool (mayT T d uid gid 2)) ∧ Below W'.heap.size W' w') := Hd (fun W' hb => by
          have := may7_any (HW6.out.1.below hb).tro.tre (d : Int) uid gid 2
          rw [Int.toNat_natCast] at this
          exact this)
         have KP : ∀ W' : World, (W'.heap[w.heap.size]? = some (.cells (op7 K7 cwd uid gid s u mo N oa ob) 24 (0, 0)) ∧ W'.heap[x8]? = some (.cells #[.int .i64 (statF T d 0), .int .i64 1, .int .i64 (statF T d 2), .int .i64 (statF T d 3), .int .i64 (statF T d 4), .int .i64 (statF T d 5), .int .i64 (statF T d 6), .int .i64 (statF T d 7)] 44 (0, 0))) → (W'.cell? ⟨w.heap.size, 2, none⟩ = some (.int .i64 uid) ∧ W'.cell? ⟨w.heap.size, 3, none⟩ = some (.int .i64 gid) ∧ W'.cell? ⟨x8, 2, none⟩ = some (.int .i64 (statF T d 2)) ∧ W'.cell? ⟨x8, 3, none⟩ = some (.int .i64 (statF T d 3))) := fun W' hh => ⟨cO hh.1 2, cO hh.1 3, cO hh.2 2, cO hh.2 3⟩
         have KB : ∀ W' : World, Below W.heap.size W W' → W'.heap[w.heap.size]? = some (.cells (op7 K7 cwd uid gid s u mo N oa ob) 24 (0, 0)) ∧ W'.heap[x8]? = some (.cells #[.int .i64 (statF T d 0), .int .i64 1, .int .i64 (statF T d 2), .int .i64 (statF T d 3), .int .i64 (statF T d 4), .int .i64 (statF T d 5), .int .i64 (statF T d 6), .int .i64 (statF T d 7)] 44 (0, 0)) := fun W' hb => ⟨(hb.block _ (lH HQ.out.1)).trans HQ.out.1, (hb.block _ (lH HQ.out.2)).trans HQ.out.2⟩
         obtain ⟨o2, o3, x2, x3⟩ := KP W HQ.out
         go_region_held3 (fun W' => W'.cell? ⟨w.heap.size, 2, none⟩ = some (.int .i64 uid) ∧ W'.cell? ⟨w.heap.size, 3, none⟩ = some (.int .i64 gid) ∧ W'.cell? ⟨x8, 2, none⟩ = some (.int .i64 (statF T d 2)) ∧ W'.cell? ⟨x8, 3, none⟩ = some (.int .i64 (statF T d 3)))
          (first | (refine KP _ ?_; first | with_reducible exact HQ.out | with_reducible exact hq7 | with_reducible exact hq6 | with_reducible exact KB _ (hbx.alloc hbx.size _) | with_reducible exact KB _ (hbw.alloc hbw.size _) | with_reducible exact KB _ (below6 (hbx.alloc hbx.size _) hbx.size _ _ _ _ _ _) | with_reducible exact KB _ (below6 hbx hbw.size _ _ _ _ _ _) | with_reducible exact KB _ (below6 hbx (Nat.le_refl _) _ _ _ _ _ _) | exact KB _ ((Below.refl W.heap.size W).drew.alloc (Nat.le_refl _) _) | exact HQ.out))
          (first
            | (go_at_call 26; (first | (with_reducible show Calls _ _ _ W.drew _; have hby : Below W.heap.size W W.drew := (Below.refl W.heap.size W).drew; refine (HNM.out _ hby).mono ?_) | (show Calls _ _ _ (W.drew.alloc (.cells #[.bool false, .slice none 0 0, .slice none 0 0, .int .i64 0, .int .i64 0, .bool false] 59)) _; have hby : Below W.heap.size W (W.drew.alloc (.cells #[.bool false, .slice none 0 0, .slice none 0 0, .int .i64 0, .int .i64 0, .bool false] 59)) := (Below.refl W.heap.size W).drew.alloc (Nat.le_refl _) _; refine (HNM.out _ hby).mono ?_)); rintro e w6 ⟨nv, rfl, hrow, hb⟩; obtain ⟨an, cn, rfl, hn1, hn2, _⟩ := hrow.cell; have hbw : Below W.heap.size W w6 := hby.trans (hb.mono hby.size); have hq6 := KB _ hbw; try (have dz6 : w6.heap[W.heap.size]? = some (.cells #[.bool false, .slice none 0 0, .slice none 0 0, .int .i64 0, .int .i64 0, .bool false] 59 (0, 0)) := (hb.block W.heap.size (by rw [aZ]; exact Nat.lt_succ_self _)).trans (aQ W.drew (.cells #[.bool false, .slice none 0 0, .slice none 0 0, .int .i64 0, .int .i64 0, .bool false] 59))))
            | (go_at_call 15; (first | (with_reducible show Calls _ _ _ w6 _; have hbz : Below W.heap.size W w6 := hbw; have hrz := hrow; refine (HMY.out _ hbz).mono ?_) | (show Calls _ _ _ (w6.alloc (.cells #[.bool false, .slice none 0 0, .slice none 0 0, .int .i64 0, .int .i64 0, .bool false] 59)) _; have hbz : Below W.heap.size W (w6.alloc (.cells #[.bool false, .slice none 0 0, .slice none 0 0, .int .i64 0, .int .i64 0, .bool false] 59)) := hbw.alloc hbw.size _; have hrz := hrow.below ((Below.refl w6.heap.size w6).alloc (Nat.le_refl _) (.cells #[.bool false, .slice none 0 0, .slice none 0 0, .int .i64 0, .int .i64 0, .bool false] 59)); refine (HMY.out _ hbz).mono ?_)); rintro e w7 ⟨rfl, hb2⟩; have hbx : Below W.heap.size W w7 := hbz.trans (hb2.mono hbz.size); have hrow7 := hrz.below hb2; have hq7 := KB _ hbx; try (first | (have dz7 : w7.heap[w6.heap.size]? = some (.cells #[.bool false, .slice none 0 0, .slice none 0 0, .int .i64 0, .int .i64 0, .bool false] 59 (0, 0)) := (hb2.block w6.heap.size (by rw [aZ]; exact Nat.lt_succ_self _)).trans (aQ w6 (.cells #[.bool false, .slice none 0 0, .slice none 0 0, .int .i64 0, .int .i64 0, .bool false] 59)); obtain ⟨q0, q1, q2, q3, q4, q5, f0, f1, f2, f3, f4, f5⟩ := dir_cells dz7) | (have dz7 : w7.heap[W.heap.size]? = some (.cells #[.bool false, .slice none 0 0, .slice none 0 0, .int .i64 0, .int .i64 0, .bool false] 59 (0, 0)) := (hb2.block _ (lH dz6)).trans dz6; obtain ⟨q0, q1, q2, q3, q4, q5, f0, f1, f2, f3, f4, f5⟩ := dir_cells dz7))))
         all_goals
          as_aux_lemma =>
           clear o2 o3 x2 x3 hq6 hq7
           first
            | (obtain ⟨Wd, hWd⟩ : ∃ Wd, w7.alloc (.cells #[.bool true, .slice an (nmV m).length cn, .slice none 0 0, .int .i64 (statF T d 2), .int .i64 (statF T d 3), .bool (mayT T d uid gid 2)] 59) = Wd := ⟨_, rfl⟩
               have hwb : Below W.heap.size W Wd := hWd ▸ hbx.alloc hbx.size _
               have hblk : Wd.heap[w7.heap.size]? = some (.cells #[.bool true, .slice an (nmV m).length cn, .slice none 0 0, .int .i64 (statF T d 2), .int .i64 (statF T d 3), .bool (mayT T d uid gid 2)] 59 (0, 0)) := hWd ▸ aQ _ _
               have hrw : RowK Wd (.slice an (nmV m).length cn) 9 (nmV m) := hrow7.below (hWd ▸ (Below.refl w7.heap.size w7).alloc (Nat.le_refl _) _)
               have hge : W.heap.size ≤ w7.heap.size := hbx.size
               rw [hWd]
               obtain ⟨bd, hbd0⟩ : ∃ bd, w7.heap.size = bd := ⟨_, rfl⟩
               rw [hbd0] at hblk hge ⊢
               clear hWd hbd0)
            | (obtain ⟨Wd, hWd, hwb, hblk, hkp⟩ := dir_set6 hbx hbw.size dz7 (.bool true) (.slice an (nmV m).length cn) (.slice none 0 0) (.int .i64 (statF T d 2)) (.int .i64 (statF T d 3)) (.bool (mayT T d uid gid 2)); rw [hWd]; have hrw := hrow7.keep hkp; have hge := hbw.size; obtain ⟨bd, hbd0⟩ : ∃ bd, w6.heap.size = bd := ⟨_, rfl⟩; rw [hbd0] at hblk hge ⊢; clear hWd hkp hbd0)
            | (obtain ⟨Wd, hWd, hwb, hblk, hkp⟩ := dir_set6 hbx (Nat.le_refl W.heap.size) dz7 (.bool true) (.slice an (nmV m).length cn) (.slice none 0 0) (.int .i64 (statF T d 2)) (.int .i64 (statF T d 3)) (.bool (mayT T d uid gid 2)); rw [hWd]; have hrw := hrow7.keep hkp; obtain ⟨bd, hbd0⟩ : ∃ bd, W.heap.size = bd := ⟨_, rfl⟩; rw [hbd0] at hblk ⊢; have hge : W.heap.size ≤ bd := Nat.le_of_eq hbd0; clear hWd hkp hbd0)
           have hbd := lH hblk
           obtain ⟨n, hn⟩ : ∃ n, (nmV m).length = n := ⟨_, rfl⟩
           rw [hn] at hblk hrw hn1 ⊢
           have hn9 : m.names.length = n := by rw [← hn]; unfold nmV; rw [List.length_map, List.length_map]
           have hfew : n ≤ 40 := by rw [← hn9]; exact HW6.out.1.tro.snd.1.few d m HM.out
           have HNN := Hd hn9
           have HRW := Hd hrw
           have HBK := Hd hblk
           have HI0 : Hid (I7 W Wd Wd bd (.slice an n cn) (.slice none 0 0) T m 0 (.int .i64 (statF T d 2)) (.int .i64 (statF T d 3)) (.bool (mayT T d uid gid 2))) := Hd ⟨hwb, Nat.le_refl _, fun _ _ _ => rfl, hblk, World.ownsRow_nil Wd Wd.heap.size 3 1⟩
           clear hn hn9 hrw hblk hwb hbw hbx hrow hrow7 hb hb2 HQ KB KP HNM HMY
           obtain ⟨i0, hi, hz0, hz1, hz2⟩ := info_parts int_text
           go_wp2_with fail
           go_loopg [12] n (fun g kv wr2 => ∃ (k : Nat) (ov : Value), kv = .int .i64 (k : Int) ∧ k + g = n ∧ Hid (I7 W Wd wr2 bd (.slice an n cn) ov T m k (.int .i64 (statF T d 2)) (.int .i64 (statF T d 3)) (.bool (mayT T d uid gid 2))))
           case atStart => exact ⟨0, _, rfl, by omega, HI0⟩
           case round =>
            clear HI0
            obtain ⟨k, ov, rfl, hkg, HI⟩ := hrel
            by_cases hkn : k < n
            · obtain ⟨kg, rfl⟩ : ∃ kg, gk = kg + 1 := ⟨gk - 1, by omega⟩
              have hk3 : (k : Int) < n := by omega
              obtain ⟨p, hp⟩ : ∃ p, m.names[k]? = some p := ⟨m.names[k]'(by rw [HNN.out]; exact hkn), List.getElem?_eq_getElem _⟩
              obtain ⟨ao, co, rfl⟩ := own_slice HI.out.own
              have HNR := Hd (HI.out.nm HBK.out HRW.out)
              obtain ⟨an1, cn1, e1, _, hcn, hcells⟩ := HNR.out.cell
              obtain ⟨g, rfl, hgl, hgc⟩ := hcells k (.string (tx p.1)) (by unfold nmV; rw [List.map_map, List.getElem?_map, hp]; rfl)
              obtain ⟨q0, q1, q2, q3, q4, q5, f0, f1, f2, f3, f4, f5⟩ := dir_cells HI.out.blk
              have hea : an = some ⟨g, 0, none⟩ := by simp only [Value.slice.injEq] at e1; exact e1.1
              subst hea
              have hpm : p ∈ m.names := List.mem_of_getElem? hp
              have HSN := Hd HW6.out.1.tro.snd
              have hlk : lookT T d p.1 = some p.2 := find_look HSN.out HM.out HK.out (IT.find_of (HSN.out.1.ord d m HM.out) hpm)
              have HLO : Hid (Calls Tryz.prog 14 #[.pointer (some ⟨t, 0, none⟩), .int .i64 (d : Int), .string (tx p.1)] wr fun e w' => e = .returned (.tuple #[.int .i64 (p.2 : Nat), .bool true]) ∧ wr = w') := Hd (by
               have := look_any (HW6.out.1.below HI.out.bel).tro.tre (d : Int) (tx p.1)
               rw [Int.toNat_natCast, bs_tx, hlk] at this
               exact this)
              have HSP : Hid (Calls Tryz.prog 17 #[.pointer (some ⟨t, 0, none⟩), .int .i64 (p.2 : Nat)] wr fun e w' => e = .returned (.tuple #[.agg #[.int .i64 (statF T p.2 0), .int .i64 (statF T p.2 1), .int .i64 (statF T p.2 2), .int .i64 (statF T p.2 3), .int .i64 (statF T p.2 4), .int .i64 (statF T p.2 5), .int .i64 (statF T p.2 6), .int .i64 (statF T p.2 7)], .bool (T p.2).isSome]) ∧ Below wr.heap.size wr w') := Hd (by
               have := stat_any (HW6.out.1.below HI.out.bel).tro.tre (p.2 : Nat)
               rw [Int.toNat_natCast, stat_F] at this
               exact this)
              have HP := Hd hp
              clear hp hpm hlk hcells e1
              go_wp2_with fail
              refine HLO.out.mono ?_
              rintro e w9 ⟨rfl, rfl⟩
              go_wp2_with fail
              refine HSP.out.mono ?_
              rintro e w9 ⟨rfl, hb⟩
              have HB9 := Hd hb
              clear hb HSP HLO
              go_upto_region 19 with fail
              have hi9 := HI.out.below (bZ HB9.out (.cells #[.int .i64 (statF T p.2 0), .int .i64 (statF T p.2 1), .int .i64 (statF T p.2 2), .int .i64 (statF T p.2 3), .int .i64 (statF T p.2 4), .int .i64 (statF T p.2 5), .int .i64 (statF T p.2 6), .int .i64 (statF T p.2 7)] 44))
              have hy := aQ w9 (.cells #[.int .i64 (statF T p.2 0), .int .i64 (statF T p.2 1), .int .i64 (statF T p.2 2), .int .i64 (statF T p.2 3), .int .i64 (statF T p.2 4), .int .i64 (statF T p.2 5), .int .i64 (statF T p.2 6), .int .i64 (statF T p.2 7)] 44)
              generalize w9.alloc (.cells #[.int .i64 (statF T p.2 0), .int .i64 (statF T p.2 1), .int .i64 (statF T p.2 2), .int .i64 (statF T p.2 3), .int .i64 (statF T p.2 4), .int .i64 (statF T p.2 5), .int .i64 (statF T p.2 6), .int .i64 (statF T p.2 7)] 44) = Wy at *
              generalize w9.heap.size = y8 at *
              have y3 : Wy.cell? ⟨y8, 3, none⟩ = some (.int .i64 (statF T p.2 3)) := cO hy 3
              have HI9 := Hd hi9
              clear hi9 hy HI HB9 q0 q1 q2 q3 q4 q5 f0 f1 f2 f3 f4 f5 hgl hgc
              obtain ⟨q0, q1, q2, q3, q4, q5, f0, f1, f2, f3, f4, f5⟩ := dir_cells HI9.out.blk
              have HX : Hid ((owV T m)[k]? = some (.int .i64 (statF T p.2 3))) := Hd (by unfold owV; rw [List.getElem?_map, HP.out]; rfl)
              go_wp2_with (at_builtin; refine wpList_append_own _ rfl _ _ 57 rfl Wd.heap.size 3 i0 (.int .i64 0) 1 8 Tryz.underlying57 hi hz0 hz1 hz2 rfl (by decide) _ _ _ rfl (own_keep HI9.out.own fun g C Ty f _ e => (aP _ _ (lH e)).trans e) ⟨_, 0, none⟩ 1 1 [.int .i64 (statF T p.2 3)] rfl rfl (one_int _ _) (by simp [Value.oneCell']) (by unfold maxLen; omega) (by omega) (by rw [aZ]; exact Nat.le_succ_of_le HI9.out.sz) ?_; intro v2 wz hown2 hgrow2 hnil2; obtain ⟨a2, c2, rfl⟩ := own_slice hown2; obtain ⟨hk2, hi2⟩ := i7_app HI9.out hbd hge hown2 hgrow2 HX.out; obtain ⟨r0, r1, r2, r3, r4, r5, g0, g1, g2, g3, g4, g5⟩ := dir_cells hk2)
              have HN := Hd hi2
              clear hi2 HI9
              go_roundg kg
              case measure => omega
              case rel => exact ⟨k + 1, _, by go_num, by omega, HN⟩
            · have hk3 : (n : Int) ≤ k := by omega
              obtain rfl : n = k := by omega
              obtain ⟨ao, co, rfl⟩ := own_slice HI.out.own
              obtain ⟨q0, q1, q2, q3, q4, q5, f0, f1, f2, f3, f4, f5⟩ := dir_cells HI.out.blk
              have HWX := Hd (And.intro (HW6.out.1.below HI.out.bel) (HW6.out.2.below HI.out.bel))
              have hz6 : F d = zeroF := HW6.out.2.no d fun m _ _ h => absurd h (Nat.lt_irrefl d)
              have p0 : wr.cell? ⟨b7, d * 6, none⟩ = some (.bool false) := (HWX.out.1.cell (d := d) (j := 0) (by omega) (by decide)).trans (by rw [hz6]; rfl)
              have u0 := fO HWX.out.1.was (d * 6)
              have p1 : wr.cell? ⟨b7, d * 6 + 1, none⟩ = some (.slice none 0 0) := (HWX.out.1.cell (d := d) (j := 1) (by omega) (by decide)).trans (by rw [hz6]; rfl)
              have u1 := fO HWX.out.1.was (d * 6 + 1)
              have p2 : wr.cell? ⟨b7, d * 6 + 2, none⟩ = some (.slice none 0 0) := (HWX.out.1.cell (d := d) (j := 2) (by omega) (by decide)).trans (by rw [hz6]; rfl)
              have u2 := fO HWX.out.1.was (d * 6 + 2)
              have p3 : wr.cell? ⟨b7, d * 6 + 3, none⟩ = some (.int .i64 0) := (HWX.out.1.cell (d := d) (j := 3) (by omega) (by decide)).trans (by rw [hz6]; rfl)
              have u3 := fO HWX.out.1.was (d * 6 + 3)
              have p4 : wr.cell? ⟨b7, d * 6 + 4, none⟩ = some (.int .i64 0) := (HWX.out.1.cell (d := d) (j := 4) (by omega) (by decide)).trans (by rw [hz6]; rfl)
              have u4 := fO HWX.out.1.was (d * 6 + 4)
              have p5 : wr.cell? ⟨b7, d * 6 + 5, none⟩ = some (.bool false) := (HWX.out.1.cell (d := d) (j := 5) (by omega) (by decide)).trans (by rw [hz6]; rfl)
              have u5 := fO HWX.out.1.was (d * 6 + 5)
              go_wp2_with fail
              have hown : wr.ownsRow Wd.heap.size 3 1 (.slice ao n co) (owV T m).length (owV T m) := by
               have h1 := HI.out.own
               have h2 : (owV T m).length = n := by unfold owV; rw [List.length_map, HNN.out]
               rw [List.take_of_length_le (Nat.le_of_eq h2)] at h1
               rw [h2]
               exact h1
              have hsm : statF T d 2 = m.mode ∧ statF T d 3 = m.owner := by unfold statF; rw [HM.out]; exact ⟨rfl, rfl⟩
              have HOW := Hd hown
              have HN := Hd (fill_dir HWX.out.1 HWX.out.2 (by omega) HM.out HK.out (.bool true) (.slice an n cn) (.slice ao n co) (.int .i64 (statF T d 2)) (.int .i64 (statF T d 3)) (.bool (mayT T d uid gid 2)) fun W' hh => ⟨rfl, (HI.out.nm HBK.out HRW.out).keep fun g C f e => hh g C _ f (by decide) e, (RowK.of_own HOW.out).keep fun g C f e => hh g C _ f (by decide) e, by rw [← hsm.1]; rfl, by rw [← hsm.2]; rfl, rfl⟩)
              clear hown HOW HWX HI HW6
              go_roundg og
              case measure => omega
              case rel => exact ⟨d + 1, _, by go_num, by omega, by omega, HN⟩
    · obtain rfl : d = 201 := by omega
      have hd2 : (200 : Int) < (201 : Nat) := by omega
      clear hd
      have o2 : wr.cell? ⟨w.heap.size, 2, none⟩ = some (.int .i64 uid) := cO HW.out.1.op 2
      have o3 : wr.cell? ⟨w.heap.size, 3, none⟩ = some (.int .i64 gid) := cO HW.out.1.op 3
      go_wp2_with fail
      refine (who_any uid gid _).mono ?_
      rintro e w5 ⟨rfl, hb⟩
      unfold cred whoC
      dsimp only
      go_upto_region 22 with fail
      have hb6 : Below wr.heap.size wr (w5.alloc (.cells #[.int .i64 uid, .int .i64 uid, .int .i64 uid, .int .i64 gid, .int .i64 gid] 36)) := bZ hb _
      have hc := aQ w5 (.cells #[.int .i64 uid, .int .i64 uid, .int .i64 uid, .int .i64 gid, .int .i64 gid] 36)
      generalize w5.alloc (.cells #[.int .i64 uid, .int .i64 uid, .int .i64 uid, .int .i64 gid, .int .i64 gid] 36) = W at *
      generalize w5.heap.size = b6 at *
      have HWC := Hd (And.intro (HW.out.1.below hb6) (HW.out.2.below hb6))
      have HSN := Hd HW.out.1.tro.snd
      have c0 : W.cell? ⟨b6, 0, none⟩ = some (.int .i64 uid) := cO hc 0
      have c1 : W.cell? ⟨b6, 1, none⟩ = some (.int .i64 uid) := cO hc 1
      have c2 : W.cell? ⟨b6, 2, none⟩ = some (.int .i64 uid) := cO hc 2
      have c3 : W.cell? ⟨b6, 3, none⟩ = some (.int .i64 gid) := cO hc 3
      have c4 : W.cell? ⟨b6, 4, none⟩ = some (.int .i64 gid) := cO hc 4
      clear hb hb6 hc HW o2 o3
      have o0 : W.cell? ⟨w.heap.size, 0, none⟩ = some (.int .i64 K7) := cO HWC.out.1.op 0
      have o1 : W.cell? ⟨w.heap.size, 1, none⟩ = some (.int .i64 cwd) := cO HWC.out.1.op 1
      have o4 : W.cell? ⟨w.heap.size, 4, none⟩ = some (.string s) := cO HWC.out.1.op 4
      have o5 : W.cell? ⟨w.heap.size, 5, none⟩ = some (.string u) := cO HWC.out.1.op 5
      have o6 : W.cell? ⟨w.heap.size, 6, none⟩ = some (.int .i64 mo) := cO HWC.out.1.op 6
      have o7 : W.cell? ⟨w.heap.size, 7, none⟩ = some (.int .i64 N) := cO HWC.out.1.op 7
      have hk5 : K7 = 5 ∨ K7 = 4 ∨ K7 = 6 ∨ K7 = 7 := by have := HK3.out; omega
      have HX2 := Hd (HX.out.mono (show 999999 ≤ 1000000 by omega))
      go_upto_block 4 with fail
      go_cut [] from 116 to 163 (fun wx => ∃ S1 T1, WE w.heap.size w wx t S1 T1 w.heap.size b7 (op7 K7 cwd uid gid s u mo N oa ob) (dirA F) ∧ RW wx T uid gid 201 F ∧ ER T uid gid T1)
      case first =>
       as_aux_lemma =>
        rcases hk5 with hk4 | hk4 | hk4 | hk4
        all_goals
         first
          | (subst hk4
             go_wp2_with fail
             first
              | (go_at_call 21
                 refine (walkRemove_any HWC.out.1.tro.tre cwd (whoC uid gid) s (bits .and .i64 N 1 == 1)).mono ?_
                 rintro e w6 ⟨r1, rfl, hst⟩
                 obtain ⟨S1, T1, hw6, hr1, hl6⟩ := HWC.out.1.step hst (fun _ hh => isWRemove.sound hh HSN.out)
                 have HER := Hd (er_remove HSN.out hr1)
                 have HW7 := Hd (And.intro hw6 (HWC.out.2.lay hl6))
                 clear hst hr1 hw6 hl6)
              | (go_at_call 22
                 refine (walkMkdir_any HWC.out.1.tro.tre HX.out cwd (whoC uid gid) s mo).mono ?_
                 rintro e w6 ⟨r1, rfl, hst⟩
                 obtain ⟨S1, T1, hw6, hr1, hl6⟩ := HWC.out.1.step hst (fun _ hh => isMkdir.sound hh HSN.out)
                 have HER := Hd (er_mkdir hr1)
                 have HW7 := Hd (And.intro hw6 (HWC.out.2.lay hl6))
                 clear hst hr1 hw6 hl6)
              | (go_at_call 25
                 refine (walkLink_any HWC.out.1.tro.tre cwd (whoC uid gid) s u).mono ?_
                 rintro e w6 ⟨r1, rfl, hst⟩
                 obtain ⟨S1, T1, hw6, hr1, hl6⟩ := HWC.out.1.step hst (fun _ hh => isLink.sound hh HSN.out)
                 have HER := Hd (er_link hr1)
                 have HW7 := Hd (And.intro hw6 (HWC.out.2.lay hl6))
                 clear hst hr1 hw6 hl6)
              | (go_at_call 24
                 refine (walkRename_any HWC.out.1.tro.tre HX2.out cwd (whoC uid gid) s u).mono ?_
                 rintro e w6 ⟨r1, rfl, hst⟩
                 obtain ⟨S1, T1, hw6, hr1, hl6⟩ := HWC.out.1.step hst (fun _ hh => isRename.sound hh HSN.out)
                 have HER := Hd (er_rename HSN.out hr1)
                 have HW7 := Hd (And.intro hw6 (HWC.out.2.lay hl6))
                 clear hst hr1 hw6 hl6))
        all_goals
         clear HWC c0 c1 c2 c3 c4 o0 o1 o4 o5 o6 o7
         go_wp2_with fail
         go_meet
         exact ⟨S1, T1, HW7.out.1, HW7.out.2, HER.out⟩
      case rest =>
       as_aux_lemma =>
        clear HWC c0 c1 c2 c3 c4 o0 o1 o4 o5 o6 o7
        obtain ⟨S1, T1, hw7a, hw7b, her⟩ := hcut
        have HW7 := Hd (And.intro hw7a hw7b)
        have HER := Hd her
        clear hw7a hw7b her
        go_wp2_with fail
        go_loopg [18] 200 (fun g dv wr => ∃ (d : Nat), dv = .int .i64 (d : Int) ∧ d + g = 201 ∧ 1 ≤ d ∧ Hid (WE w.heap.size w wr t S1 T1 w.heap.size b7 (op7 K7 cwd uid gid s u mo N oa ob) (dirA F) ∧ RW wr T uid gid 201 F))
        case atStart => exact ⟨1, rfl, rfl, by omega, HW7⟩
        case round =>
         clear HW7
         obtain ⟨d, rfl, hdg, hd1, HW⟩ := hrel
         by_cases hd : d ≤ 200
         · obtain ⟨og, rfl⟩ : ∃ og, gk = og + 1 := ⟨gk - 1, by omega⟩
           have hd2 : (d : Int) ≤ 200 := by omega
           have HST : Hid (Calls Tryz.prog 17 #[.pointer (some ⟨t, 0, none⟩), .int .i64 (d : Int)] wr fun e w' => e = .returned (.tuple #[.agg #[.int .i64 (statF T1 d 0), .int .i64 (statF T1 d 1), .int .i64 (statF T1 d 2), .int .i64 (statF T1 d 3), .int .i64 (statF T1 d 4), .int .i64 (statF T1 d 5), .int .i64 (statF T1 d 6), .int .i64 (statF T1 d 7)], .bool (T1 d).isSome]) ∧ Below wr.heap.size wr w') := Hd (by
            have := stat_any HW.out.1.tro.tre (d : Int)
            rw [Int.toNat_natCast, stat_F] at this
            exact this)
           have hcase : (∃ m m1, T d = some m ∧ m.kind = 1 ∧ T1 d = some m1 ∧ m1.kind = 1) ∨ (T1 d).isSome = false ∨ (T1 d).isSome = true ∧ F d 0 = .bool false ∨ (T1 d).isSome = true ∧ F d 0 = .bool true ∧ (statF T1 d 1 != 1) = true := by
            cases e1 : T1 d with
            | none => exact .inr (.inl rfl)
            | some m1 =>
              by_cases hm : ∃ m, T d = some m ∧ m.kind = 1
              · obtain ⟨m, hm, hk⟩ := hm
                by_cases hk1 : m1.kind = 1
                · exact .inl ⟨m, m1, hm, hk, rfl, hk1⟩
                · exact .inr (.inr (.inr ⟨rfl, (HW.out.2.dir d m hm hk (by omega)).is, by unfold statF; rw [e1]; simpa using hk1⟩))
              · refine .inr (.inr (.inl ⟨rfl, ?_⟩))
                rw [HW.out.2.no d fun m h1 h2 _ => hm ⟨m, h1, h2⟩]
                rfl
           rcases hcase with ⟨m, m1, hm, hk, hm1, hk1⟩ | hso | ⟨hso, h0⟩ | ⟨hso, h0, hs1⟩
           case' inl =>
            have hso : (T1 d).isSome = true := by rw [hm1]; rfl
            have h0 := (HW.out.2.dir d m hm hk (by omega)).is
            have hs1 : (statF T1 d 1 != 1) = false := by unfold statF; rw [hm1]; simpa using hk1
            have HM := Hd hm
            have HK := Hd hk
            have HM1 := Hd hm1
            have HK1 := Hd hk1
            clear hm hk hm1 hk1
           all_goals
            rw [hso] at HST
            clear hso
            go_wp2_with fail
            refine HST.out.mono ?_
            rintro e w5 ⟨rfl, hb⟩
            have HW5 := Hd (And.intro (HW.out.1.below (bZ hb (.cells #[.int .i64 (statF T1 d 0), .int .i64 (statF T1 d 1), .int .i64 (statF T1 d 2), .int .i64 (statF T1 d 3), .int .i64 (statF T1 d 4), .int .i64 (statF T1 d 5), .int .i64 (statF T1 d 6), .int .i64 (statF T1 d 7)] 44))) (HW.out.2.below (bZ hb (.cells #[.int .i64 (statF T1 d 0), .int .i64 (statF T1 d 1), .int .i64 (statF T1 d 2), .int .i64 (statF T1 d 3), .int .i64 (statF T1 d 4), .int .i64 (statF T1 d 5), .int .i64 (statF T1 d 6), .int .i64 (statF T1 d 7)] 44))))
            have l7 : b7 < w5.heap.size := by
             have := lH HW.out.1.was
             have := hb.size
             omega
            have p0 : w5.cell? ⟨b7, d * 6, none⟩ = some (F d 0) := (HW.out.1.below hb).cell (d := d) (j := 0) (by omega) (by decide)
            try rw [h0] at p0
            clear hb HST HW
           all_goals
            go_wp2_with fail
            first
             | (have HN := Hd HW5.out
                clear HW5 p0
                go_roundg og
                case measure => omega
                case rel => exact ⟨d + 1, by go_num, by omega, by omega, HN⟩)
             | (generalize w5.alloc (.cells #[.int .i64 (statF T1 d 0), .int .i64 (statF T1 d 1), .int .i64 (statF T1 d 2), .int .i64 (statF T1 d 3), .int .i64 (statF T1 d 4), .int .i64 (statF T1 d 5), .int .i64 (statF T1 d 6), .int .i64 (statF T1 d 7)] 44) = W9 at *
                clear p0 l7
                have hen : namesT T1 d = m1.names.map (·.1) := by unfold namesT; rw [HM1.out]
                have HSL2 : Hid (Sl W9 (F d 1) ((m.names.map (·.1)).map tx)) := Hd (by
                 have h1 := (HW5.out.2.dir d m HM.out HK.out (by omega)).nm
                 have h2 : nmV m = ((m.names.map (·.1)).map tx).map .string := by unfold nmV; rw [List.map_map, List.map_map, List.map_map]; rfl
                 rw [h2] at h1
                 exact h1.sl)
                obtain ⟨n, hn⟩ : ∃ n, m.names.length = n := ⟨_, rfl⟩
                have hfew : n ≤ 40 := by rw [← hn]; exact HSN.out.1.few d m HM.out
                have hfew1 : m1.names.length ≤ 40 := HW5.out.1.tro.snd.1.few d m1 HM1.out
                have HNN := Hd hn
                have HLK : Hid (∀ p ∈ m.names, lookT T1 d p.1 = none → Fr7 T uid m p) := Hd (fun p hp hl => by
                 refine (HER.out d m m1 HM.out HK.out HM1.out HK1.out).2 p hp ?_
                 cases hf : IT.findN p.1 m1.names with
                 | none => rfl
                 | some y =>
                   rw [find_look HW5.out.1.tro.snd HM1.out HK1.out hf] at hl
                   cases hl)
                have HNE : Hid (∀ b, ((m1.names.map (·.1)).map tx = (m.names.map (·.1)).map tx → b = true) → b = true ∨ mayT T d uid gid 2 = true) := Hd (fun b hb => by
                 rcases (HER.out d m m1 HM.out HK.out HM1.out HK1.out).1 with h | h
                 · exact .inl (hb (by rw [h]))
                 · exact .inr h)
                refine (names_any HW5.out.1.tro.tre (d : Int)).mono ?_
                rintro e w6 ⟨v, rfl, hown, _, hb⟩
                rw [Int.toNat_natCast, hen] at hown
                have hsl1 := Sl.names (T := T1) (k := d) (by rw [hen]; exact hown)
                rw [hen] at hsl1
                obtain ⟨av, cv, rfl⟩ := own_slice hown
                obtain ⟨n1, hn1⟩ : ∃ n1, (m1.names.map (·.1)).length = n1 := ⟨_, rfl⟩
                rw [hn1] at hsl1 ⊢
                have HW6 := Hd (And.intro (HW5.out.1.below hb) (HW5.out.2.below hb))
                have HSL1 := Hd hsl1
                have HSL3 := Hd (HSL2.out.below hb)
                obtain ⟨an, cn, e1, _, hcn, _⟩ := (HW6.out.2.dir d m HM.out HK.out (by omega)).nm.cell
                have hnl : (nmV m).length = n := by unfold nmV; rw [List.length_map, List.length_map]; exact hn
                rw [hnl] at e1
                obtain ⟨ao, co, e2, _, hco, _⟩ := (HW6.out.2.dir d m HM.out HK.out (by omega)).ow.cell
                have hol : (owV T m).length = n := by unfold owV; rw [List.length_map]; exact hn
                rw [hol] at e2
                have HE1 := Hd e1
                have HE2 := Hd e2
                have p1 : w6.cell? ⟨b7, d * 6 + 1, none⟩ = some (.slice an n cn) := (HW6.out.1.cell (d := d) (j := 1) (by omega) (by decide)).trans (by rw [HE1.out])
                rw [e1] at HSL3
                clear hown hsl1 hb HSL2 HW5 e1 e2 hen hn1
                go_wp2_with fail
                refine (same_some w6 _ _ _ _ HSL1.out HSL3.out (by rw [List.length_map, List.length_map]; omega) (by rw [List.length_map, List.length_map]; omega)).mono ?_
                rintro e w7 ⟨b, rfl, hbq, hb7⟩
                have HW7 := Hd (And.intro (HW6.out.1.below hb7) (HW6.out.2.below hb7))
                have hbm := HNE.out b hbq
                clear hbq hb7 HW6 p1 HSL1 HSL3 HNE
                have p5 : w7.cell? ⟨b7, d * 6 + 5, none⟩ = some (.bool (mayT T d uid gid 2)) := (HW7.out.1.cell (d := d) (j := 5) (by omega) (by decide)).trans (by rw [(HW7.out.2.dir d m HM.out HK.out (by omega)).wr])
                obtain ⟨wri, hwri⟩ : ∃ wri, mayT T d uid gid 2 = wri := ⟨_, rfl⟩
                rw [hwri] at p5 hbm
                clear hwri
                cases b
                case' false =>
                 have hw1 : wri = true := by
                  rcases hbm with h | h
                  · cases h
                  · exact h
                 subst hw1
                all_goals clear hbm
                all_goals
                 as_aux_lemma =>
                  go_wp2_with fail
                  clear p5
                  go_loopg [23] n (fun g kv wr => ∃ (k : Nat), kv = .int .i64 (k : Int) ∧ k + g = n ∧ Hid (WE w.heap.size w wr t S1 T1 w.heap.size b7 (op7 K7 cwd uid gid s u mo N oa ob) (dirA F) ∧ RW wr T uid gid 201 F))
                  case atStart => exact ⟨0, rfl, by omega, HW7⟩
                  case round =>
                   clear HW7
                   obtain ⟨k, rfl, hkg, HI⟩ := hrel
                   have p1 : wr.cell? ⟨b7, d * 6 + 1, none⟩ = some (.slice an n cn) := (HI.out.1.cell (d := d) (j := 1) (by omega) (by decide)).trans (by rw [HE1.out])
                   by_cases hkn : k < n
                   · obtain ⟨kg, rfl⟩ : ∃ kg, gk = kg + 1 := ⟨gk - 1, by omega⟩
                     have hk3 : (k : Int) < n := by omega
                     obtain ⟨p, hp⟩ : ∃ p, m.names[k]? = some p := ⟨m.names[k]'(by rw [HNN.out]; exact hkn), List.getElem?_eq_getElem _⟩
                     have HKP := Hd (HI.out.2.dir d m HM.out HK.out (by omega))
                     obtain ⟨an1, cn1, e3, _, _, hc1⟩ := HKP.out.nm.cell
                     obtain ⟨g1, rfl, hg1, hgc1⟩ := hc1 k (.string (tx p.1)) (by unfold nmV; rw [List.map_map, List.getElem?_map, hp]; rfl)
                     have hea : an = some ⟨g1, 0, none⟩ := by rw [HE1.out] at e3; simp only [Value.slice.injEq] at e3; exact e3.1
                     subst hea
                     obtain ⟨ao1, co1, e4, _, _, hc2⟩ := HKP.out.ow.cell
                     obtain ⟨g2, rfl, hg2, hgc2⟩ := hc2 k (.int .i64 (statF T p.2 3)) (by unfold owV; rw [List.getElem?_map, hp]; rfl)
                     have hea : ao = some ⟨g2, 0, none⟩ := by rw [HE2.out] at e4; simp only [Value.slice.injEq] at e4; exact e4.1
                     subst hea
                     have hpm : p ∈ m.names := List.mem_of_getElem? hp
                     have p2 : wr.cell? ⟨b7, d * 6 + 2, none⟩ = some (.slice (some ⟨g2, 0, none⟩) n co) := (HI.out.1.cell (d := d) (j := 2) (by omega) (by decide)).trans (by rw [HE2.out])
                     have p3 : wr.cell? ⟨b7, d * 6 + 3, none⟩ = some (.int .i64 m.mode) := (HI.out.1.cell (d := d) (j := 3) (by omega) (by decide)).trans (by rw [HKP.out.mo])
                     have p4 : wr.cell? ⟨b7, d * 6 + 4, none⟩ = some (.int .i64 m.owner) := (HI.out.1.cell (d := d) (j := 4) (by omega) (by decide)).trans (by rw [HKP.out.own])
                     have o2 : wr.cell? ⟨w.heap.size, 2, none⟩ = some (.int .i64 uid) := cO HI.out.1.op 2
                     obtain ⟨lk, hlk⟩ : ∃ lk, lookT T1 d p.1 = lk := ⟨_, rfl⟩
                     have HLO : Hid (Calls Tryz.prog 14 #[.pointer (some ⟨t, 0, none⟩), .int .i64 (d : Int), .string (tx p.1)] wr fun e w' => e = .returned (lookV lk) ∧ wr = w') := Hd (by
                      have := look_any HI.out.1.tro.tre (d : Int) (tx p.1)
                      rw [Int.toNat_natCast, bs_tx, hlk] at this
                      exact this)
                     have hfr := HLK.out p hpm
                     rw [hlk] at hfr
                     obtain ⟨ow, how⟩ : ∃ ow, statF T p.2 3 = ow := ⟨_, rfl⟩
                     have hfr2 : lk = none → (bits .and .i64 m.mode 512 == 0) = true ∨ uid = 0 ∨ uid = m.owner ∨ uid = ow := fun h => by
                      rcases hfr h with h | h | h | ⟨q, hq, h⟩
                      · exact .inl h
                      · exact .inr (.inl h)
                      · exact .inr (.inr (.inl h))
                      · refine .inr (.inr (.inr ?_))
                        rw [← how]
                        unfold statF
                        rw [hq]
                        exact h
                     rw [how] at hgc2
                     clear hfr hlk how hp hpm hc1 hc2 e3 e4 HKP
                     have hcs : (bits .and .i64 m.mode 512 == 0) = true ∨ (bits .and .i64 m.mode 512 == 0) = false ∧ ((uid == 0) = true ∨ (uid == 0) = false ∧ ((uid == m.owner) = true ∨ (uid == m.owner) = false)) := by
                      cases (bits .and .i64 m.mode 512 == 0) <;> cases (uid == 0) <;> cases (uid == m.owner) <;> simp
                     have hst : (∃ j, lk = some j) ∨ lk = none ∧ ((bits .and .i64 m.mode 512 == 0) = false → (uid == 0) = false → (uid == m.owner) = false → (uid == ow) = true) := by
                      cases lk with
                      | some j => exact .inl ⟨j, rfl⟩
                      | none =>
                        refine .inr ⟨rfl, fun h1 h2 h3 => ?_⟩
                        rcases hfr2 rfl with h | h | h | h
                        · rw [h] at h1; cases h1
                        · rw [beq_eq_false_iff_ne] at h2; exact absurd h h2
                        · rw [beq_eq_false_iff_ne] at h3; exact absurd h h3
                        · rw [beq_iff_eq]; exact h
                     clear hfr2
                     go_wp2_with fail
                     refine HLO.out.mono ?_
                     rintro e w9 ⟨rfl, rfl⟩
                     unfold lookV
                     have HST := Hd hst
                     clear hst HLO
                     go_upto_region 44 with fail
                     go_cut [26] from 206 to 265 (fun v26 wx => Below wr.heap.size wr wx ∧ ∃ fr : Bool, v26 = .bool fr ∧ (lk = none → fr = true))
                     case first =>
                      rcases hcs with h1 | ⟨h1, h2 | ⟨h2, h3 | h3⟩⟩
                      case' inr.inr.inr =>
                       have hq : lk = none → (uid == ow) = true := fun e => by
                        rcases HST.out with ⟨j, hj⟩ | ⟨_, hq⟩
                        · rw [e] at hj; cases hj
                        · exact hq h1 h2 h3
                      all_goals
                       go_quiet (fail)
                       go_wp2
                       go_meet
                       first
                        | exact ⟨belowDrewN (Below.refl _ _) nq, true, rfl, fun _ => rfl⟩
                        | exact ⟨belowDrewN (Below.refl _ _) nq, _, rfl, hq⟩
                     case rest =>
                      obtain ⟨hbw, fr, rfl, hfr⟩ := hcut
                      have HN := Hd (And.intro (HI.out.1.below hbw) (HI.out.2.below hbw))
                      clear HI p1 p2 p3 p4 o2 hgc1 hgc2 hbw hcs HST
                      cases lk
                      case' none =>
                       have hft := hfr rfl
                       subst hft
                      all_goals
                       clear hfr
                       dsimp only [Option.isSome]
                       go_wp2_with fail
                       go_roundg kg
                       case measure => omega
                       case rel => exact ⟨k + 1, by go_num, by omega, HN⟩
                   · have hk3 : (n : Int) ≤ k := by omega
                     have HN := Hd HI.out
                     clear HI
                     go_wp2_with fail
                     go_roundg og
                     case measure => omega
                     case rel => exact ⟨d + 1, by go_num, by omega, by omega, HN⟩)
         · obtain rfl : d = 201 := by omega
           have hd2 : (200 : Int) < (201 : Nat) := by omega
           clear hd
           go_wp2
           go_ret
           exact ⟨rfl, HW.out.1.tro.own.below⟩
end Go.Proofs.YtafonmnfeibaiaaGreat
namespace Go.Proofs.YtafonmnfeibaiaaGreat
open Go.ChangeShapes Go.WideShapes Go.ChangeAt Go.RowKit
theorem op7_arg {H : Type} {enc : TypeId × Value → H} {W : World} {base : Nat} {v : Value} {d : DataW H} {p : List MemPlace} (hv : Value.okWide Tryz.prog W .any base 24 v) (h : DataW.Trod enc Tryz.prog W 0 (fun _ => true) true 24 v d p) (hb : Rows.uptoBulk d ≤ 1048576) :
  ∃ (K cwd uid gid : Int) (s u : ByteArray) (mo N oa ob : Int), v = .agg #[.int .i64 K, .int .i64 cwd, .int .i64 uid, .int .i64 gid, .string s, .string u, .int .i64 mo, .int .i64 N, .int .i64 oa, .int .i64 ob] ∧ mo < 9223372036854775808 ∧ s.size ≤ 1048576 ∧ u.size ≤ 1048576 := by
 obtain ⟨cs, rfl, hsz⟩ := okWide_struct Tryz.underlying24 hv
 obtain ⟨fuel, h2⟩ := h
 obtain ⟨K, cwd, uid, gid, s, u, mo, N, oa, ob, h3, _, h5, h6, _, hall⟩ := op7_opened (x := (d, p)) h2 hb
 refine ⟨K, cwd, uid, gid, s, u, mo, N, oa, ob, ?_, h3, h5, h6⟩
 have e : cs = op7 K cwd uid gid s u mo N oa ob := by
  rw [op7Cells] at hsz
  apply Array.ext'
  apply List.ext_getElem?
  intro k
  by_cases hk : k < 10
  · have := hall k hk
    rw [← Array.getElem?_toList] at this
    exact this
  · rw [List.getElem?_eq_none (by rw [Array.length_toList]; omega), List.getElem?_eq_none (by show 10 ≤ k; omega)]
 rw [e]
 rfl
end Go.Proofs.YtafonmnfeibaiaaGreat
namespace Go.Proofs.YtafonmnfeibaiaaGreat.walkEntries
open Go.ChangeShapes Go.WideShapes Go.ChangeAt Go.RowKit
open Go.ChangeMaps (open_string shut_string)
set_option linter.unusedVariables false
theorem own : ownKnob Tryz.prog.godebug = none := by kernel_rfl
theorem laidOut : laidOutB Tryz.prog = true := by kernel_rfl
theorem lifted (os : Os) (started : os.Started) (H : Type) (enc : TypeId × Value → H) (F0 : Stop.Interp) :
  ReturnsInHanded {} Tryz.checked os 6 .any ((Rows.OpenSpec.upto Rows.walkEntriesSpec).pre6 enc Tryz.prog Tryz.f6 Rows.walkEntriesUptoRow.domain false) (((Rows.OpenSpec.upto Rows.walkEntriesSpec).at F0).post enc Tryz.prog Tryz.f6 false true false false) := by
 refine returnsInHanded_of_cond (C := Tryz.checked) (s := (Rows.OpenSpec.upto Rows.walkEntriesSpec)) (k := Rows.uptoSmall) rfl own started (by kernel_rfl) Tryz.func6
  (OpenSpec.witness (enc := enc) (C := Tryz.checked) (s := (Rows.OpenSpec.upto Rows.walkEntriesSpec)) (k := Rows.uptoSmall) rfl false ⟨#[], #[.slice none 0 0, .agg #[.int .i64 0, .int .i64 0, .int .i64 0, .int .i64 0, .string ⟨#[]⟩, .string ⟨#[]⟩, .int .i64 0, .int .i64 0, .int .i64 0, .int .i64 0]], []⟩ 8 (by kernel_rfl) (by kernel_rfl) (by kernel_rfl)
    (x := ([.nil, .agg [.lit (.int .i64 0), .lit (.int .i64 0), .lit (.int .i64 0), .lit (.int .i64 0), .lit (.string []), .lit (.string []), .lit (.int .i64 0), .lit (.int .i64 0), .lit (.int .i64 0), .lit (.int .i64 0)]], [], [])) (by kernel_rfl) (by kernel_rfl) (by kernel_rfl)) ?_
 intro W base args ds gs before hval0 hW hcnd hu0 _
 have hval : ∀ (j : Nat) t v, Tryz.f6.params[j]? = some t → args[j]? = some v → Value.okWide Tryz.prog W .any base t v := hval0
 have hW' := hW
 obtain ⟨p, q, hA0, hV, rfl, hfz, hnd⟩ := hW
 have hA : DataW.TrodAll enc Tryz.prog W 0 (fun _ => true) true Tryz.f6.params.toList args.toList ds p := hA0
 rw [Tryz.params6] at hA hval
 obtain ⟨v0, vs0, d0, ds0, p0, q0, hargs, rfl, rfl, h0, r0⟩ := trodAll_cons hA
 obtain ⟨v1, vs1, d1, ds1, p1, q1, rfl, rfl, rfl, h1, r1⟩ := trodAll_cons r0
 obtain ⟨rfl, rfl, rfl⟩ := trodAll_nil r1
 obtain rfl : args = #[v0, v1] := by cases args; simp_all
 obtain ⟨rfl, rfl⟩ := trodVars_none hV
 have hu : Rows.uptoBulkAll [d0, d1] ≤ 1048576 := of_decide_eq_true hu0
 simp only [Rows.uptoBulkAll] at hu
 obtain ⟨a0, len0, cap0, rfl⟩ := okWide_slice Tryz.underlying22 (hval 0 22 v0 rfl rfl)
 have lt0 : ∀ x ∈ p0, x.block < W.heap.size := by obtain ⟨m, hm⟩ := h0; exact DataW.trod_lt m _ _ _ hm
 obtain ⟨m0, w0⟩ := ops7_of h0 (by omega)
 have lt1 : ∀ x ∈ p1, x.block < W.heap.size := by obtain ⟨m, hm⟩ := h1; exact DataW.trod_lt m _ _ _ hm
 obtain ⟨K1, cwd1, uid1, gid1, s1, u1, mo1, N1, oa1, ob1, rfl, w1⟩ := op7_arg (hval 1 24 v1 rfl rfl) h1 (by omega)
 clear hA0 hval0
 refine (entries7_any a0 len0 cap0 W m0 w0 K1 cwd1 uid1 gid1 s1 u1 mo1 N1 oa1 ob1).mono fun e W' ⟨he, bel⟩ => ?_
 subst he
 exact ⟨_, rfl, _, _, _, [], _, [], hW', trodAll_mk1 (shut_bool Tryz.underlying4 _), (trodAll_cons_mk (Below.trod laidOut (by kernel_rfl) (of_decide_eq_true (by kernel_rfl)) h0 bel lt0) (trodAll_cons_mk (Below.trod laidOut (by kernel_rfl) (of_decide_eq_true (by kernel_rfl)) h1 bel lt1) trodAll_mk0)), rfl, bel.frame _, fun h => by cases h⟩
theorem proved : Rows.WalkEntriesUptoSaid :=
 OpenClaim.holds_of_cond 6 Tryz.f6 rfl rfl rfl rfl rfl rfl rfl ⟨rfl, rfl, rfl, rfl, rfl⟩ rfl rfl rfl rfl rfl (by kernel_rfl) Tryz.func6 (by kernel_rfl)
  (of_decide_eq_true (by kernel_rfl)) (by unfold Func.isWrapper; first | (rw [if_pos (by decide +kernel)]; kernel_rfl) | (rw [if_neg (by decide +kernel)]; exact ⟨rfl, rfl⟩))
  (fun os started H enc _ F0 => lifted os started H enc F0)
#print axioms proved
end Go.Proofs.YtafonmnfeibaiaaGreat.walkEntries
