/- LoginInit's walk. -/
import Derived.Test.YtlhlehdajkoogaaGreatDoorR
import Derived.Deep.RegionHeld3
namespace Go.Proofs.YtlhlehdajkoogaaGreatDoor
open Go.RowKit

/-- Numbers that came in. -/
def Ints (w : World) (v : Value) (G : List Int) : Prop := ∃ a cap, v = .slice a G.length cap ∧ ∀ j (h : j < G.length), ∃ b off, a = some ⟨b, off, none⟩ ∧ w.cell? ⟨b, off + j, none⟩ = some (.int .i64 G[j]) ∧ -9223372036854775808 ≤ G[j] ∧ G[j] ≤ 9223372036854775807
theorem add_off (g o j : Nat) : (⟨g, o, none⟩ : Addr).add j = ⟨g, o + j, none⟩ := by unfold Addr.add; split <;> simp_all
theorem step_app1 {P : Program} {w : World} {ops : Array Oper} {o : Oper} {a : Act} {K : Act → World → Prop} {Q : Exit → Act → World → Prop} {E : Prop} (hgd : o.guard = none) (s x : Operand) (t : TypeId)
    (ho : o.op = .call { callee := .builtin .append, args := #[s, x], argTypes := #[t, t] })
    (base : Nat) (e : TypeId) (i : TypeInfo) (z : Value) (bytes : Nat) (ht : P.underlying t = some (.slice e)) (hi : P.info? e = some i) (hz : i.zero = some z)
    (hsize : i.size = 1) (hby : i.bytes = bytes) (hzs : z.cells.size = 1)
    (v : Value) (n : Nat) (xs : List Value) (hs : a.eval s = v) (hown : w.ownsRow base e 1 v n xs)
    (ad : Addr) (m c : Nat) (news : List Value) (hx : a.eval x = .slice (some ad) m c) (hl : news.length = m) (hnews : ∀ j u, news[j]? = some u → w.cell? (ad.add j) = some u) (h1 : ∀ u ∈ news, u.oneCell' = true)
    (h63 : n + m ≤ maxLen) (hbytes : (n + m) * bytes ≤ 140737488355328) (hbase : base ≤ w.heap.size)
    (h : ∀ v' w', w'.ownsRow base e 1 v' (n + m) (xs ++ news) → w.grownBy w' v.ownBlock → Below base w w' → K (a.put o.dst v') w') :
    if Region.wanted o (yielded ops a.tmps) = true then Oper.wp P o a w K Q else E := by
  have hw : Region.wanted o (yielded ops a.tmps) = true := by simp [Region.wanted, hgd]
  rw [if_pos hw]
  obtain ⟨v', w', hr, h2, h3, _⟩ := run_append_own_at (P := P) w base t o.type e i z 1 bytes ht hi hz hsize hby hzs (by decide) v n xs hown ad m c news (by rw [hl, Nat.mul_one]) hnews h1 h63 hbytes hbase
  unfold Oper.wp execOp
  simp only [ho, resolve, invoke, builtin, Sem.run_bind, Sem.run_pure, Result.andThen_ok, List.map_toArray, List.map_cons, List.map_nil, hs, hx, hr]
  exact h v' w' h2 h3 (below_grown (Below.refl _ _) hbase h3 (fun k hk => (hown.lt k hk).1))
theorem wrap_small (q : Nat) (h : q < 1000000) : IntKind.i64.wrap ((q : Int) + 1) = (q : Int) + 1 := by rw [IntKind.wrap_i64]; omega
theorem own_none (w : World) (e : TypeId) (base B : Nat) (hB : w.heap.size = B) (hb : base ≤ w.heap.size) : (w.alloc (.cells #[] e)).ownsRow base e 1 (.slice (some ⟨B, 0, none⟩) 0 0) 0 [] :=
  hB ▸ ⟨rfl, .inr ⟨w.heap.size, 0, #[], rfl, hb, alloc_heap _ _, Nat.le_refl _, by decide, rfl, rfl⟩⟩
theorem own_none_d (w : World) (e : TypeId) : (w.alloc (.cells #[] e)).drew.ownsRow w.heap.size e 1 (.slice (some ⟨w.heap.size, 0, none⟩) 0 0) 0 [] :=
  ⟨rfl, .inr ⟨w.heap.size, 0, #[], rfl, Nat.le_refl _, alloc_heap w _, Nat.le_refl _, by decide, rfl, rfl⟩⟩
theorem len_take {l : List Int} {q : Nat} (h : q < l.length) : ((l.take q).map (Value.int .i64)).length = q := by
  rw [List.length_map, List.length_take]
  omega
theorem len_drop (l : List Int) (q : Nat) : ((l.drop q).map (Value.int .i64)).length = l.length - q := by
  rw [List.length_map, List.length_drop]
theorem ints_one (l : List Int) : ∀ u ∈ l.map (Value.int .i64), u.oneCell' = true := fun u hu => by
  obtain ⟨z, _, rfl⟩ := List.mem_map.1 hu
  rfl
theorem row_mono {w : World} {B B' n : Nat} {v : Value} {xs : List Value} (h : w.ownsRow B 3 1 v n xs) (hB : B' ≤ B) : w.ownsRow B' 3 1 v n xs := by
  refine ⟨h.1, ?_⟩
  rcases h.2 with hn | ⟨g, cap, cur, rfl, hb, rest⟩
  · exact .inl hn
  · exact .inr ⟨g, cap, cur, rfl, Nat.le_trans hB hb, rest⟩
theorem row_take {w : World} {B lb cap q : Nat} {live : List Int} (h : w.ownsRow B 3 1 (.slice (some ⟨lb, 0, none⟩) live.length cap) live.length (live.map (Value.int .i64))) : ∀ W', Below w.heap.size w W' → ∀ j u, ((live.take q).map (Value.int .i64))[j]? = some u → W'.cell? ((⟨lb, 0, none⟩ : Addr).add j) = some u := fun W' hb j u hu => by
  have h1 : (live.map (Value.int .i64))[j]? = some u := by
    rw [List.map_take, List.getElem?_take] at hu
    split at hu
    · exact hu
    · cases hu
  have h2 := h.cells (g := lb) rfl j u h1
  rw [add_off] at h2 ⊢
  exact (hb.cell (p := ⟨lb, 0 + j, none⟩) (World.block_lt_of_cell? w _ h2)).trans h2
theorem row_drop {w : World} {B lb cap q : Nat} {live : List Int} (h : w.ownsRow B 3 1 (.slice (some ⟨lb, 0, none⟩) live.length cap) live.length (live.map (Value.int .i64))) (hc : live.length ≤ cap) : ∀ W', Below w.heap.size w W' → ∀ j u, ((live.drop (q + 1)).map (Value.int .i64))[j]? = some u → W'.cell? ((if cap = q + 1 then ⟨lb, 0, none⟩ else ⟨lb, q + 1, none⟩ : Addr).add j) = some u := fun W' hb j u hu => by
  have h1 : (live.map (Value.int .i64))[q + 1 + j]? = some u := by
    rw [List.map_drop, List.getElem?_drop] at hu
    exact hu
  have hlt : q + 1 + j < live.length := by
    have := (List.getElem?_eq_some_iff.1 h1).1
    simpa using this
  rw [if_neg (by omega)]
  have h2 := h.cells (g := lb) rfl (q + 1 + j) u h1
  rw [add_off, Nat.zero_add] at h2
  rw [add_off]
  exact (hb.cell (p := ⟨lb, q + 1 + j, none⟩) (World.block_lt_of_cell? w _ h2)).trans h2
theorem row_pos {w : World} {B n : Nat} {a : Option Addr} {c : Nat} {xs : List Value} (h : w.ownsRow B 3 1 (.slice a n c) n xs) (hn : n ≠ 0) : ∃ g cap, Value.slice a n c = .slice (some ⟨g, 0, none⟩) n cap ∧ n ≤ cap ∧ cap ≤ maxLen := by
  rcases h.2 with ⟨_, h0⟩ | ⟨g, cap, cur, e, _, _, h1, h2, _⟩
  · exact absurd h0 hn
  · exact ⟨g, cap, e, h1, h2⟩
theorem row_form {w : World} {B n : Nat} {v : Value} {xs : List Value} (h : w.ownsRow B 3 1 v n xs) : ∃ a cap, v = .slice a n cap := by
  rcases h.2 with ⟨rfl, rfl⟩ | ⟨g, cap, cur, rfl, _⟩
  · exact ⟨_, _, rfl⟩
  · exact ⟨_, _, rfl⟩
theorem digit_ok : ∀ T : Nat, T < 8 → Lib.parseUintB 8 [(48 + T).toUInt8] = .ok T := by decide
set_option maxRecDepth 100000 in
set_option maxHeartbeats 8000000 in
theorem init_law (A : Value) (G : List Int) (ttys : Int) (w : World) (hG : Ints w A G) :
    Calls Tryz.prog 7 #[.int .i64 ttys, A] w fun e w' => e = .returned (.bool true) ∧ Below w.heap.size w w' := by
  have hand := i64_and7 ttys
  obtain ⟨T, hT⟩ : ∃ T : Nat, ttys % 8 = (T : Int) := ⟨(ttys % 8).toNat, by omega⟩
  rw [hT] at hand
  have hT8 : T < 8 := by omega
  have HG := Lib.hid hG
  clear hG hT
  go_enter Tryz.func7, Tryz.ntmps7
  go_wp2_with fail
  refine shown_any.mono ?_
  rintro e w1 ⟨rfl, hb⟩
  have HB1 := Lib.hid hb
  clear hb
  have hc8 : ((48 + T).toUInt8.toNat : Int) = 48 + (T : Int) := by
    have : (48 + T).toUInt8.toNat = 48 + T := by rw [Nat.toUInt8, UInt8.toNat_ofNat']; omega
    omega
  have hcv := conv_one w1 (48 + T).toUInt8
  rw [hc8] at hcv
  obtain ⟨s, hs⟩ : ∃ s : ByteArray, (⟨#[(48 + T).toUInt8]⟩ : ByteArray) = s := ⟨_, rfl⟩
  have hs1 : s.size = 1 := by rw [← hs]; rfl
  have hsd : Lib.parseUintB 8 s.data.toList = .ok T := by rw [← hs]; exact digit_ok T hT8
  rw [hs] at hcv
  have HS1 := Lib.hid hs1
  have HSD := Lib.hid hsd
  have ha := alloc_heap (w1.alloc (.cells #[.int .u8 (48 + (T : Int))] 5)) (.cells #[.string ⟨#[105, 110, 105, 116]⟩, .string s] 9)
  have HL := Lib.hid (lnew_any ⟨#[105, 110, 105, 116]⟩ 44 (fun W => prog_init W) ha)
  have HB2 := Lib.hid (HB1.out.trans (((belowA (belowA (Below.refl w1.heap.size w1) (.cells #[.int .u8 (48 + (T : Int))] 5)) (.cells #[.string ⟨#[105, 110, 105, 116]⟩, .string s] 9))).mono HB1.out.size))
  rw [alloc_size] at HL
  clear hs hs1 hsd hc8 ha
  go_wp2_with fail
  refine HL.out.mono ?_
  rintro e w3 ⟨l, p, pd, pw, v, wv, hN⟩
  obtain rfl := hN.ret
  have HN := Lib.hid hN
  clear hN HL hcv
  obtain ⟨Z, hZ⟩ : ∃ Z, ({} : An).cells = Z := ⟨_, rfl⟩
  have hz1 := an_size
  have hz2 := an_one
  have hz3 := an_zero
  rw [hZ] at hz1 hz2 hz3
  have HZ := Lib.hid hZ
  have HZ2 := Lib.hid hz2
  have HZ3 := Lib.hid hz3
  have HZI : Hid ((Tryz.prog.info? 35).map (·.size) = some Z.size) := Lib.hid (by rw [hz1]; rfl)
  obtain ⟨w4, hw4, hrb, hbel, hs4, hT4⟩ := stored_ans (w := w3) (C := Z) hz1
  have HRB := Lib.hid hrb
  have HN4 := Lib.hid (HN.out.below hbel)
  have HT4 := Lib.hid hT4
  have HGE : Hid (w.heap.size ≤ w3.heap.size) := Lib.hid (by have := HN.out.bel.size; have := HB2.out.size; omega)
  have HLI : Hid (LI w w4 l p w3.heap.size none (LGI.keepsM (List.replicate T 0) 0) {}) := Lib.hid (LI.start HN4.out HS1.out (by omega) HSD.out HB2.out (by rw [hZ]; exact hrb) HGE.out)
  have HPW := Lib.hid (LGI.Inv.start T)
  clear hZ hz1 hz2 hz3 hrb hbel hs4 hT4 HN HB1 HB2 HS1 HSD HN4
  go_wp2_with (refine wpList_store_mid rfl 35 _ _ rfl w3.heap.size 0 Z rfl HZ3.out.symm HT4.out HZI.out HZ2.out ?_; rw [hw4]; clear hw4)
  obtain ⟨rb, hrbn⟩ : ∃ rb, w3.heap.size = rb := ⟨_, rfl⟩
  rw [hrbn] at HLI ⊢
  obtain ⟨GL, hGL⟩ : ∃ GL, G.length = GL := ⟨_, rfl⟩
  obtain ⟨ga, gcap, hA, hgc⟩ := HG.out
  rw [hGL] at hA
  subst hA
  have HGC := Lib.hid hgc
  have HGL := Lib.hid hGL
  clear hgc hGL HG HT4 HRB hrbn HGE
  go_loopg [7, 8, 9, 10, 12] 300 (fun g nv lv wv iv kv wr => ∃ (k i want : Nat) (next : Int) (live : List Int) (md : LGI.Md) (r : An), nv = .int .i64 next ∧ wv = .int .i64 (want : Int) ∧ iv = .int .i64 (i : Int) ∧ kv = .int .i64 (k : Int) ∧ k + g = 300 ∧ i ≤ k ∧ 2 ≤ next ∧ next ≤ 2 + k ∧ Hid (LI w wr l p rb lv.ownBlock md r ∧ LGI.Inv T md next live want ∧ wr.ownsRow w.heap.size 3 1 lv live.length (live.map (Value.int .i64))))
  case atStart => exact ⟨0, 0, T, 2, [], _, {}, rfl, rfl, rfl, rfl, by omega, by omega, by omega, by omega, Lib.hid ⟨HLI.out, HPW.out, World.ownsRow_nil _ _ _ _⟩⟩
  case round =>
    clear HLI HPW
    obtain ⟨k, i, want, next, live, md, r, rfl, rfl, rfl, rfl, hkg, hik, hn2, hnk, HI⟩ := hrel
    by_cases hk : k < 300
    · obtain ⟨og, rfl⟩ : ∃ og, gk = og + 1 := ⟨gk - 1, by omega⟩
      have hk2 : (k : Int) < 300 := by omega
      have HAN := Lib.hid HI.out.1.ans
      have HRI : Hid ((Tryz.prog.info? 35).map (·.size) = some r.cells.size) := Lib.hid rfl
      have HCA := Lib.hid (HI.out.1.call (row_tx HI.out.2.2))
      obtain ⟨R, hR⟩ : ∃ R, r.cells = R := ⟨_, rfl⟩
      rw [hR] at HAN HRI HCA
      go_wp2_with (refine wpList_load_row rfl 35 _ rfl rb rfl 35 R (0, 0) _ HAN.out Tryz.underlying35 rfl HRI.out ?_)
      refine HCA.out.mono ?_
      rintro e w5 ⟨m1, rfl, h1, h2, h3, h4⟩
      obtain ⟨W1, hW1, hcb, hcl, hs1, hcT⟩ := stored_call (w := w5) (C := m1.c.cells) rfl
      have hW2 : W1.setCells rb 0 ({} : An).cells.toList = W1.setCells rb 0 Z.toList := by rw [HZ.out]
      obtain ⟨hTD, hrow, hthere⟩ := HI.out.1.step h1 h3 h4 hcb hcl hW2
      obtain ⟨W2, hW2⟩ : ∃ W2, W1.setCells rb 0 Z.toList = W2 := ⟨_, rfl⟩
      rw [hW2] at hTD hrow
      have HTD := Lib.hid hTD
      have HROW := Lib.hid (hrow _ _ _ _ HI.out.2.2)
      have HIV := Lib.hid HI.out.2.1
      have HTH : Hid (W1.there rb 0 Z.size) := Lib.hid (by rw [← HZ.out]; exact hthere)
      have HCT := Lib.hid hcT
      have HCI : Hid ((Tryz.prog.info? 39).map (·.size) = some m1.c.cells.size) := Lib.hid rfl
      have HC1 : Hid (m1.c.cells.all (·.oneCell') = true) := Lib.hid (Ca.one _ h2.1.1 h2.1.2)
      clear h1 h2 h3 h4 hcb hcl hs1 hcT hTD hrow hthere HAN HRI HCA hR HI
      have hco := cell_of HTD.out.told
      have hz1 : W2.cell? ⟨rb, 1, none⟩ = some (.int .i64 0) := cell_of HTD.out.ans 1
      have fz1 := frozen_of HTD.out.ans 1
      have hth := HTD.out.is.th
      have hwant : want < 100 := by
        have h1 := HIV.out.cnt
        have h2 := HIV.out.len
        have h3 := List.count_le_length (a := (0 : Int)) (l := md.row)
        omega
      cases md with
      | fork g t =>
        obtain ⟨e1, hlt, b, e0, e2, e3⟩ := hth
        have c0 : W2.cell? ⟨w5.heap.size, 0, none⟩ = some (.int .i64 18) := (hco 0).trans (by rw [e1]; rfl)
        clear hco e1 e0 e2 e3 hlt
        obtain ⟨C, hC⟩ : ∃ C, m1.c.cells = C := ⟨_, rfl⟩
        rw [hC] at HCT HCI HC1 hW1 ⊢
        clear hC
        obtain ⟨hw1, hinv⟩ := HIV.out.fork hn2
        have hwb : ((want : Int) == 0) = false := by simp; omega
        have hww : wrap64 ((want : Int) - 1) = ((want - 1 : Nat) : Int) := by unfold wrap64; omega
        have hwn : wrap64 (next + 1) = next + 1 := by unfold wrap64; omega
        have hLI := HTD.out.answer (by have := HIV.out.len; dsimp only [LGI.Md.row] at this ⊢; omega) next (by omega)
        have hRW := HTD.out.row HROW.out (.int .i64 next)
        obtain ⟨W3, hW3⟩ : ∃ W3, W2.setCell ⟨rb, 1, none⟩ (.int .i64 next) = W3 := ⟨_, rfl⟩
        rw [hW3] at hLI hRW
        have HLI := Lib.hid hLI
        have HRW := Lib.hid hRW
        have HINV := Lib.hid hinv
        have hll : live.length < 100 := by
          have h1 := HIV.out.len
          have h2 := HIV.out.perm.length_eq
          have h3 := List.length_filter_le (· ≠ 0) (LGI.Md.fork g t).row
          omega
        obtain ⟨i0, hi, hq0, hq1, hq2⟩ := info_parts info_int
        clear hinv hLI hRW
        go_wp2_with (first | (refine wpList_store_mid rfl 39 _ _ rfl w5.heap.size 0 C rfl rfl HCT.out HCI.out HC1.out ?_; rw [hW1]; clear hW1) | (refine wpList_store_mid rfl 35 _ _ rfl rb 0 Z rfl HZ3.out.symm HTH.out HZI.out HZ2.out ?_; rw [hW2]; clear hW2) | (at_builtin; refine wpList_append_own_at (w := W3.alloc (.cells #[.int .i64 next] 3)) rfl _ _ 58 rfl w.heap.size 3 i0 (.int .i64 0) 1 8 Tryz.underlying58 hi hq0 hq1 hq2 rfl (by decide) _ live.length _ rfl (HRW.out.alloc _) ⟨W3.heap.size, 0, none⟩ 1 1 [.int .i64 next] rfl rfl (cell_one_new _ _ _) (by simp [Value.oneCell']) (by unfold maxLen; omega) (by omega) (by rw [alloc_size]; have := HLI.out.bel.size; omega) ?_; intro v7 w7 hown hgrow hnil hat))
        have hL7 := HLI.out.grow (row_tx HRW.out) ((World.grownBy_alloc W3 (.cells #[.int .i64 next] 3) _).trans hgrow) (fun k hk => (HRW.out.lt k hk).1) (x' := v7.ownBlock) (fun k hk => by
          rcases hat with h | h
          · exact .inl (h.symm.trans hk)
          · rw [h, alloc_size] at hk; have := Option.some.inj hk; exact .inr (by omega))
        have hR7 : w7.ownsRow w.heap.size 3 1 v7 (live ++ [next]).length ((live ++ [next]).map (Value.int .i64)) := by
          rw [List.length_append, List.map_append]; exact hown
        have HN := Lib.hid (And.intro hL7 (And.intro HINV.out hR7))
        clear hL7 hR7 hown hgrow hnil hat
        go_roundg og
        case measure => omega
        case rel => exact ⟨k + 1, i, want - 1, next + 1, live ++ [next], _, _, rfl, by go_num, rfl, by go_num, by omega, by omega, by omega, by omega, HN⟩
      | wait g =>
        obtain ⟨e1, e2⟩ := hth
        have c0 : W2.cell? ⟨w5.heap.size, 0, none⟩ = some (.int .i64 21) := (hco 0).trans (by rw [e1]; rfl)
        have c6 : W2.cell? ⟨w5.heap.size, 6, none⟩ = some (.int .i64 0) := (hco 6).trans (by rw [e1]; rfl)
        clear hco e1 e2
        obtain ⟨C, hC⟩ : ∃ C, m1.c.cells = C := ⟨_, rfl⟩
        rw [hC] at HCT HCI HC1 hW1 ⊢
        clear hC
        obtain ⟨hw0, hlT, _⟩ := HIV.out.other (Int.le_refl next)
        subst hw0
        subst hlT
        obtain ⟨la, lcap, hlv⟩ := row_form HROW.out
        rw [hlv] at HROW HTD ⊢
        clear hlv
        by_cases hend : GL ≤ i
        · have hBE := Lib.hid HTD.out.bel
          have hend2 : (GL : Int) ≤ i := by omega
          go_wp2_with (first | (refine wpList_store_mid rfl 39 _ _ rfl w5.heap.size 0 C rfl rfl HCT.out HCI.out HC1.out ?_; rw [hW1]; clear hW1) | (refine wpList_store_mid rfl 35 _ _ rfl rb 0 Z rfl HZ3.out.symm HTH.out HZI.out HZ2.out ?_; rw [hW2]; clear hW2))
          go_ret
          exact ⟨rfl, hBE.out⟩
        · by_cases hl0 : live.length = 0
          · have hBE := Lib.hid HTD.out.bel
            have hend2 : (i : Int) < GL := by omega
            obtain rfl : live = [] := List.eq_nil_of_length_eq_zero hl0
            go_wp2_with (first | (refine wpList_store_mid rfl 39 _ _ rfl w5.heap.size 0 C rfl rfl HCT.out HCI.out HC1.out ?_; rw [hW1]; clear hW1) | (refine wpList_store_mid rfl 35 _ _ rfl rb 0 Z rfl HZ3.out.symm HTH.out HZI.out HZ2.out ?_; rw [hW2]; clear hW2))
            go_ret
            exact ⟨rfl, hBE.out⟩
          · have hig : i < G.length := by rw [HGL.out]; omega
            have hend2 : (i : Int) < GL := by omega
            have hl1 : ¬ (live.length : Int) = 0 := by omega
            have hlb : ((live.length : Int) == 0) = false := beq_eq_false_iff_ne.2 hl1
            obtain ⟨bg, og2, rfl, hgv, hr1, hr2⟩ := HGC.out i hig
            have hgb : bg < w.heap.size := World.block_lt_of_cell? w _ hgv
            obtain ⟨z, hz⟩ : ∃ z, G[i] = z := ⟨_, rfl⟩
            rw [hz] at hgv hr1 hr2
            have hgz : W2.cell? ⟨bg, og2 + i, none⟩ = some (.int .i64 z) := (HTD.out.bel.cell (p := ⟨bg, og2 + i, none⟩) hgb).trans hgv
            clear hgv hz hig hgb
            have hwi : wrap64 ((i : Int) + 1) = ((i + 1 : Nat) : Int) := by unfold wrap64; omega
            obtain ⟨K, hK⟩ : ∃ K : Nat, (if z < 0 then -(z + 1) else z) = (K : Int) := ⟨(if z < 0 then -(z + 1) else z).toNat, by split <;> omega⟩
            obtain ⟨lb, lcap', hlv, hcap1, hcap2⟩ := row_pos HROW.out hl0
            rw [hlv] at HROW HTD ⊢
            clear hlv
            obtain ⟨c3, hc3⟩ : ∃ c, K % 3 = c := ⟨_, rfl⟩
            have hk3 : (K : Int) % 3 = (c3 : Int) := by omega
            clear hc3
            by_cases h3 : c3 = 0
            · have hLI := HTD.out.answer (by have := HIV.out.len; dsimp only [LGI.Md.row] at this ⊢; omega) (5000 + ((i : Int) + 1)) (by omega)
              have hRW := HTD.out.row HROW.out (.int .i64 (5000 + ((i : Int) + 1)))
              have HN := Lib.hid (And.intro hLI (And.intro (HIV.out.other (p := 5000 + ((i : Int) + 1)) (by omega)).2.2 hRW))
              subst h3
              replace hk3 : (K : Int) % 3 = 0 := hk3
              clear hLI hRW
              by_cases hzn : z < 0
              · rw [if_pos hzn] at hK
                have hz1 : wrap64 (z + 1) = z + 1 := by unfold wrap64; omega
                have hz2 : wrap64 (-(z + 1)) = (K : Int) := by rw [hK]; unfold wrap64; omega
                go_wp2_with (first | (refine wpList_store_mid rfl 39 _ _ rfl w5.heap.size 0 C rfl rfl HCT.out HCI.out HC1.out ?_; rw [hW1]; clear hW1) | (refine wpList_store_mid rfl 35 _ _ rfl rb 0 Z rfl HZ3.out.symm HTH.out HZI.out HZ2.out ?_; rw [hW2]; clear hW2))
                go_roundg og
                case measure => omega
                case rel => exact ⟨k + 1, i + 1, 0, next, live, _, _, rfl, by go_num, by go_num, by go_num, by omega, by omega, by omega, by omega, HN⟩
              · rw [if_neg hzn] at hK
                subst hK
                go_wp2_with (first | (refine wpList_store_mid rfl 39 _ _ rfl w5.heap.size 0 C rfl rfl HCT.out HCI.out HC1.out ?_; rw [hW1]; clear hW1) | (refine wpList_store_mid rfl 35 _ _ rfl rb 0 Z rfl HZ3.out.symm HTH.out HZI.out HZ2.out ?_; rw [hW2]; clear hW2))
                go_roundg og
                case measure => omega
                case rel => exact ⟨k + 1, i + 1, 0, next, live, _, _, rfl, by go_num, by go_num, by go_num, by omega, by omega, by omega, by omega, HN⟩
            · have h3b : ¬ ((c3 : Int) = 0) := by omega
              have h3c : ((c3 : Int) == 0) = false := by simp; omega
              obtain ⟨q, hq⟩ : ∃ q, K % live.length = q := ⟨_, rfl⟩
              have hqn : q < live.length := by rw [← hq]; exact Nat.mod_lt _ (by omega)
              have hqe : (K : Int) % (live.length : Int) = (q : Int) := by rw [← hq]; rfl
              have hqz : (q : Int) < live.length := by omega
              obtain ⟨y, hy⟩ : ∃ y, live[q]? = some y := ⟨_, List.getElem?_eq_getElem hqn⟩
              have hyc : W2.cell? ⟨lb, q, none⟩ = some (.int .i64 y) := by
                have := HROW.out.cells (g := lb) rfl q (.int .i64 y) (by rw [List.getElem?_map, hy]; rfl)
                rwa [add_off, Nat.zero_add] at this
              have HY := Lib.hid hy
              have hy0 : 2 ≤ y := (HIV.out.rng y (List.mem_of_getElem? hy)).1
              have hLI := HTD.out.answer (by have := HIV.out.len; dsimp only [LGI.Md.row] at this ⊢; omega) y (by omega)
              have hRW := HTD.out.row HROW.out (.int .i64 y)
              have HIW := Lib.hid (HIV.out.wait hy)
              obtain ⟨W3, hW3⟩ : ∃ W3, W2.setCell ⟨rb, 1, none⟩ (.int .i64 y) = W3 := ⟨_, rfl⟩
              rw [hW3] at hLI hRW
              have HLI := Lib.hid hLI
              have HRW := Lib.hid hRW
              clear hLI hRW hy hq
              have HS3 := Lib.hid (row_take (q := q) HRW.out)
              have HS4 := Lib.hid (row_drop (q := q) HRW.out hcap1)
              obtain ⟨i0, hi, hq0, hq1, hq2⟩ := info_parts info_int
              have hqc : q ≤ lcap' := Nat.le_trans (Nat.le_of_lt hqn) hcap1
              have hqcz : (q : Int) ≤ lcap' := Int.ofNat_le.2 hqc
              have hwq : IntKind.i64.wrap ((q : Int) + 1) = (q : Int) + 1 := wrap_small q (by omega)
              have hq1n : (q : Int) + 1 ≤ live.length := by omega
              have hq0z : (0 : Int) ≤ q := by omega
              have hq10 : (0 : Int) ≤ (q : Int) + 1 := by omega
              by_cases hzn : z < 0
              · rw [if_pos hzn] at hK
                have hz1 : wrap64 (z + 1) = z + 1 := by unfold wrap64; omega
                have hz2 : wrap64 (-(z + 1)) = (K : Int) := by rw [hK]; unfold wrap64; omega
                go_wp2_with (first | (refine wpList_store_mid rfl 39 _ _ rfl w5.heap.size 0 C rfl rfl HCT.out HCI.out HC1.out ?_; rw [hW1]; clear hW1) | (refine wpList_store_mid rfl 35 _ _ rfl rb 0 Z rfl HZ3.out.symm HTH.out HZI.out HZ2.out ?_; rw [hW2]; clear hW2))
                rw [hqe]
                clear HIV HTD HROW HCT HCI HC1 HTH HZI HZ HZ2 HZ3 hk3 h3b h3c hz1 hz2 hK hzn hgz hr1 hr2 hwi hwant hyc hend2 hl1 hlb c0 c6 fz1 hqe
                go_region_held3 (fun W' => Below W3.heap.size W3 W')
                  (first
                    | exact (Below.refl _ _).drew
                    | exact ((Below.refl _ _).alloc (Nat.le_refl _) _).drew
                    | exact hB5
                    | exact hB8)
                  (first
                    | (refine step_app1 rfl (.tmp 104) (.tmp 107) 58 rfl W3.heap.size 3 i0 (.int .i64 0) 8 Tryz.underlying58 hi hq0 hq1 hq2 rfl (.slice (some ⟨W3.heap.size, 0, none⟩) 0 0) 0 [] ?_ ?_ ⟨lb, 0, none⟩ q lcap' ((live.take q).map (Value.int .i64)) ?_ ?_ ?_ ?_ ?_ ?_ ?_ ?_
                       · simp [Act.eval, Act.put]; done
                       · exact own_none_d W3 3
                       · simp [Act.eval, Act.put]; done
                       · exact len_take hqn
                       · exact HS3.out _ ‹Below W3.heap.size W3 _›
                       · exact ints_one _
                       · unfold maxLen; omega
                       · omega
                       · exact (‹Below W3.heap.size W3 _›).size
                       intro v5 w5' hown5 hgrow5 hbel5
                       have hB5 : Below W3.heap.size W3 w5' := (‹Below W3.heap.size W3 _›).trans hbel5)
                    | (refine step_app1 rfl (.tmp 108) (.tmp 112) 58 rfl W3.heap.size 3 i0 (.int .i64 0) 8 Tryz.underlying58 hi hq0 hq1 hq2 rfl v5 (0 + q) ([] ++ (live.take q).map (Value.int .i64)) ?_ ?_ (if lcap' = q + 1 then ⟨lb, 0, none⟩ else ⟨lb, q + 1, none⟩) (live.length - (q + 1)) (lcap' - (q + 1)) ((live.drop (q + 1)).map (Value.int .i64)) ?_ ?_ ?_ ?_ ?_ ?_ ?_ ?_
                       · simp [Act.eval, Act.put]; done
                       · exact hown5
                       · simp [Act.eval, Act.put]; split <;> rfl
                       · exact len_drop _ _
                       · exact HS4.out _ ‹Below W3.heap.size W3 _›
                       · exact ints_one _
                       · unfold maxLen; omega
                       · omega
                       · exact (‹Below W3.heap.size W3 _›).size
                       intro v8 w8 hown8 hgrow8 hbel8
                       have hB8 : Below W3.heap.size W3 w8 := (‹Below W3.heap.size W3 _›).trans hbel8))
                all_goals
                  have hL9 := HLI.out.grow (w' := w8) (row_tx HRW.out) ⟨hB8.os, hB8.tape, hB8.output, hB8.size, fun k hk _ => hB8.block k hk⟩ (fun k hk => (HRW.out.lt k hk).1) (x' := v8.ownBlock) (fun k hk => .inr (hown8.lt k hk).1)
                  have hR9 : w8.ownsRow w.heap.size 3 1 v8 (live.take q ++ live.drop (q + 1)).length ((live.take q ++ live.drop (q + 1)).map (Value.int .i64)) := by
                    have := row_mono hown8 HLI.out.bel.size
                    rw [List.nil_append] at this
                    rw [List.length_append, List.length_take, List.length_drop, List.map_append, show min q live.length + (live.length - (q + 1)) = 0 + q + (live.length - (q + 1)) by omega]
                    exact this
                  have HN := Lib.hid (And.intro hL9 (And.intro HIW.out hR9))
                  clear hL9 hR9 hown8 hgrow8 hbel8 hB8 hown5 hgrow5 hbel5 hB5
                  go_wp2_with fail
                  all_goals
                    go_roundg og
                    case measure => omega
                    case rel => exact ⟨k + 1, i + 1, 1, next, _, _, _, rfl, by go_num, by go_num, by go_num, by omega, by omega, by omega, by omega, HN⟩
              · rw [if_neg hzn] at hK
                subst hK
                go_wp2_with (first | (refine wpList_store_mid rfl 39 _ _ rfl w5.heap.size 0 C rfl rfl HCT.out HCI.out HC1.out ?_; rw [hW1]; clear hW1) | (refine wpList_store_mid rfl 35 _ _ rfl rb 0 Z rfl HZ3.out.symm HTH.out HZI.out HZ2.out ?_; rw [hW2]; clear hW2))
                rw [hqe]
                clear HIV HTD HROW HCT HCI HC1 HTH HZI HZ HZ2 HZ3 hk3 h3b h3c hzn hgz hr1 hr2 hwi hwant hyc hend2 hl1 hlb c0 c6 fz1 hqe
                go_region_held3 (fun W' => Below W3.heap.size W3 W')
                  (first
                    | exact (Below.refl _ _).drew
                    | exact ((Below.refl _ _).alloc (Nat.le_refl _) _).drew
                    | exact hB5
                    | exact hB8)
                  (first
                    | (refine step_app1 rfl (.tmp 104) (.tmp 107) 58 rfl W3.heap.size 3 i0 (.int .i64 0) 8 Tryz.underlying58 hi hq0 hq1 hq2 rfl (.slice (some ⟨W3.heap.size, 0, none⟩) 0 0) 0 [] ?_ ?_ ⟨lb, 0, none⟩ q lcap' ((live.take q).map (Value.int .i64)) ?_ ?_ ?_ ?_ ?_ ?_ ?_ ?_
                       · simp [Act.eval, Act.put]; done
                       · exact own_none_d W3 3
                       · simp [Act.eval, Act.put]; done
                       · exact len_take hqn
                       · exact HS3.out _ ‹Below W3.heap.size W3 _›
                       · exact ints_one _
                       · unfold maxLen; omega
                       · omega
                       · exact (‹Below W3.heap.size W3 _›).size
                       intro v5 w5' hown5 hgrow5 hbel5
                       have hB5 : Below W3.heap.size W3 w5' := (‹Below W3.heap.size W3 _›).trans hbel5)
                    | (refine step_app1 rfl (.tmp 108) (.tmp 112) 58 rfl W3.heap.size 3 i0 (.int .i64 0) 8 Tryz.underlying58 hi hq0 hq1 hq2 rfl v5 (0 + q) ([] ++ (live.take q).map (Value.int .i64)) ?_ ?_ (if lcap' = q + 1 then ⟨lb, 0, none⟩ else ⟨lb, q + 1, none⟩) (live.length - (q + 1)) (lcap' - (q + 1)) ((live.drop (q + 1)).map (Value.int .i64)) ?_ ?_ ?_ ?_ ?_ ?_ ?_ ?_
                       · simp [Act.eval, Act.put]; done
                       · exact hown5
                       · simp [Act.eval, Act.put]; split <;> rfl
                       · exact len_drop _ _
                       · exact HS4.out _ ‹Below W3.heap.size W3 _›
                       · exact ints_one _
                       · unfold maxLen; omega
                       · omega
                       · exact (‹Below W3.heap.size W3 _›).size
                       intro v8 w8 hown8 hgrow8 hbel8
                       have hB8 : Below W3.heap.size W3 w8 := (‹Below W3.heap.size W3 _›).trans hbel8))
                all_goals
                  have hL9 := HLI.out.grow (w' := w8) (row_tx HRW.out) ⟨hB8.os, hB8.tape, hB8.output, hB8.size, fun k hk _ => hB8.block k hk⟩ (fun k hk => (HRW.out.lt k hk).1) (x' := v8.ownBlock) (fun k hk => .inr (hown8.lt k hk).1)
                  have hR9 : w8.ownsRow w.heap.size 3 1 v8 (live.take q ++ live.drop (q + 1)).length ((live.take q ++ live.drop (q + 1)).map (Value.int .i64)) := by
                    have := row_mono hown8 HLI.out.bel.size
                    rw [List.nil_append] at this
                    rw [List.length_append, List.length_take, List.length_drop, List.map_append, show min q live.length + (live.length - (q + 1)) = 0 + q + (live.length - (q + 1)) by omega]
                    exact this
                  have HN := Lib.hid (And.intro hL9 (And.intro HIW.out hR9))
                  clear hL9 hR9 hown8 hgrow8 hbel8 hB8 hown5 hgrow5 hbel5 hB5
                  go_wp2_with fail
                  all_goals
                    go_roundg og
                    case measure => omega
                    case rel => exact ⟨k + 1, i + 1, 1, next, _, _, _, rfl, by go_num, by go_num, by go_num, by omega, by omega, by omega, by omega, HN⟩
    · have hkx : (300 : Int) ≤ k := by omega
      have HBE := Lib.hid HI.out.1.bel
      clear HI
      go_wp2
      go_ret
      exact ⟨rfl, HBE.out⟩
end Go.Proofs.YtlhlehdajkoogaaGreatDoor
