/- The statements' small case. -/
import Derived.Test.YtlhlehdajkoogaaGreatDoorO
namespace Go.Proofs.YtlhlehdajkoogaaGreatDoor
open Go.RowKit

theorem Nw.below {w0 w w' : World} {prog s : ByteArray} {d : FuncId} {e : Ending} {l p pd pw : Nat} {v wv : Value} (h : Nw w0 w prog d s e l p pd pw v wv) (hb : Below w.heap.size w w') : Nw w0 w' prog d s e l p pd pw v wv := by
  have k := Kb.below hb
  exact ⟨h.ret, h.l.kb k, h.m.below hb, h.one.kb k, k _ _ _ (by decide) (by decide) h.pd, k _ _ _ (by decide) (by decide) h.pw, h.words.kb k, h.ge, h.bel.trans (hb.mono h.bel.size)⟩
/-- A program under way: it lies, and its call lies in a block of its own. -/
structure GW (w0 w : World) (l p : Nat) (m : Ma) (R : Ma → World → Prop) : Prop where
  lies : L w l p
  mach : M w p m
  st : R m w
  ge : w0.heap.size ≤ p
  bel : Below w0.heap.size w0 w
/-- The block that holds a call. -/
def Cal (w : World) (b : Nat) (C : Array Value) (p : Nat) : Prop := w.heap[b]? = some (.cells C 39 (0, 0)) ∧ p < b
theorem GW.next {w0 w w1 : World} {l p : Nat} {m : Ma} {R R1 : Ma → World → Prop} {e : Ending} (h : GW w0 w l p m R) (hn : NextP p w R1 e w1) : ∃ m1, e = .returned (.agg m1.c.cells) ∧ GW w0 w1 l p m1 R1 ∧ m1.told ∧ (∀ b C, Cal w b C p → Cal w1 b C p) := by
  obtain ⟨m1, he, h1, h2, h3, h4⟩ := hn
  exact ⟨m1, he, ⟨h.lies.kb (Kb.mo h.mach h3), h1, h4, h.ge, Mo.bel h.bel h3 h.ge (Nat.le_refl _)⟩, h2, fun b C hb => ⟨(h3.block b (lt_of_heap hb.1) (by have := hb.2; omega)).trans hb.1, hb.2⟩⟩
theorem GW.below {w0 w w1 : World} {l p : Nat} {m : Ma} {R : Ma → World → Prop} (h : GW w0 w l p m R) (hR : ∀ m' w1 w2, Kb w1 w2 → R m' w1 → R m' w2) (hb : Below w.heap.size w w1) : GW w0 w1 l p m R :=
  ⟨h.lies.kb (Kb.below hb), h.mach.below hb, hR _ _ _ (Kb.below hb) h.st, h.ge, h.bel.trans (hb.mono h.bel.size)⟩
theorem Cal.below {w w1 : World} {b p : Nat} {C : Array Value} (h : Cal w b C p) (hb : Below w.heap.size w w1) : Cal w1 b C p := ⟨(hb.block b (lt_of_heap h.1)).trans h.1, h.2⟩
theorem Nw.gw {w0 w : World} {prog s : ByteArray} {d : FuncId} {e : Ending} {l p pd pw : Nat} {v wv : Value} (h : Nw w0 w prog d s e l p pd pw v wv) : GW w0 w l p { prog := prog, todo := v, th := .nilFunc, c := { op := 0 } } (fun _ _ => True) := ⟨h.l, h.m, trivial, h.ge, h.bel⟩
def sGetty : ByteArray := ⟨#[103, 101, 116, 116, 121]⟩
def sTwo : ByteArray := ⟨#[50]⟩
def sAnn : ByteArray := ⟨#[97, 110, 110]⟩
def sAnnL : ByteArray := ⟨#[97, 110, 110, 10]⟩
set_option maxRecDepth 100000 in
set_option maxHeartbeats 8000000 in
theorem shown_any {w : World} : Calls Tryz.prog 10 #[] w fun e w' => e = .returned (.bool true) ∧ Below w.heap.size w w' := by
  have ha := alloc_heap w (.cells #[.string ⟨#[103, 101, 116, 116, 121]⟩, .string ⟨#[50]⟩] 9)
  have HB0 := Lib.hid (belowA (Below.refl w.heap.size w) (.cells #[.string ⟨#[103, 101, 116, 116, 121]⟩, .string ⟨#[50]⟩] 9))
  have HA := Lib.hid (lnew_any ⟨#[103, 101, 116, 116, 121]⟩ 45 (fun W => prog_getty W) ha)
  clear ha
  go_enter Tryz.func10, Tryz.ntmps10
  go_wp2_with fail
  refine HA.out.mono ?_
  rintro e w2 ⟨l, p, pd, pw, v, wv, hN⟩
  obtain rfl := hN.ret
  have HN := Lib.hid hN
  clear hN HA
  go_wp2_with fail
  refine ldog_any.mono ?_
  rintro e w3 ⟨rfl, hb⟩
  have HN3 := Lib.hid (HN.out.below hb)
  clear HN hb
  go_wp2_with fail
  have HG := Lib.hid HN3.out.gw
  refine (g1_any HN3.out rfl 2 (by omega) rfl {}).mono ?_
  intro e v4 h
  obtain ⟨m4, rfl, hg, htd, hcal⟩ := HG.out.next h
  obtain ⟨C4, hC⟩ : ∃ C, m4.c.cells = C := ⟨_, rfl⟩
  have hsz : C4.size = 20 := by rw [← hC]; rfl
  have hone : C4.all (·.oneCell') = true := by rw [← hC]; exact Ca.one _ htd.1.1 htd.1.2
  have F40 : Hid (C4[0]? = some (.int .i64 25)) := Lib.hid (by rw [← hC, hg.st.c]; rfl)
  have F46 : Hid (C4[6]? = some (.int .i64 2)) := Lib.hid (by rw [← hC, hg.st.c]; rfl)
  rw [hC]
  obtain ⟨W4, hW, hbk, hbel, hs, hT⟩ := stored_call (w := v4) (C := C4) hsz
  have K4 : Hid (Cal W4 v4.heap.size C4 p) := Lib.hid ⟨hbk, hg.mach.lt⟩
  have HG := Lib.hid (hg.below (fun m' w1 w2 k hh => hh.kb) hbel)
  have HI : Hid ((Tryz.prog.info? 39).map (·.size) = some C4.size) := Lib.hid (by rw [hsz]; rfl)
  have HO := Lib.hid hone
  have HT := Lib.hid hT
  clear h hg htd hcal hC hsz hone hbk hbel hs hT
  go_wp2_with (refine wpList_store_mid rfl 39 _ _ rfl v4.heap.size 0 C4 rfl rfl HT.out HI.out HO.out ?_; rw [hW]; clear hW)
  refine (g2_any HG.out.lies HG.out.mach HG.out.st {} rfl).mono ?_
  intro e v5 h
  obtain ⟨m5, rfl, hg, htd, hcal⟩ := HG.out.next h
  obtain ⟨C5, hC⟩ : ∃ C, m5.c.cells = C := ⟨_, rfl⟩
  have hsz : C5.size = 20 := by rw [← hC]; rfl
  have hone : C5.all (·.oneCell') = true := by rw [← hC]; exact Ca.one _ htd.1.1 htd.1.2
  have F50 : Hid (C5[0]? = some (.int .i64 5)) := Lib.hid (by rw [← hC, hg.st.c]; rfl)
  have F53 : Hid (C5[3]? = some (.string hello)) := Lib.hid (by rw [← hC, hg.st.c]; rfl)
  rw [hC]
  obtain ⟨W5, hW, hbk, hbel, hs, hT⟩ := stored_call (w := v5) (C := C5) hsz
  have K4 := Lib.hid ((hcal _ _ K4.out).below hbel)
  have K5 : Hid (Cal W5 v5.heap.size C5 p) := Lib.hid ⟨hbk, hg.mach.lt⟩
  have HG := Lib.hid (hg.below (fun m' w1 w2 k hh => hh.kb k) hbel)
  have HI : Hid ((Tryz.prog.info? 39).map (·.size) = some C5.size) := Lib.hid (by rw [hsz]; rfl)
  have HO := Lib.hid hone
  have HT := Lib.hid hT
  clear h hg htd hcal hC hsz hone hbk hbel hs hT
  go_wp2_with (refine wpList_store_mid rfl 39 _ _ rfl v5.heap.size 0 C5 rfl rfl HT.out HI.out HO.out ?_; rw [hW]; clear hW)
  refine (g3_any HG.out.lies HG.out.mach HG.out.st { n := 7 } rfl (show (1 : Int) ≤ 7 by omega) (show ((7 : Nat) : Int) ≤ 7 by omega)).mono ?_
  intro e v6 h
  obtain ⟨m6, rfl, hg, htd, hcal⟩ := HG.out.next h
  obtain ⟨C6, hC⟩ : ∃ C, m6.c.cells = C := ⟨_, rfl⟩
  have hsz : C6.size = 20 := by rw [← hC]; rfl
  have hone : C6.all (·.oneCell') = true := by rw [← hC]; exact Ca.one _ htd.1.1 htd.1.2
  have F60 : Hid (C6[0]? = some (.int .i64 4)) := Lib.hid (by rw [← hC, hg.st.c]; rfl)
  rw [hC]
  obtain ⟨W6, hW, hbk, hbel, hs, hT⟩ := stored_call (w := v6) (C := C6) hsz
  have K4 := Lib.hid ((hcal _ _ K4.out).below hbel)
  have K5 := Lib.hid ((hcal _ _ K5.out).below hbel)
  have K6 : Hid (Cal W6 v6.heap.size C6 p) := Lib.hid ⟨hbk, hg.mach.lt⟩
  have HG := Lib.hid (hg.below (fun m' w1 w2 k hh => hh.kb) hbel)
  have HI : Hid ((Tryz.prog.info? 39).map (·.size) = some C6.size) := Lib.hid (by rw [hsz]; rfl)
  have HO := Lib.hid hone
  have HT := Lib.hid hT
  clear h hg htd hcal hC hsz hone hbk hbel hs hT
  go_wp2_with (refine wpList_store_mid rfl 39 _ _ rfl v6.heap.size 0 C6 rfl rfl HT.out HI.out HO.out ?_; rw [hW]; clear hW)
  refine (g4_any HG.out.lies HG.out.mach HG.out.st { text := sAnnL } rfl (show 4 ≤ 9223372036854775807 by omega) (by rw [ByteArray.toList_eq]; rfl) sAnn rfl (by rw [ByteArray.toList_eq]; rfl)).mono ?_
  intro e v7 h
  obtain ⟨m7, rfl, hg, htd, hcal⟩ := HG.out.next h
  obtain ⟨C7, hC⟩ : ∃ C, m7.c.cells = C := ⟨_, rfl⟩
  have hsz : C7.size = 20 := by rw [← hC]; rfl
  have hone : C7.all (·.oneCell') = true := by rw [← hC]; exact Ca.one _ htd.1.1 htd.1.2
  obtain ⟨bx, hx1, hx2⟩ := hg.st
  have F70 : Hid (C7[0]? = some (.int .i64 19)) := Lib.hid (by rw [← hC, hx1]; rfl)
  have F7a : Hid (C7[18]? = some (.slice (some ⟨bx, 0, none⟩) 2 2)) := Lib.hid (by rw [← hC, hx1]; rfl)
  rw [hC]
  obtain ⟨W7, hW, hbk, hbel, hs, hT⟩ := stored_call (w := v7) (C := C7) hsz
  have K4 := Lib.hid ((hcal _ _ K4.out).below hbel)
  have K5 := Lib.hid ((hcal _ _ K5.out).below hbel)
  have K6 := Lib.hid ((hcal _ _ K6.out).below hbel)
  have K7 : Hid (Cal W7 v7.heap.size C7 p) := Lib.hid ⟨hbk, hg.mach.lt⟩
  have HG := Lib.hid (hg.below (fun m' w1 w2 k hh => hh.kb k) hbel)
  have HI : Hid ((Tryz.prog.info? 39).map (·.size) = some C7.size) := Lib.hid (by rw [hsz]; rfl)
  have HO := Lib.hid hone
  have HT := Lib.hid hT
  have HX := Lib.hid ((hbel.block bx (lt_of_heap hx2)).trans hx2)
  clear h hg htd hcal hC hsz hone hbk hbel hs hT hx1 hx2
  have y40 : W7.cell? ⟨v4.heap.size, 0, none⟩ = some (.int .i64 25) := (cell_of K4.out.1 0).trans F40.out
  have y46 : W7.cell? ⟨v4.heap.size, 6, none⟩ = some (.int .i64 2) := (cell_of K4.out.1 6).trans F46.out
  have y50 : W7.cell? ⟨v5.heap.size, 0, none⟩ = some (.int .i64 5) := (cell_of K5.out.1 0).trans F50.out
  have y53 : W7.cell? ⟨v5.heap.size, 3, none⟩ = some (.string hello) := (cell_of K5.out.1 3).trans F53.out
  have y60 : W7.cell? ⟨v6.heap.size, 0, none⟩ = some (.int .i64 4) := (cell_of K6.out.1 0).trans F60.out
  have y70 : W7.cell? ⟨v7.heap.size, 0, none⟩ = some (.int .i64 19) := (cell_of K7.out.1 0).trans F70.out
  have y7a : W7.cell? ⟨v7.heap.size, 18, none⟩ = some (.slice (some ⟨bx, 0, none⟩) 2 2) := (cell_of K7.out.1 18).trans F7a.out
  have yx : W7.cell? ⟨bx, 1, none⟩ = some (.string sAnn) := cell_of HX.out 1
  have HB := Lib.hid (HB0.out.trans (HG.out.bel.mono HB0.out.size))
  unfold hello at y53
  unfold sAnn at yx
  go_wp2_with (refine wpList_store_mid rfl 39 _ _ rfl v7.heap.size 0 C7 rfl rfl HT.out HI.out HO.out ?_; rw [hW]; clear hW)
  go_ret
  exact ⟨rfl, HB.out⟩
end Go.Proofs.YtlhlehdajkoogaaGreatDoor
