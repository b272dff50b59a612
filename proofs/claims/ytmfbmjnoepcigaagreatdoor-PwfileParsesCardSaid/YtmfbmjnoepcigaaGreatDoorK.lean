/- Print. -/
import Derived.Test.YtmfbmjnoepcigaaGreatDoorJ
import Derived.Test.YtmfbmjnoepcigaaGreatDoorW
namespace Go.Proofs.YtmfbmjnoepcigaaGreatDoor
open Go.RowKit

theorem own_below {w w' : World} {B n sz : Nat} {e : TypeId} {v : Value} {xs : List Value} (h : w.ownsRow B e sz v n xs) (hb : Below w.heap.size w w') : w'.ownsRow B e sz v n xs := by
  obtain ⟨h1, ⟨h2, h3⟩ | ⟨g, cap, cur, h2, hB, hh, rest⟩⟩ := h
  · exact ⟨h1, .inl ⟨h2, h3⟩⟩
  · exact ⟨h1, .inr ⟨g, cap, cur, h2, hB, below_heap hb hh, rest⟩⟩
theorem builder_below {w w' : World} {B b : Nat} {bs : List Value} {p : Value} (h : Lib.BuilderAt 47 5 B b p bs w) (hb : Below w.heap.size w w') : Lib.BuilderAt 47 5 B b p bs w' := by
  obtain ⟨h1, v, h2, h3, h4⟩ := h
  exact ⟨h1, v, below_heap hb h2, own_below h3 hb, h4⟩
theorem isB_below {w w' : World} {B b : Nat} {bs : List Value} (h : Lib.IsBuilder 47 5 B b bs w) (hb : Below w.heap.size w w') : Lib.IsBuilder 47 5 B b bs w' := by
  rcases h with h | h
  · exact .inl (builder_below h hb)
  · exact .inr (builder_below h hb)
theorem isB_new (w : World) : Lib.IsBuilder 47 5 w.heap.size w.heap.size (Lib.byteCells []) (w.alloc (.cells #[.pointer none, .slice none 0 0] 47)) :=
  .inl ⟨Nat.le_refl _, .slice none 0 0, at_new w _, ⟨rfl, .inl ⟨rfl, rfl⟩⟩, by simp [Value.ownBlock]⟩
theorem bytes_app (l m : Bytes) : Lib.byteCells l ++ Lib.byteCells m = Lib.byteCells (l ++ m) := by simp [Lib.byteCells]
theorem print_len : ∀ (L : List UserS), (∀ u ∈ L, mayB u = true) → (printB L).length ≤ 301 * L.length
  | [], _ => by simp [printB]
  | u :: L, h => by
    have h1 := line_len (h u (by simp))
    have h2 := print_len L (fun v hv => h v (by simp [hv]))
    rw [printB_cons]
    simp only [List.length_append, List.length_cons]
    omega
theorem print_take {L : List UserS} {k : Nat} (hk : k < L.length) : printB (L.take (k + 1)) = printB (L.take k) ++ (lineB L[k] ++ [10]) := by
  rw [List.take_succ_eq_append_getElem hk, printB_snoc, List.append_assoc]
/-- What Print tells. -/
def printS (L : List UserS) : ByteArray := if rightB L = true then ⟨(printB L).toArray⟩ else ⟨#[]⟩
set_option maxHeartbeats 4000000 in
set_option maxRecDepth 100000 in
theorem print_any (v : Value) (L : List UserS) (w : World) (hF : InU w v L) (hn : L.length ≤ 140737488355328) (hS : ∀ u ∈ L, SzU u) (hW : HasW w) :
    Calls Tryz.prog 12 #[v] w fun e w' => e = .returned (.string (printS L)) ∧ Below w.heap.size w w' := by
  have HR := Lib.hid (right_any v L w hF hn hS)
  obtain ⟨a, cap, rfl, hc⟩ := hF
  have HF : Hid (InU w (.slice a L.length cap) L) := Lib.hid ⟨a, cap, rfl, hc⟩
  have HW := Lib.hid hW
  clear hc hS hW
  have hn1 : (L.length : Int) ≤ 140737488355328 := by omega
  clear hn
  cases hr : rightB L with
  | false =>
    have HP : Hid (printS L = ⟨#[]⟩) := Lib.hid (by unfold printS; rw [hr]; rfl)
    rw [hr] at HR
    clear hr
    go_enter Tryz.func12, Tryz.ntmps12
    go_wp2_with fail
    refine HR.out.mono ?_
    rintro e w1 ⟨rfl, hb⟩
    have HB := Lib.hid hb
    clear hb
    go_wp2
    go_ret
    exact ⟨by rw [HP.out]; rfl, HB.out⟩
  | true =>
    have HP : Hid (printS L = ⟨(printB L).toArray⟩) := Lib.hid (by unfold printS; rw [if_pos hr])
    have HRU := Lib.hid ((rightB_iff L).1 hr)
    rw [hr] at HR
    clear hr
    go_enter Tryz.func12, Tryz.ntmps12
    go_wp2_with fail
    refine HR.out.mono ?_
    rintro e w1 ⟨rfl, hb⟩
    have HB := Lib.hid hb
    clear hb
    go_wp2
    have hI := isB_new w1
    have hb2 : Below w1.heap.size w1 (w1.alloc (.cells #[.pointer none, .slice none 0 0] 47)) := (Below.refl _ _).alloc (Nat.le_refl _) _
    have HB2 := Lib.hid (HB.out.trans (hb2.mono HB.out.size))
    have HLE := Lib.hid HB.out.size
    have HI := Lib.hid hI
    have HLE2 := Lib.hid hb2.size
    clear hI hb2
    generalize w1.alloc (.cells #[.pointer none, .slice none 0 0] 47) = W2 at *
    generalize w1.heap.size = B0 at *
    go_loopw [5, 11] (fun v5 v11 wr => ∃ k : Nat, k ≤ L.length ∧ v11 = .int .i64 k ∧ Hid (Below w.heap.size w wr ∧ B0 ≤ wr.heap.size ∧ Lib.IsBuilder 47 5 B0 B0 (Lib.byteCells (printB (L.take k))) wr)) (fun v5 v11 _ => L.length - (intOf v11).toNat)
    case atStart => exact ⟨0, Nat.zero_le _, rfl, Lib.hid ⟨HB2.out, HLE2.out, by rw [List.take_zero]; exact HI.out⟩⟩
    case round =>
      obtain ⟨k, hk, rfl, HH⟩ := hrel
      by_cases hlt : k < L.length
      · have hlt1 : (k : Int) < L.length := by omega
        obtain ⟨b, off, rfl, hu⟩ := HF.out.uc HH.out.1 hlt
        have hm := HRU.out.may _ (List.getElem_mem hlt)
        have hpt := print_take hlt
        have hpl : (printB (L.take k)).length ≤ 301 * 8 := by
          have h1 := print_len (L.take k) (fun u hu => HRU.out.may u (List.mem_of_mem_take hu))
          have h2 := HRU.out.len
          simp only [List.length_take] at h1
          omega
        generalize L[k] = f at *
        have HM := Lib.hid (mayP hm)
        have HLL := Lib.hid (line_len hm)
        have HPT := Lib.hid hpt
        have HPL := Lib.hid hpl
        obtain ⟨g0, g1, g2, g3, g4, g5⟩ := hu
        clear hm hpt hpl
        go_upto_region 7 with fail
        have hw4 : Below wr.heap.size wr (wr.alloc (.cells (userC f) 29)) := (Below.refl _ _).alloc (Nat.le_refl _) _
        have hu4 : UC (wr.alloc (.cells (userC f) 29)) wr.heap.size 0 f := box_six (u := 29) (Below.refl _ _)
        have HB4 := Lib.hid (HH.out.1.trans (hw4.mono HH.out.1.size))
        have HI4 := Lib.hid (isB_below HH.out.2.2 hw4)
        have HL4 := Lib.hid (Nat.le_trans HH.out.2.1 hw4.size)
        clear hw4
        have hW : ∃ W4, wr.alloc (.cells (userC f) 29) = W4 := ⟨_, rfl⟩
        obtain ⟨W4, hW4⟩ := hW
        rw [hW4] at hu4 HB4 HI4 HL4
        have hW4' : wr.alloc (.cells #[.string f.name, .string f.pass, .int .i64 f.id, .int .i64 f.group, .string f.home, .string f.shell] 29) = W4 := hW4
        rw [hW4']
        obtain ⟨c0, c1, c2, c3, c4, c5⟩ := hu4.at0
        clear hu4 hW4 hW4' g0 g1 g2 g3 g4 g5
        have HLN := Lib.hid (line_any f W4 (HW.out.below HB4.out) HM.out.id0 HM.out.id1 HM.out.g0 HM.out.g1 (by have := HLL.out; omega))
        obtain ⟨R, hR⟩ : ∃ R : ByteArray, ⟨(lineB f).toArray⟩ = R := ⟨_, rfl⟩
        rw [hR] at HLN
        have hRd : R.data.toList = lineB f := by rw [← hR]
        have hRs : R.size ≤ 300 := by have := HLL.out; rw [← hRd, sz] at this; exact this
        have HRD := Lib.hid hRd
        have hRs1 : (R.size : Int) ≤ 300 := by omega
        clear hR hRd
        go_wp2_with fail
        refine HLN.out.mono ?_
        rintro e w5 ⟨rfl, hb⟩
        have HI5 := Lib.hid (isB_below HI4.out hb)
        have HB5 := Lib.hid (HB4.out.trans (hb.mono HB4.out.size))
        have HL5 := Lib.hid (Nat.le_trans HL4.out hb.size)
        clear hb c0 c1 c2 c3 c4 c5 HLN
        have hws := Tryz.Builder_WriteString_h B0 B0 (Lib.byteCells (printB (L.take k))) (R ++ ⟨#[10]⟩) w5 HI5.out (by rw [Lib.byteCells_length, ByteArray.size_append]; have := HPL.out; have e9 : ({ data := #[10] } : ByteArray).size = 1 := rfl; omega) HL5.out
        have HWS := Lib.hid hws
        clear hws
        go_wp2_with fail
        refine HWS.out.mono ?_
        rintro e w6 ⟨rfl, hbld, hb⟩
        have HB6 := Lib.hid (HB5.out.trans (hb.mono HLE.out))
        have HI6 : Hid (Lib.IsBuilder 47 5 B0 B0 (Lib.byteCells (printB (L.take (k + 1)))) w6) := Lib.hid (.inr (by
          rw [Lib.strCells_eq, ByteArray.data_append, Array.toList_append, HRD.out, bytes_app] at hbld
          rw [HPT.out]
          exact hbld))
        have HL6 := Lib.hid (Nat.le_trans HL5.out hb.size)
        clear hb hbld HWS
        go_wp2
        go_roundw
        case rel => exact ⟨k + 1, by omega, by go_num, Lib.hid ⟨HB6.out, HL6.out, HI6.out⟩⟩
        case measure => simp [intOf]; omega
      · have hlt1 : ¬ (k : Int) < L.length := by omega
        have hIE : Lib.IsBuilder 47 5 B0 B0 (Lib.byteCells (printB L)) wr := by
          have := HH.out.2.2
          rwa [List.take_of_length_le (by omega)] at this
        have HST := Lib.hid (Tryz.Builder_String_any B0 B0 (printB L) wr hIE HH.out.2.1)
        clear hIE
        go_wp2_with fail
        refine HST.out.mono ?_
        rintro e w7 ⟨rfl, hb⟩
        have HB7 := Lib.hid (HH.out.1.trans (hb.mono HLE.out))
        clear hb HST
        go_wp2
        go_ret
        exact ⟨by rw [HP.out]; rfl, HB7.out⟩
end Go.Proofs.YtmfbmjnoepcigaaGreatDoor
