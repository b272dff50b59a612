/- Back: what is written is read as it was. -/
import Derived.Test.YtmfbmjnoepcigaaDoorV
namespace Go.Proofs.YtmfbmjnoepcigaaDoor
open Go.RowKit

theorem set_names (p : ByteArray) (L : List UserS) (k : Nat) (hk : k < L.length) : namesU (L.set k (passU p L[k])) = namesU L := by
  unfold namesU
  rw [List.map_set]
  have : (passU p L[k]).name = (L.map (·.name))[k]'(by simpa using hk) := by simp [passU]
  rw [this, List.set_getElem_self]
theorem passU_sz {p : ByteArray} {u : UserS} (h : SzU u) (hp : p.size ≤ 140737488351232) : SzU (passU p u) := ⟨h.name, hp, h.home, h.shell⟩
theorem right_parse {s : ByteArray} {L : List UserS} (h : RightU L) (hs : s.data.toList = printB L) : parseR s.data.toList = (L, 0, 0) := by
  have hl := print_len L h.may
  have h8 := h.len
  rw [hs]
  exact parse_ok (by omega) (parse_of h 1)
theorem right_short {s : ByteArray} {L : List UserS} (h : RightU L) (h0 : L ≠ []) (hs : s.data.toList = printB L) : parseR (s.extract 0 (s.size - 1)).data.toList = ([], L.length, 17) := by
  have hl := print_len L h.may
  have h8 := h.len
  have e : (s.extract 0 (s.size - 1)).data.toList = (printB L).take ((printB L).length - 1) := by
    rw [ex_data, List.drop_zero, hs, ← hs, sz]
  rw [e]
  exact parse_err (by rw [List.length_take]; omega) (parse_short h h0)
theorem print_data {L : List UserS} (h : RightU L) : (printS L).data.toList = printB L := by
  unfold printS
  rw [if_pos ((rightB_iff L).2 h)]
theorem print_small {L : List UserS} (h : RightU L) : (printS L).size ≤ 2408 := by
  have := print_len L h.may
  have h8 := h.len
  rw [← sz, print_data h]; omega
theorem print_pos {L : List UserS} (h : RightU L) (h0 : L ≠ []) : 0 < (printS L).size := by
  rw [← sz, print_data h]
  cases L with
  | nil => exact absurd rfl h0
  | cons u M => rw [printB_cons, List.length_append, List.length_cons]; omega
theorem change_at {x p : ByteArray} {L : List UserS} {k : Nat} (hk : k < L.length) (hn : (namesU L).Nodup) (hx : L[k].name = x) {w w' : World} {e : Ending} (h : ChangeP x p L w e w') :
    Below w.heap.size w w' ∧ ∃ v, e = .returned (.tuple #[v, .bool true]) ∧ OwnU w' w.heap.size v (L.set k (passU p L[k])) := by
  obtain ⟨hb, ⟨j, hj, h1, h2, h3⟩ | ⟨h1, _⟩⟩ := h
  · have e1 := findU_first hj h1 h2
    have e2 := nodup_first hn k hk
    rw [hx] at e2
    rw [e2] at e1
    obtain rfl : k = j := by omega
    exact ⟨hb, h3⟩
  · have := h1 _ (List.getElem_mem hk)
    rw [isName, hx] at this
    simp at this
theorem find_at {x : ByteArray} {L : List UserS} {k : Nat} (hk : k < L.length) (hn : (namesU L).Nodup) (hx : L[k].name = x) {w w' : World} {e : Ending} (h : FoundP (isName x) L w e w') :
    Below w.heap.size w w' ∧ e = .returned (.tuple #[.agg (userC L[k]), .bool true]) := by
  obtain ⟨hb, ⟨j, hj, h1, h2, h3⟩ | ⟨h1, _⟩⟩ := h
  · have e1 := findU_first hj h1 h2
    have e2 := nodup_first hn k hk
    rw [hx] at e2
    rw [e2] at e1
    obtain rfl : k = j := by omega
    exact ⟨hb, h3⟩
  · have := h1 _ (List.getElem_mem hk)
    rw [isName, hx] at this
    simp at this
set_option maxHeartbeats 8000000 in
set_option maxRecDepth 100000 in
theorem back_law (v : Value) (L : List UserS) (which : Int) (p : ByteArray) (w : World) (hF : InU w v L) (hn : L.length ≤ 140737488355328) (hS : ∀ u ∈ L, SzU u) (hp : p.size ≤ 140737488351232)
    (hw0 : -9223372036854775808 ≤ which) (hw1 : which ≤ 9223372036854775807) (hW : HasW w) :
    Calls Tryd.prog 6 #[v, .int .i64 which, .string p] w fun e w' => e = .returned (.bool true) ∧ Below w.heap.size w w' := by
  obtain ⟨a, c, rfl, hc⟩ := hF
  have HF : Hid (InU w (.slice a L.length c) L) := Lib.hid ⟨a, c, rfl, hc⟩
  have HW := Lib.hid hW
  have HSH := Lib.hid (shown_any w hW)
  have HS := Lib.hid hS
  have HN := Lib.hid hn
  have HP := Lib.hid hp
  have HWH := Lib.hid (And.intro hw0 hw1)
  clear hc hW hS hn hp hw0 hw1
  go_enter Tryd.func6, Tryd.ntmps6
  go_wp2_with fail
  refine HSH.out.mono ?_
  rintro e w1 ⟨rfl, hb⟩
  have HB1 := Lib.hid hb
  clear hb HSH
  have HC := Lib.hid (right_any _ L w1 (HF.out.below HB1.out) HN.out HS.out)
  go_wp2_with fail
  refine HC.out.mono ?_
  rintro e w2 ⟨rfl, hb⟩
  have HB2 := Lib.hid (HB1.out.trans (hb.mono HB1.out.size))
  clear hb HC HB1
  have HC := Lib.hid (print_any _ L w2 (HF.out.below HB2.out) HN.out HS.out (HW.out.below HB2.out))
  cases hr : rightB L with
  | false =>
    have hp0 : printS L = ⟨#[]⟩ := by unfold printS; rw [hr]; rfl
    rw [hp0] at HC
    clear hr hp0
    go_wp2_with fail
    refine HC.out.mono ?_
    rintro e w3 ⟨rfl, hb⟩
    have HB3 := Lib.hid (HB2.out.trans (hb.mono HB2.out.size))
    clear hb HC
    go_wp2
    go_ret
    exact ⟨rfl, HB3.out⟩
  | true =>
    have HR := Lib.hid ((rightB_iff L).1 hr)
    have HSD := Lib.hid (print_data HR.out)
    have HSM := Lib.hid (print_small HR.out)
    have HSP := Lib.hid (fun h0 => print_pos HR.out h0)
    clear hr
    generalize printS L = s at *
    go_wp2_with fail
    refine HC.out.mono ?_
    rintro e w3 ⟨rfl, hb⟩
    have HB3 := Lib.hid (HB2.out.trans (hb.mono HB2.out.size))
    clear hb HC HB2
    have HC := Lib.hid (parse_any s w3 (HW.out.below HB3.out))
    go_wp2_with fail
    refine HC.out.mono ?_
    rintro e w4 ⟨v4, rfl, ho, hb⟩
    have HB4 := Lib.hid (HB3.out.trans (hb.mono HB3.out.size))
    clear hb HC HB3
    rw [right_parse HR.out HSD.out] at ho
    rw [right_parse HR.out HSD.out]
    obtain ⟨a4, c4, rfl⟩ := ho.form
    have HC := Lib.hid (same_any _ _ L L w4 (HF.out.below HB4.out) (own_inU ho) HN.out HN.out)
    clear ho
    go_wp2_with fail
    refine HC.out.mono ?_
    rintro e w5 ⟨rfl, hb⟩
    have HB5 := Lib.hid (HB4.out.trans (hb.mono HB4.out.size))
    clear hb HC HB4
    have hdd : (decide True) = true := rfl
    rw [hdd]
    by_cases h0 : L = []
    · have he : s.toList.isEmpty = true := by rw [toList_data, HSD.out, h0]; rfl
      subst h0
      go_wp2
      go_ret
      exact ⟨rfl, HB5.out⟩
    · have hl0 : ((L.length : Int) == 0) = false := by
        have : L.length ≠ 0 := fun h => h0 (List.length_eq_zero_iff.1 h)
        simp; omega
      have hs0 : 0 < s.size := HSP.out h0
      have hs1 : (s.size : Int) ≤ 2408 := by have := HSM.out; omega
      have hs2 : ((s.size : Int) - 1).toNat = s.size - 1 := by omega
      have hs3 : ¬ (s.size : Int) < (s.size : Int) - 1 := by omega
      have hs4 : ¬ (s.size : Int) - 1 < 0 := by omega
      have HC := Lib.hid (parse_any (s.extract 0 (s.size - 1)) w5 (HW.out.below HB5.out))
      have HSH := Lib.hid (right_short HR.out h0 HSD.out)
      have HL0 := Lib.hid h0
      clear h0
      go_wp2_with fail
      refine HC.out.mono ?_
      rintro e w6 ⟨v6, rfl, ho, hb⟩
      have HB6 := Lib.hid (HB5.out.trans (hb.mono HB5.out.size))
      clear hb HC HB5
      rw [HSH.out] at ho
      rw [HSH.out]
      obtain ⟨a6, c6, rfl⟩ := ho.form
      clear ho hs0 hs1 hs2 hs3 hs4 HSH
      go_upto_if 95 with fail
      go_cut [1] from 94 to 98 (fun v1 wx => wx = w6 ∧ ∃ m : Nat, v1 = .int .i64 m)
      case first =>
        by_cases hneg : which < 0
        · have hwr : wrap64 (which + 1) = which + 1 := by have := HWH.out; unfold wrap64; omega
          have hwn : wrap64 (-(which + 1)) = -(which + 1) := by have := HWH.out; unfold wrap64; omega
          have HZ : Hid (((-(which + 1)).toNat : Int) = -(which + 1)) := Lib.hid (by omega)
          go_wp2
          go_meet
          exact ⟨rfl, (-(which + 1)).toNat, by rw [HZ.out, hwn]⟩
        · have HZ : Hid ((which.toNat : Int) = which) := Lib.hid (by omega)
          go_wp2
          go_meet
          exact ⟨rfl, which.toNat, by rw [HZ.out]⟩
      case rest =>
        obtain ⟨hwx, m, rfl⟩ := hcut
        subst hwx
        have hpos : 0 < L.length := by
          rcases Nat.eq_zero_or_pos L.length with h | h
          · exact absurd (List.length_eq_zero_iff.1 h) HL0.out
          · exact h
        have hk : m % L.length < L.length := Nat.mod_lt _ hpos
        have hrem : (m : Int).tmod L.length = ((m % L.length : Nat) : Int) := by rw [Int.tmod_eq_emod_of_nonneg (by omega)]; rfl
        have hl1 : ¬ (L.length : Int) = 0 := by omega
        generalize m % L.length = k at *
        have hk1 : (k : Int) < L.length := by omega
        have hk0 : ¬ (k : Int) < 0 := by omega
        obtain ⟨b, off, rfl, hu⟩ := HF.out.uc HB6.out hk
        have h8 := HR.out.len
        have HCH := Lib.hid (change_any _ L L[k].name p wc (HF.out.below HB6.out) (by omega))
        have HAT2 : Hid (∀ e w', ChangeP L[k].name p L wc e w' → Below wc.heap.size wc w' ∧ ∃ v, e = .returned (.tuple #[v, .bool true]) ∧ OwnU w' wc.heap.size v (L.set k (passU p L[k]))) := Lib.hid (fun e w' h => change_at hk HR.out.nodup rfl h)
        have HND : Hid ((namesU (L.set k (passU p L[k]))).Nodup) := Lib.hid (by rw [set_names]; exact HR.out.nodup)
        have HLL : Hid ((L.set k (passU p L[k])).length = L.length) := Lib.hid (by rw [List.length_set])
        have HSS : Hid (∀ u ∈ L.set k (passU p L[k]), SzU u) := Lib.hid (fun u hu => by
          rcases List.mem_or_eq_of_mem_set hu with h | h
          · exact HS.out u h
          · rw [h]; exact passU_sz (HS.out _ (List.getElem_mem hk)) HP.out)
        have HGET : Hid ((L.set k (passU p L[k]))[k]? = some (passU p L[k])) := Lib.hid (List.getElem?_set_self hk)
        have HK := Lib.hid hk
        have H8 := Lib.hid h8
        have HUC := Lib.hid hu
        clear h8
        generalize L[k]'hk = f at *
        obtain ⟨g0, g1, g2, g3, g4, g5⟩ := hu
        clear hpos hk
        go_wp2_with fail
        refine HCH.out.mono ?_
        rintro e w7 hch
        obtain ⟨hb, v7, rfl, ho7⟩ := HAT2.out _ _ hch
        have HB7 := Lib.hid (HB6.out.trans (hb.mono HB6.out.size))
        have HU7 := Lib.hid (HUC.out.below hb)
        generalize L.set k (passU p f) = M at *
        have HM7 := Lib.hid (own_inU ho7)
        obtain ⟨a7, c7, rfl⟩ := ho7.form
        clear hb ho7 hch HCH HAT2 HUC g0 g1 g2 g3 g4 g5
        obtain ⟨g0, g1, g2, g3, g4, g5⟩ := HU7.out
        have hkM : k < M.length := by rw [HLL.out]; exact HK.out
        have hMk : M[k]'hkM = passU p f := by
          have := HGET.out
          rw [List.getElem?_eq_getElem hkM] at this
          exact Option.some.inj this
        have HFI := Lib.hid (find_any _ M f.name w7 HM7.out (by have := HLL.out; have := H8.out; omega))
        have HFA : Hid (∀ e w', FoundP (isName f.name) M w7 e w' → Below w7.heap.size w7 w' ∧ e = .returned (.tuple #[.agg (userC (M[k]'hkM)), .bool true])) := Lib.hid (fun e w' h => find_at hkM HND.out (by rw [hMk]; rfl) h)
        rw [hMk] at HFA
        clear hkM hMk
        go_wp2_with fail
        refine HFI.out.mono ?_
        rintro e w8 hf
        obtain ⟨hb, rfl⟩ := HFA.out _ _ hf
        have HB8 := Lib.hid (HB7.out.trans (hb.mono HB7.out.size))
        have HM8 := Lib.hid (HM7.out.below hb)
        clear hb hf HFI HFA g0 g1 g2 g3 g4 g5 HU7
        have hb9 : Below w8.heap.size w8 (w8.alloc (.cells (userC (passU p f)) 33)) := (Below.refl _ _).alloc (Nat.le_refl _) _
        have HB9 := Lib.hid (HB8.out.trans (hb9.mono HB8.out.size))
        have HM9 := Lib.hid (HM8.out.below hb9)
        clear hb9
        unfold passU userC at *
        have hne : ((M.length : Int) != (L.length : Int)) = false := by rw [HLL.out]; simp
        have HLM : Hid (M.length ≤ 140737488355328) := Lib.hid (by have := HLL.out; have := H8.out; omega)
        go_upto_region 19 with fail
        generalize w8.alloc (.cells #[.string f.name, .string p, .int .i64 f.id, .int .i64 f.group, .string f.home, .string f.shell] 33) = w9 at *
        have HC := Lib.hid (right_any _ M w9 HM9.out HLM.out HSS.out)
        go_wp2_with fail
        refine HC.out.mono ?_
        rintro e w10 ⟨rfl, hb⟩
        have HB10 := Lib.hid (HB9.out.trans (hb.mono HB9.out.size))
        have HM10 := Lib.hid (HM9.out.below hb)
        clear hb HC HM9 HB9
        cases hr : rightB M with
        | false =>
          clear hr
          go_wp2
          go_ret
          exact ⟨rfl, HB10.out⟩
        | true =>
          have HR2 := Lib.hid ((rightB_iff M).1 hr)
          have HPD := Lib.hid (print_data HR2.out)
          clear hr
          have HC := Lib.hid (print_any _ M w10 HM10.out HLM.out HSS.out (HW.out.below HB10.out))
          generalize printS M = s2 at *
          go_wp2_with fail
          refine HC.out.mono ?_
          rintro e w11 ⟨rfl, hb⟩
          have HB11 := Lib.hid (HB10.out.trans (hb.mono HB10.out.size))
          have HM11 := Lib.hid (HM10.out.below hb)
          clear hb HC HM10 HB10
          have HC := Lib.hid (parse_any s2 w11 (HW.out.below HB11.out))
          go_wp2_with fail
          refine HC.out.mono ?_
          rintro e w12 ⟨v12, rfl, ho, hb⟩
          have HB12 := Lib.hid (HB11.out.trans (hb.mono HB11.out.size))
          have HM12 := Lib.hid (HM11.out.below hb)
          clear hb HC HM11 HB11
          rw [right_parse HR2.out HPD.out] at ho
          rw [right_parse HR2.out HPD.out]
          obtain ⟨a12, c12, rfl⟩ := ho.form
          have HC := Lib.hid (same_any _ _ M M w12 HM12.out (own_inU ho) HLM.out HLM.out)
          clear ho
          go_wp2_with fail
          refine HC.out.mono ?_
          rintro e w13 ⟨rfl, hb⟩
          have HB13 := Lib.hid (HB12.out.trans (hb.mono HB12.out.size))
          clear hb HC HM12 HB12
          rw [hdd]
          go_wp2
          go_ret
          exact ⟨rfl, HB13.out⟩
theorem i64_low {a : Int} (h : (Lit.int .i64 a).wf = true) : -9223372036854775808 ≤ a := by
  simp only [Lit.wf, Bool.and_eq_true, decide_eq_true_eq] at h
  have h2 : (-9223372036854775808 : Int) ≤ a ∧ a ≤ 9223372036854775807 := h
  omega
theorem i64_high {a : Int} (h : (Lit.int .i64 a).wf = true) : a ≤ 9223372036854775807 := by
  simp only [Lit.wf, Bool.and_eq_true, decide_eq_true_eq] at h
  have h2 : (-9223372036854775808 : Int) ≤ a ∧ a ≤ 9223372036854775807 := h
  omega
end Go.Proofs.YtmfbmjnoepcigaaDoor
