/- The document's Print. -/
import Derived.Test.YtmfbmjnoepcigaaGreatDoorRh
import Derived.Test.YtmfbmjnoepcigaaGreatDoorRg
import Derived.Test.YtmfbmjnoepcigaaGreatDoorR
namespace Go.Proofs.YtmfbmjnoepcigaaGreatDoor
open Go.RowKit

theorem print_cat {L : List UserS} {k : Nat} (hk : k < L.length) : (⟨(printB (L.take k)).toArray⟩ : ByteArray) ++ ⟨(lineB L[k]).toArray⟩ ++ ⟨#[10]⟩ = ⟨(printB (L.take (k + 1))).toArray⟩ := by
  refine ba_eq ?_
  rw [print_take hk]
  simp
theorem line_parts {u : UserS} (h : (lineB u).length ≤ 300) : u.name.size ≤ 1000 ∧ u.pass.size ≤ 1000 ∧ u.home.size ≤ 1000 ∧ u.shell.size ≤ 1000 := by
  unfold lineB at h
  simp only [List.length_append, List.length_cons, sz] at h
  omega
set_option maxHeartbeats 4000000 in
set_option maxRecDepth 100000 in
theorem rprint_any (v : Value) (L : List UserS) (w : World) (hF : InU w v L) (hn : L.length ≤ 140737488355328) (hS : ∀ u ∈ L, SzV u) :
    Calls Tryz.prog 13 #[v] w fun e w' => e = .returned (.string (printS L)) ∧ Below w.heap.size w w' := by
  have HR := Lib.hid (rright_any v L w hF hn hS)
  obtain ⟨a, cap, rfl, hc⟩ := hF
  have HF : Hid (InU w (.slice a L.length cap) L) := Lib.hid ⟨a, cap, rfl, hc⟩
  clear hc hS
  have hn1 : (L.length : Int) ≤ 140737488355328 := by omega
  clear hn
  cases hr : rightB L with
  | false =>
    have HP : Hid (printS L = ⟨#[]⟩) := Lib.hid (by unfold printS; rw [hr]; rfl)
    rw [hr] at HR
    clear hr
    go_enter Tryz.func13, Tryz.ntmps13
    go_wp2_with fail
    refine HR.out.mono ?_
    rintro e w1 ⟨rfl, hb⟩
    have HB := Lib.hid hb
    clear hb
    go_wp2
    go_ret
    exact ⟨by rw [HP.out]; rfl, HB.out⟩
  | true =>
    have HP : Hid (printS L = ⟨(printB L).toArray⟩) := Lib.hid (by unfold printS; rw [if_pos hr])
    have HRU := Lib.hid ((rightB_iff L).1 hr)
    rw [hr] at HR
    clear hr
    go_enter Tryz.func13, Tryz.ntmps13
    go_wp2_with fail
    refine HR.out.mono ?_
    rintro e w1 ⟨rfl, hb⟩
    have HB := Lib.hid hb
    clear hb
    go_wp2
    go_loopw [4, 5] (fun v4 v5 wr => ∃ (k : Nat) (t : ByteArray), k ≤ L.length ∧ v5 = .int .i64 k ∧ v4 = .string t ∧ t.size ≤ 2408 ∧ Hid (Below w.heap.size w wr ∧ t = ⟨(printB (L.take k)).toArray⟩)) (fun v4 v5 _ => L.length - (intOf v5).toNat)
    case atStart => exact ⟨0, ⟨#[]⟩, Nat.zero_le _, rfl, rfl, by decide, Lib.hid ⟨HB.out, rfl⟩⟩
    case round =>
      obtain ⟨k, t, hk, rfl, rfl, ht, HH⟩ := hrel
      by_cases hlt : k < L.length
      · have hlt1 : (k : Int) < L.length := by omega
        obtain ⟨b, off, rfl, hu⟩ := HF.out.uc HH.out.1 hlt
        have hm := HRU.out.may _ (List.getElem_mem hlt)
        have hcat := print_cat hlt
        rw [← HH.out.2] at hcat
        have hpl : (printB (L.take (k + 1))).length ≤ 301 * 8 := by
          have h1 := print_len (L.take (k + 1)) (fun u hu => HRU.out.may u (List.mem_of_mem_take hu))
          have h2 := HRU.out.len
          simp only [List.length_take] at h1
          omega
        have HPL := Lib.hid hpl
        generalize L[k]'hlt = f at *
        have hll := line_len hm
        have hmp := mayP hm
        obtain ⟨n0, n1, n2, n3⟩ := line_parts hll
        have HLN := Lib.hid (fun W => rline_any f W hmp.id0 hmp.id1 hmp.g0 hmp.g1 n0 n1 n2 n3)
        obtain ⟨R, hR⟩ : ∃ R : ByteArray, ⟨(lineB f).toArray⟩ = R := ⟨_, rfl⟩
        rw [hR] at HLN hcat
        have hRs : R.size ≤ 300 := by rw [← hR, ← sz]; exact hll
        have HCAT := Lib.hid hcat
        have ht1 : (t.size : Int) ≤ 2408 := by omega
        have hRs1 : (R.size : Int) ≤ 300 := by omega
        obtain ⟨g0, g1, g2, g3, g4, g5⟩ := hu
        clear hm hcat hll hmp n0 n1 n2 n3 hR hpl
        go_wp2_with fail
        refine (HLN.out _).mono ?_
        rintro e w5 ⟨rfl, hb⟩
        have HB5 := Lib.hid (HH.out.1.trans (hb.mono HH.out.1.size))
        clear hb g0 g1 g2 g3 g4 g5 HLN
        go_wp2
        go_roundw
        case rel => exact ⟨k + 1, t ++ R ++ ⟨#[10]⟩, by omega, by go_num, rfl, by rw [HCAT.out, ← sz]; have := HPL.out; exact this, Lib.hid ⟨HB5.out, HCAT.out⟩⟩
        case measure => simp [intOf]; omega
      · have hlt1 : ¬ (k : Int) < L.length := by omega
        have HT : Hid (printS L = t) := Lib.hid (by
          rw [HP.out, HH.out.2, show k = L.length by omega, List.take_length])
        go_wp2
        go_ret
        exact ⟨by rw [HT.out]; rfl, HH.out.1⟩
end Go.Proofs.YtmfbmjnoepcigaaGreatDoor
