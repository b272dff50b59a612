/- The document's Right. -/
import Derived.Test.YtmfbmjnoepcigaaGreatDoorRf
import Derived.Test.YtmfbmjnoepcigaaGreatDoorV
namespace Go.Proofs.YtmfbmjnoepcigaaGreatDoor
open Go.RowKit

set_option maxHeartbeats 4000000 in
set_option maxRecDepth 100000 in
theorem rright_any (v : Value) (L : List UserS) (w : World) (hF : InU w v L) (hn : L.length ≤ 140737488355328) (hS : ∀ u ∈ L, SzV u) :
    Calls Tryz.prog 11 #[v] w fun e w' => e = .returned (.bool (rightB L)) ∧ Below w.heap.size w w' := by
  obtain ⟨a, cap, rfl, hc⟩ := hF
  have HF : Hid (InU w (.slice a L.length cap) L) := Lib.hid ⟨a, cap, rfl, hc⟩
  clear hc
  by_cases h8 : 8 < L.length
  · have h81 : (8 : Int) < L.length := by omega
    have HR : Hid (rightB L = false) := Lib.hid (by unfold rightB; rw [decide_eq_false (by omega)]; rfl)
    have hn1 : (L.length : Int) ≤ 140737488355328 := by omega
    clear hn hS h8
    go_enter Tryz.func11, Tryz.ntmps11
    go_wp2
    go_ret
    exact ⟨by rw [HR.out]; rfl, Below.refl _ _⟩
  · have h81 : ¬ (8 : Int) < L.length := by omega
    have hn1 : (L.length : Int) ≤ 8 := by omega
    have HS := Lib.hid hS
    have HL8 := Lib.hid h8
    clear hn hS h8
    go_enter Tryz.func11, Tryz.ntmps11
    go_wp2
    go_loopw [3, 4, 5] (fun v3 v4 v5 wr => ∃ k : Nat, k ≤ L.length ∧ v3 = .int .i64 k ∧ Hid (Below w.heap.size w wr ∧ SeenR L k)) (fun v3 v4 v5 _ => L.length - (intOf v3).toNat)
    case atStart => exact ⟨0, Nat.zero_le _, rfl, Lib.hid ⟨Below.refl _ _, fun j hj h => absurd h (Nat.not_lt_zero j)⟩⟩
    case round =>
      obtain ⟨k, hk, rfl, HH⟩ := hrel
      by_cases hlt : k < L.length
      · have hlt1 : (k : Int) < L.length := by omega
        obtain ⟨b, off, rfl, hu⟩ := HF.out.uc HH.out.1 hlt
        have HM := Lib.hid (fun W => rmay_any (L[k]'hlt) W (HS.out _ (List.getElem_mem hlt)))
        have HNR := Lib.hid (fun (hm : mayB (L[k]'hlt) = false) => not_right hlt (.inr (.inl hm)))
        have HNX := Lib.hid (fun hm hf => seen_next hlt HH.out.2 (by have := HL8.out; omega) hm hf)
        have HFF : Hid ((∀ j (hj : j < L.length), j < k → isName (L[k]'hlt).name (L[j]'hj) = false) → findU (isName (L[k]'hlt).name) L 0 = k) :=
          Lib.hid fun h => findU_first hlt (by simp [isName]) (fun j hj => h j (by omega) hj)
        have HFN : Hid (∀ j (hj : j < L.length), j < k → isName (L[k]'hlt).name (L[j]'hj) = true → rightB L = false) := Lib.hid fun j hj hjk hp => by
          refine not_right hlt (.inr (.inr fun he => ?_))
          rcases findU_cases (isName (L[k]'hlt).name) L with ⟨h1, _⟩ | ⟨q, hq, h1, h2, h3⟩
          · omega
          · have e : q = k := by omega
            subst e
            have := h2 j hjk
            rw [hp] at this
            cases this
        generalize L[k]'hlt = f at *
        obtain ⟨g0, g1, g2, g3, g4, g5⟩ := hu
        go_wp2_with fail
        refine (HM.out _).mono ?_
        rintro e w1 ⟨rfl, hb⟩
        have HB1 := Lib.hid (HH.out.1.trans (hb.mono HH.out.1.size))
        have HU1 : Hid (UC w1 b (off + k * 6) f) := Lib.hid (UC.below (w := wr) ⟨g0, g1, g2, g3, g4, g5⟩ hb)
        clear hb g0 g1 g2 g3 g4 g5 HM
        cases hm : mayB f with
        | false =>
          have HR := Lib.hid (HNR.out hm)
          clear hm HNR HNX HFF HFN
          go_wp2
          go_ret
          exact ⟨by rw [HR.out]; rfl, HB1.out⟩
        | true =>
          have HNX1 := Lib.hid (HNX.out hm)
          clear hm HNR HNX
          go_wp2
          go_loopw [5] (fun v5 w2 => ∃ q : Nat, q ≤ k ∧ v5 = .int .i64 q ∧ Hid (Below w.heap.size w w2 ∧ UC w2 b (off + k * 6) f ∧ ∀ j (hj : j < L.length), j < q → isName f.name (L[j]'hj) = false)) (fun v5 _ => k - (intOf v5).toNat)
          case atStart => exact ⟨0, Nat.zero_le _, rfl, Lib.hid ⟨HB1.out, HU1.out, fun j hj h => absurd h (Nat.not_lt_zero j)⟩⟩
          case round =>
            obtain ⟨q, hq, rfl, HQ⟩ := hrel
            by_cases hqk : q < k
            · have hqk1 : (q : Int) < k := by omega
              have hql : q < L.length := by omega
              have hql1 : (q : Int) < L.length := by omega
              obtain ⟨b2, off2, hab, hu2⟩ := HF.out.uc HQ.out.1 hql
              simp only [Option.some.injEq, Addr.mk.injEq, and_true] at hab
              obtain ⟨rfl, rfl⟩ := hab
              have HFN1 := Lib.hid (HFN.out q hql hqk)
              have HNQ : Hid (isName f.name (L[q]'hql) = false → ∀ j (hj : j < L.length), j < q + 1 → isName f.name (L[j]'hj) = false) := Lib.hid fun h j hj hjq => by
                by_cases he : j = q
                · subst he; exact h
                · exact HQ.out.2.2 j hj (by omega)
              generalize L[q]'hql = g at *
              obtain ⟨g0, g1, g2, g3, g4, g5⟩ := hu2
              obtain ⟨f0, f1, f2, f3, f4, f5⟩ := HQ.out.2.1
              have he1 : (g.name.toList == f.name.toList) = isName f.name g := eq_text _ _
              clear g1 g2 g3 g4 g5 f1 f2 f3 f4 f5
              cases hp : isName f.name g with
              | true =>
                rw [hp] at he1
                have HR := Lib.hid (HFN1.out hp)
                clear hp
                go_upto_region 12 with fail
                go_quiet (fail)
                go_wp2
                go_ret
                exact ⟨by rw [HR.out]; rfl, drewN_below HQ.out.1 _⟩
              | false =>
                rw [hp] at he1
                have HX := Lib.hid (HNQ.out hp)
                clear hp
                go_upto_region 12 with fail
                go_quiet (fail)
                go_wp2
                go_roundw
                case rel => exact ⟨q + 1, by omega, by go_num, Lib.hid ⟨drewN_below HQ.out.1 _, HQ.out.2.1.below (drewN_below (Below.refl _ _) _), HX.out⟩⟩
                case measure => simp [intOf]; omega
            · have hqk1 : ¬ (q : Int) < k := by omega
              have HSN := Lib.hid (HNX1.out (HFF.out fun j hj hjk => HQ.out.2.2 j hj (by omega)))
              go_wp2
              go_roundw
              case rel => exact ⟨k + 1, by omega, by go_num, Lib.hid ⟨HQ.out.1, HSN.out⟩⟩
              case measure => simp [intOf]; omega
      · have hlt1 : ¬ (k : Int) < L.length := by omega
        have e : k = L.length := by omega
        have HR : Hid (rightB L = true) := Lib.hid (seen_all (by have := HH.out.2; rw [e] at this; exact this))
        go_wp2
        go_ret
        exact ⟨by rw [HR.out]; rfl, HH.out.1⟩
end Go.Proofs.YtmfbmjnoepcigaaGreatDoor
