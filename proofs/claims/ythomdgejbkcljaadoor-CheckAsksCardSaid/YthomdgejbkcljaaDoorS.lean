/- CheckTells. -/
import Derived.Test.YthomdgejbkcljaaDoorM
namespace Go.Proofs.YthomdgejbkcljaaDoor
open Go.RowKit

theorem ck_ends (t : Told) : ∃ (n : Int) (p : ByteArray) (b : Bool), ckEnd t = .returned (.tuple #[.int .i64 n, .string p, .bool b]) ∧ told t = toldV n p b := by
  cases t with
  | inl n => exact ⟨n, noB, false, rfl, rfl⟩
  | inr x => exact ⟨0, x, true, rfl, rfl⟩
theorem text_same (p : ByteArray) : (p.toList == p.toList) = true := by simp
/-- Facts, as they came in. -/
def ArgF (w : World) (v : Value) (fs : List FactS) : Prop := ∃ a cap, v = .slice a fs.length cap ∧ fs.length ≤ cap ∧ InF w v fs
theorem InF.cut {w : World} {a : Option Addr} {n cap : Nat} {fs : List FactS} (h : InF w (.slice a fs.length cap) fs) (hn : n ≤ fs.length) : InF w (.slice a n cap) (fs.take n) := by
  obtain ⟨a', cap', hv, hc⟩ := h
  obtain ⟨rfl, rfl⟩ : a = a' ∧ cap = cap' := by simp at hv; exact ⟨hv.1, hv.2⟩
  have hl : (fs.take n).length = n := by rw [List.length_take]; omega
  refine ⟨a, cap, by rw [hl], fun j hj => ?_⟩
  obtain ⟨b, off, ha, h⟩ := hc j (by omega)
  exact ⟨b, off, ha, by simpa using h⟩
set_option maxHeartbeats 1000000 in
theorem tells_tail (v u : Value) (L : List ByteArray) (fs : List FactS) (hz : ∀ s ∈ L, s.size ≤ 140737488355328) (hn : fs.length ≤ 140737488355328) :
    ∃ (n : Int) (p : ByteArray) (b : Bool), (∀ W, ArgS W v L → InF W u fs → Calls Tryd.prog 9 #[v, u] W fun e w' => e = .returned (.tuple #[.int .i64 n, .string p, .bool b]) ∧ Below W.heap.size W w') ∧
      (∀ W, ArgS W v L → InF W u fs → Calls Tryd.prog 10 #[v, u] W fun e w' => e = .returned (toldV n p b) ∧ Below W.heap.size W w') := by
  obtain ⟨n, p, b, h1, h2⟩ := ck_ends (tellS L fs)
  refine ⟨n, p, b, fun W hL hF => ?_, fun W hL hF => ?_⟩
  · have h := check_any v u L fs W hL hz hF hn
    unfold CP at h
    rw [h1] at h
    exact h
  · have h := rcheck_any v u L fs W hL hz hF hn
    unfold RT at h
    rw [h2] at h
    exact h
set_option maxHeartbeats 2000000 in
set_option maxRecDepth 100000 in
/-- CheckTells. -/
theorem tells_law (v u : Value) (L : List ByteArray) (fs : List FactS) (w : World) (hL : ArgS w v L) (hz : ∀ s ∈ L, s.size ≤ 140737488355328) (hF : ArgF w u fs) (hn : fs.length ≤ 140737488355328) :
    Calls Tryd.prog 3 #[v, u] w fun e w' => e = .returned (.bool true) ∧ Below w.heap.size w w' := by
  obtain ⟨a, cap, rfl, hcap, hF⟩ := hF
  have HL := Lib.hid hL
  have HF := Lib.hid hF
  clear hL hF
  by_cases h1000 : 1000 < fs.length
  · have h1 : (1000 : Int) < fs.length := by omega
    have hcap2 : 1000 ≤ cap := by omega
    have hcut := InF.cut HF.out (n := 1000) (by omega)
    have HCUT := Lib.hid hcut
    obtain ⟨n, p, b, H1, H2⟩ := tells_tail v (.slice a 1000 cap) L (fs.take 1000) hz (by rw [List.length_take]; omega)
    have HH := Lib.hid (And.intro H1 H2)
    have hpp := text_same p
    clear H1 H2 hcut hz hn h1000 hcap
    -- facts of more than a thousand: the first thousand of them
    obtain ⟨aa, rfl⟩ : ∃ aa : Addr, a = some aa := by
      obtain ⟨a', cap', hv, hc⟩ := HF.out
      obtain ⟨bq, off, ha, _⟩ := hc 0 (by omega)
      simp at hv
      exact ⟨_, hv.1.trans ha⟩
    go_enter Tryd.func3, Tryd.ntmps3
    go_wp2_with fail
    refine (shown_any _).mono ?_
    rintro e w1 ⟨rfl, hb⟩
    have HB := Lib.hid hb
    clear hb
    go_wp2_with fail
    refine (HH.out.1 _ (HL.out.below HB.out) (HCUT.out.below HB.out)).mono ?_
    rintro e w2 ⟨rfl, hb⟩
    replace HB := Lib.hid (HB.out.trans (hb.mono HB.out.size))
    clear hb
    go_wp2_with fail
    refine (HH.out.2 _ (HL.out.below HB.out) (HCUT.out.below HB.out)).mono ?_
    rintro e w3 ⟨rfl, hb⟩
    replace HB := Lib.hid (HB.out.trans (hb.mono HB.out.size))
    clear hb
    go_wp2
    go_ret
    exact ⟨by simp, HB.out.alloc HB.out.size _⟩
  · have h1 : ¬ (1000 : Int) < fs.length := by omega
    obtain ⟨n, p, b, H1, H2⟩ := tells_tail v (.slice a fs.length cap) L fs hz hn
    have HH := Lib.hid (And.intro H1 H2)
    have hpp := text_same p
    clear H1 H2 hz hn h1000 hcap
    go_enter Tryd.func3, Tryd.ntmps3
    go_wp2_with fail
    refine (shown_any _).mono ?_
    rintro e w1 ⟨rfl, hb⟩
    have HB := Lib.hid hb
    clear hb
    go_wp2_with fail
    refine (HH.out.1 _ (HL.out.below HB.out) (HF.out.below HB.out)).mono ?_
    rintro e w2 ⟨rfl, hb⟩
    replace HB := Lib.hid (HB.out.trans (hb.mono HB.out.size))
    clear hb
    go_wp2_with fail
    refine (HH.out.2 _ (HL.out.below HB.out) (HF.out.below HB.out)).mono ?_
    rintro e w3 ⟨rfl, hb⟩
    replace HB := Lib.hid (HB.out.trans (hb.mono HB.out.size))
    clear hb
    go_wp2
    go_ret
    exact ⟨by simp, HB.out.alloc HB.out.size _⟩
end Go.Proofs.YthomdgejbkcljaaDoor
