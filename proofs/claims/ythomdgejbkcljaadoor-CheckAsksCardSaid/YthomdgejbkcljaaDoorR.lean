/- CheckKinds. -/
import Derived.Test.YthomdgejbkcljaaDoorM
namespace Go.Proofs.YthomdgejbkcljaaDoor
open Go.RowKit

def kindF (path : ByteArray) (is : Bool) (kk size may : Int) : FactS := ⟨path, is, 0, kk, 0, 0, 0, 0, size, 0, may⟩
theorem inF_one (w : World) (f : FactS) : InF (w.alloc (.cells (factC f) 38)) (.slice (some ⟨w.heap.size, 0, none⟩) 1 1) [f] :=
  ⟨_, 1, rfl, fun j hj => ⟨_, _, rfl, fun i hi => by
    obtain rfl : j = 0 := by simp at hj; exact hj
    rw [show 0 + 0 * 11 + i = i by omega, heap_cell (at_new w _) i]
    rfl⟩⟩
theorem kind_two {c : UInt8} (hc : isFileC c = true) (x : ByteArray) (f : FactS) (hf : f.path = x) : tellS [b2 45 c, x] [f] = .inl (truthN (f.is && sayS c f)) := by
  have h33 : ¬ b2 45 c = b1 33 := fun h => by
    have := congrArg (fun x : ByteArray => x.data.toList) h
    simp [b2, b1] at this
  show t2 (b2 45 c) x [f] = _
  unfold t2
  rw [if_neg h33, oneS_file hc]
  simp [List.find?_cons, hf]
theorem kind_three {c : UInt8} (hc : isFileC c = true) (x : ByteArray) (f : FactS) (hf : f.path = x) : tellS [b1 33, b2 45 c, x] [f] = .inl (1 - truthN (f.is && sayS c f)) := by
  have h2 : twoS (b1 33) (b2 45 c) x = none := by
    have h1 : ¬ b2 45 c = b1 61 := fun h => by
      have := congrArg (fun x : ByteArray => x.data.toList) h
      simp [b2, b1] at this
    have h2 : ¬ b2 45 c = b2 33 61 := fun h => absurd (b2_inj h).1 (by decide)
    have h3 : ∀ p q r : UInt8, ¬ b2 45 c = b3 p q r := fun p q r h => by
      have := congrArg (fun x : ByteArray => x.data.toList) h
      simp [b2, b3] at this
    rw [twoS_tri h1 h2]
    have ht : tri (b2 45 c) = none := by unfold tri; simp [h3]
    rw [ht]
  show t3 (b1 33) (b2 45 c) x [f] = _
  unfold t3
  rw [h2]
  simp only [if_true]
  have h := kind_two hc x f hf
  have h' : t2 (b2 45 c) x [f] = .inl (truthN (f.is && sayS c f)) := h
  rw [h']
  unfold notS
  cases (f.is && sayS c f) <;> rfl
theorem ck_lit {v u : Value} {L : List ByteArray} {fs : List FactS} {n : Nat} {W : World} (hn : tellS L fs = .inl n) (hL : ArgS W v L) (hz : ∀ s ∈ L, s.size ≤ 140737488355328) (hF : InF W u fs) (hl : fs.length ≤ 140737488355328) :
    Calls Tryd.prog 9 #[v, u] W fun e w' => e = .returned (.tuple #[.int .i64 n, .string noB, .bool false]) ∧ Below W.heap.size W w' := by
  have h := check_any v u L fs W hL hz hF hl
  unfold CP at h
  rw [hn] at h
  exact h
def kops : List ByteArray := [b2 45 101, b2 45 102, b2 45 100, b2 45 99, b2 45 114, b2 45 119, b2 45 120, b2 45 115]
set_option maxHeartbeats 8000000 in
set_option maxRecDepth 100000 in
/-- CheckKinds. -/
theorem kinds_law (path : ByteArray) (is : Bool) (kind size may : Int) (w : World) (hp : path.size ≤ 140737488355328) :
    Calls Tryd.prog 7 #[.string path, .bool is, .int .i64 kind, .int .i64 size, .int .i64 may] w fun e w' => e = .returned (.bool true) ∧ Below w.heap.size w w' := by
  have HP := Lib.hid hp
  clear hp
  go_enter Tryd.func7, Tryd.ntmps7
  go_wp2_with fail
  refine (shown_any _).mono ?_
  rintro e w1 ⟨rfl, hb⟩
  have HB := Lib.hid hb
  clear hb
  go_upto_region 3 with fail
  generalize (bits .and .i64 kind 65535).tmod 3 = kk at *
  obtain ⟨f, hf⟩ : ∃ f, kindF path is kk size may = f := ⟨_, rfl⟩
  have hF0 : InF (w1.alloc (.cells #[.string path, .bool is, .int .i64 0, .int .i64 kk, .int .i64 0, .int .i64 0, .int .i64 0, .int .i64 0, .int .i64 size, .int .i64 0, .int .i64 may] 38)) (.slice (some ⟨w1.heap.size, 0, none⟩) 1 1) [f] := by rw [← hf]; exact inF_one w1 (kindF path is kk size may)
  go_upto_region 5 with fail
  have hz1 : (w1.alloc (.cells #[.string path, .bool is, .int .i64 0, .int .i64 kk, .int .i64 0, .int .i64 0, .int .i64 0, .int .i64 0, .int .i64 size, .int .i64 0, .int .i64 may] 38)).heap.size = w1.heap.size + 1 := by simp
  have hb1 : Below w1.heap.size w1 (w1.alloc (.cells #[.string path, .bool is, .int .i64 0, .int .i64 kk, .int .i64 0, .int .i64 0, .int .i64 0, .int .i64 0, .int .i64 size, .int .i64 0, .int .i64 may] 38)) := (Below.refl _ _).alloc (Nat.le_refl _) _
  generalize w1.alloc (.cells #[.string path, .bool is, .int .i64 0, .int .i64 kk, .int .i64 0, .int .i64 0, .int .i64 0, .int .i64 0, .int .i64 size, .int .i64 0, .int .i64 may] 38) = W1 at *
  have hA := argS_new W1 kops
  have hb2 : Below W1.heap.size W1 (W1.alloc (.cells (kops.map Value.string).toArray 9)) := (Below.refl _ _).alloc (Nat.le_refl _) _
  have hF1 := hF0.below hb2
  obtain ⟨W2, hW2⟩ : ∃ W2, W1.alloc (.cells (kops.map Value.string).toArray 9) = W2 := ⟨_, rfl⟩
  have hW3 : W1.alloc (Obj.cells #[.string ⟨#[45, 101]⟩, .string ⟨#[45, 102]⟩, .string ⟨#[45, 100]⟩, .string ⟨#[45, 99]⟩, .string ⟨#[45, 114]⟩, .string ⟨#[45, 119]⟩, .string ⟨#[45, 120]⟩, .string ⟨#[45, 115]⟩] 9) = W2 := hW2
  rw [hW2] at hA hb2 hF1
  rw [hW3]
  have HA := Lib.hid hA
  have HF := Lib.hid hF1
  have HB2 := Lib.hid (HB.out.trans ((hb1.trans (hb2.mono (by rw [hz1]; omega))).mono HB.out.size))
  have HFF := Lib.hid hf
  have HZ1 := Lib.hid hz1
  clear hA hF0 hF1 hb1 hb2 hW2 hW3 hf HB hz1
  go_loopw [13, 14, 15, 16, 17, 18, 19, 20, 21, 36] (fun v13 v14 v15 v16 v17 v18 v19 v20 v21 v36 wr => ∃ k : Nat, k ≤ 8 ∧ v36 = .int .i64 k ∧ Hid (Below W2.heap.size W2 wr)) (fun v13 v14 v15 v16 v17 v18 v19 v20 v21 v36 _ => 8 - (intOf v36).toNat)
  case atStart => exact ⟨0, by omega, rfl, Lib.hid (Below.refl _ _)⟩
  case round =>
    obtain ⟨k, hk, rfl, HH⟩ := hrel
    by_cases hlt : k < 8
    · have HF3 := Lib.hid (HF.out.below HH.out)
      have HA3 := HA.out.below HH.out
      obtain ⟨bb, off, cap, hv, hsl⟩ := HA3.sl (by decide)
      obtain ⟨rfl, rfl, rfl⟩ : W1.heap.size = bb ∧ 0 = off ∧ 8 = cap := by
        have h : Value.slice (some ⟨W1.heap.size, 0, none⟩) 8 8 = Value.slice (some ⟨bb, off, none⟩) 8 cap := hv
        simp at h
        exact ⟨h.1.1, h.1.2, h.2⟩
      have hcell : ∀ j (h : j < 8), wr.cell? ⟨w1.heap.size + 1, j, none⟩ = some (.string (kops[j]'h)) := fun j h => by
        have h1 := hsl.cell j h
        rw [Nat.zero_add, HZ1.out] at h1
        exact h1
      have HC := Lib.hid hcell
      clear hsl hv HA3 hcell
      have hpz : ∀ (op : ByteArray), op.size ≤ 140737488355328 → (∀ s ∈ [op, path], s.size ≤ 140737488355328) ∧ (∀ s ∈ [b1 33, op, path], s.size ≤ 140737488355328) := fun op ho => ⟨fun s hs => by
        simp only [List.mem_cons, List.not_mem_nil, or_false] at hs
        rcases hs with rfl | rfl
        · exact ho
        · exact HP.out, fun s hs => by
        simp only [List.mem_cons, List.not_mem_nil, or_false] at hs
        rcases hs with rfl | rfl | rfl
        · decide
        · exact ho
        · exact HP.out⟩
      have HPZ := Lib.hid hpz
      clear hpz
      have hfp : f.path = path := by rw [← HFF.out]; rfl
      have HFP := Lib.hid hfp
      clear hfp
      obtain rfl | rfl | rfl | rfl | rfl | rfl | rfl | rfl : k = 0 ∨ k = 1 ∨ k = 2 ∨ k = 3 ∨ k = 4 ∨ k = 5 ∨ k = 6 ∨ k = 7 := by omega
      · have hc := HC.out 0 (by omega)
        replace hc : wr.cell? ⟨w1.heap.size + 1, 0, none⟩ = some (.string (b2 45 101)) := hc
        have hsay : (f.is && sayS 101 f) = (is && true) := by rw [← HFF.out]; rfl
        have HSAY := Lib.hid hsay
        clear hsay HC
        cases is with
        | false =>
          have HBB : Hid ((f.is && sayS 101 f) = false) := Lib.hid (by rw [HSAY.out]; rfl)
          clear HSAY
          have HT : Hid (tellS [b2 45 101, path] [f] = .inl 1 ∧ tellS [b1 33, b2 45 101, path] [f] = .inl 0) := Lib.hid (by rw [kind_two (c := 101) (by decide) path f HFP.out, kind_three (c := 101) (by decide) path f HFP.out, HBB.out]; exact ⟨rfl, rfl⟩)
          clear HBB
          go_wp2_with fail
          refine (ck_lit HT.out.1 (argS_new wr [b2 45 101, path]) (HPZ.out _ (by decide)).1 (HF3.out.below ((Below.refl _ _).alloc (Nat.le_refl _) _)) (by simp)).mono ?_
          rintro e w3 ⟨rfl, hb3⟩
          have HB3 := Lib.hid ((HH.out.alloc HH.out.size (.cells #[.string (b2 45 101), .string path] 9)).trans (hb3.mono (Nat.le_trans HH.out.size (by simp))))
          have HF4 := Lib.hid (HF.out.below HB3.out)
          clear hb3
          go_wp2_with fail
          refine (ck_lit HT.out.2 (argS_new w3 [b1 33, b2 45 101, path]) (HPZ.out _ (by decide)).2 (HF4.out.below ((Below.refl _ _).alloc (Nat.le_refl _) _)) (by simp)).mono ?_
          rintro e w4 ⟨rfl, hb4⟩
          have HB4 := Lib.hid ((HB3.out.alloc HB3.out.size (.cells #[.string (b1 33), .string (b2 45 101), .string path] 9)).trans (hb4.mono (Nat.le_trans HB3.out.size (by simp))))
          clear hb4
          go_wp2
          go_roundw
          case rel => exact ⟨1, by omega, rfl, HB4⟩
          case measure => simp [intOf]
        | true =>
          have HBB : Hid ((f.is && sayS 101 f) = true) := Lib.hid (by rw [HSAY.out]; rfl)
          clear HSAY
          have HT : Hid (tellS [b2 45 101, path] [f] = .inl 0 ∧ tellS [b1 33, b2 45 101, path] [f] = .inl 1) := Lib.hid (by rw [kind_two (c := 101) (by decide) path f HFP.out, kind_three (c := 101) (by decide) path f HFP.out, HBB.out]; exact ⟨rfl, rfl⟩)
          clear HBB
          go_wp2_with fail
          refine (ck_lit HT.out.1 (argS_new wr [b2 45 101, path]) (HPZ.out _ (by decide)).1 (HF3.out.below ((Below.refl _ _).alloc (Nat.le_refl _) _)) (by simp)).mono ?_
          rintro e w3 ⟨rfl, hb3⟩
          have HB3 := Lib.hid ((HH.out.alloc HH.out.size (.cells #[.string (b2 45 101), .string path] 9)).trans (hb3.mono (Nat.le_trans HH.out.size (by simp))))
          have HF4 := Lib.hid (HF.out.below HB3.out)
          clear hb3
          go_wp2_with fail
          refine (ck_lit HT.out.2 (argS_new w3 [b1 33, b2 45 101, path]) (HPZ.out _ (by decide)).2 (HF4.out.below ((Below.refl _ _).alloc (Nat.le_refl _) _)) (by simp)).mono ?_
          rintro e w4 ⟨rfl, hb4⟩
          have HB4 := Lib.hid ((HB3.out.alloc HB3.out.size (.cells #[.string (b1 33), .string (b2 45 101), .string path] 9)).trans (hb4.mono (Nat.le_trans HB3.out.size (by simp))))
          clear hb4
          go_wp2
          go_roundw
          case rel => exact ⟨1, by omega, rfl, HB4⟩
          case measure => simp [intOf]
      · have hc := HC.out 1 (by omega)
        replace hc : wr.cell? ⟨w1.heap.size + 1, 1, none⟩ = some (.string (b2 45 102)) := hc
        have hsay : (f.is && sayS 102 f) = (is && (kk == 0)) := by rw [← HFF.out]; rfl
        have HSAY := Lib.hid hsay
        clear hsay HC
        cases is with
        | false =>
          have HBB : Hid ((f.is && sayS 102 f) = false) := Lib.hid (by rw [HSAY.out]; rfl)
          clear HSAY
          have HT : Hid (tellS [b2 45 102, path] [f] = .inl 1 ∧ tellS [b1 33, b2 45 102, path] [f] = .inl 0) := Lib.hid (by rw [kind_two (c := 102) (by decide) path f HFP.out, kind_three (c := 102) (by decide) path f HFP.out, HBB.out]; exact ⟨rfl, rfl⟩)
          clear HBB
          go_wp2_with fail
          refine (ck_lit HT.out.1 (argS_new wr [b2 45 102, path]) (HPZ.out _ (by decide)).1 (HF3.out.below ((Below.refl _ _).alloc (Nat.le_refl _) _)) (by simp)).mono ?_
          rintro e w3 ⟨rfl, hb3⟩
          have HB3 := Lib.hid ((HH.out.alloc HH.out.size (.cells #[.string (b2 45 102), .string path] 9)).trans (hb3.mono (Nat.le_trans HH.out.size (by simp))))
          have HF4 := Lib.hid (HF.out.below HB3.out)
          clear hb3
          go_wp2_with fail
          refine (ck_lit HT.out.2 (argS_new w3 [b1 33, b2 45 102, path]) (HPZ.out _ (by decide)).2 (HF4.out.below ((Below.refl _ _).alloc (Nat.le_refl _) _)) (by simp)).mono ?_
          rintro e w4 ⟨rfl, hb4⟩
          have HB4 := Lib.hid ((HB3.out.alloc HB3.out.size (.cells #[.string (b1 33), .string (b2 45 102), .string path] 9)).trans (hb4.mono (Nat.le_trans HB3.out.size (by simp))))
          clear hb4
          go_wp2
          go_roundw
          case rel => exact ⟨2, by omega, rfl, HB4⟩
          case measure => simp [intOf]
        | true =>
          obtain ⟨x, hx⟩ : ∃ x, (kk == 0) = x := ⟨_, rfl⟩
          rw [hx] at HSAY
          cases x with
          | true =>
            have HBB : Hid ((f.is && sayS 102 f) = true) := Lib.hid (by rw [HSAY.out]; rfl)
            clear HSAY
            have HT : Hid (tellS [b2 45 102, path] [f] = .inl 0 ∧ tellS [b1 33, b2 45 102, path] [f] = .inl 1) := Lib.hid (by rw [kind_two (c := 102) (by decide) path f HFP.out, kind_three (c := 102) (by decide) path f HFP.out, HBB.out]; exact ⟨rfl, rfl⟩)
            clear HBB
            go_wp2_with fail
            refine (ck_lit HT.out.1 (argS_new wr [b2 45 102, path]) (HPZ.out _ (by decide)).1 (HF3.out.below ((Below.refl _ _).alloc (Nat.le_refl _) _)) (by simp)).mono ?_
            rintro e w3 ⟨rfl, hb3⟩
            have HB3 := Lib.hid ((HH.out.alloc HH.out.size (.cells #[.string (b2 45 102), .string path] 9)).trans (hb3.mono (Nat.le_trans HH.out.size (by simp))))
            have HF4 := Lib.hid (HF.out.below HB3.out)
            clear hb3
            go_wp2_with fail
            refine (ck_lit HT.out.2 (argS_new w3 [b1 33, b2 45 102, path]) (HPZ.out _ (by decide)).2 (HF4.out.below ((Below.refl _ _).alloc (Nat.le_refl _) _)) (by simp)).mono ?_
            rintro e w4 ⟨rfl, hb4⟩
            have HB4 := Lib.hid ((HB3.out.alloc HB3.out.size (.cells #[.string (b1 33), .string (b2 45 102), .string path] 9)).trans (hb4.mono (Nat.le_trans HB3.out.size (by simp))))
            clear hb4
            go_wp2
            go_roundw
            case rel => exact ⟨2, by omega, rfl, HB4⟩
            case measure => simp [intOf]
          | false =>
            have HBB : Hid ((f.is && sayS 102 f) = false) := Lib.hid (by rw [HSAY.out]; rfl)
            clear HSAY
            have HT : Hid (tellS [b2 45 102, path] [f] = .inl 1 ∧ tellS [b1 33, b2 45 102, path] [f] = .inl 0) := Lib.hid (by rw [kind_two (c := 102) (by decide) path f HFP.out, kind_three (c := 102) (by decide) path f HFP.out, HBB.out]; exact ⟨rfl, rfl⟩)
            clear HBB
            go_wp2_with fail
            refine (ck_lit HT.out.1 (argS_new wr [b2 45 102, path]) (HPZ.out _ (by decide)).1 (HF3.out.below ((Below.refl _ _).alloc (Nat.le_refl _) _)) (by simp)).mono ?_
            rintro e w3 ⟨rfl, hb3⟩
            have HB3 := Lib.hid ((HH.out.alloc HH.out.size (.cells #[.string (b2 45 102), .string path] 9)).trans (hb3.mono (Nat.le_trans HH.out.size (by simp))))
            have HF4 := Lib.hid (HF.out.below HB3.out)
            clear hb3
            go_wp2_with fail
            refine (ck_lit HT.out.2 (argS_new w3 [b1 33, b2 45 102, path]) (HPZ.out _ (by decide)).2 (HF4.out.below ((Below.refl _ _).alloc (Nat.le_refl _) _)) (by simp)).mono ?_
            rintro e w4 ⟨rfl, hb4⟩
            have HB4 := Lib.hid ((HB3.out.alloc HB3.out.size (.cells #[.string (b1 33), .string (b2 45 102), .string path] 9)).trans (hb4.mono (Nat.le_trans HB3.out.size (by simp))))
            clear hb4
            go_wp2
            go_roundw
            case rel => exact ⟨2, by omega, rfl, HB4⟩
            case measure => simp [intOf]
      · have hc := HC.out 2 (by omega)
        replace hc : wr.cell? ⟨w1.heap.size + 1, 2, none⟩ = some (.string (b2 45 100)) := hc
        have hsay : (f.is && sayS 100 f) = (is && (kk == 1)) := by rw [← HFF.out]; rfl
        have HSAY := Lib.hid hsay
        clear hsay HC
        cases is with
        | false =>
          have HBB : Hid ((f.is && sayS 100 f) = false) := Lib.hid (by rw [HSAY.out]; rfl)
          clear HSAY
          have HT : Hid (tellS [b2 45 100, path] [f] = .inl 1 ∧ tellS [b1 33, b2 45 100, path] [f] = .inl 0) := Lib.hid (by rw [kind_two (c := 100) (by decide) path f HFP.out, kind_three (c := 100) (by decide) path f HFP.out, HBB.out]; exact ⟨rfl, rfl⟩)
          clear HBB
          go_wp2_with fail
          refine (ck_lit HT.out.1 (argS_new wr [b2 45 100, path]) (HPZ.out _ (by decide)).1 (HF3.out.below ((Below.refl _ _).alloc (Nat.le_refl _) _)) (by simp)).mono ?_
          rintro e w3 ⟨rfl, hb3⟩
          have HB3 := Lib.hid ((HH.out.alloc HH.out.size (.cells #[.string (b2 45 100), .string path] 9)).trans (hb3.mono (Nat.le_trans HH.out.size (by simp))))
          have HF4 := Lib.hid (HF.out.below HB3.out)
          clear hb3
          go_wp2_with fail
          refine (ck_lit HT.out.2 (argS_new w3 [b1 33, b2 45 100, path]) (HPZ.out _ (by decide)).2 (HF4.out.below ((Below.refl _ _).alloc (Nat.le_refl _) _)) (by simp)).mono ?_
          rintro e w4 ⟨rfl, hb4⟩
          have HB4 := Lib.hid ((HB3.out.alloc HB3.out.size (.cells #[.string (b1 33), .string (b2 45 100), .string path] 9)).trans (hb4.mono (Nat.le_trans HB3.out.size (by simp))))
          clear hb4
          go_wp2
          go_roundw
          case rel => exact ⟨3, by omega, rfl, HB4⟩
          case measure => simp [intOf]
        | true =>
          obtain ⟨x, hx⟩ : ∃ x, (kk == 1) = x := ⟨_, rfl⟩
          rw [hx] at HSAY
          cases x with
          | true =>
            have HBB : Hid ((f.is && sayS 100 f) = true) := Lib.hid (by rw [HSAY.out]; rfl)
            clear HSAY
            have HT : Hid (tellS [b2 45 100, path] [f] = .inl 0 ∧ tellS [b1 33, b2 45 100, path] [f] = .inl 1) := Lib.hid (by rw [kind_two (c := 100) (by decide) path f HFP.out, kind_three (c := 100) (by decide) path f HFP.out, HBB.out]; exact ⟨rfl, rfl⟩)
            clear HBB
            go_wp2_with fail
            refine (ck_lit HT.out.1 (argS_new wr [b2 45 100, path]) (HPZ.out _ (by decide)).1 (HF3.out.below ((Below.refl _ _).alloc (Nat.le_refl _) _)) (by simp)).mono ?_
            rintro e w3 ⟨rfl, hb3⟩
            have HB3 := Lib.hid ((HH.out.alloc HH.out.size (.cells #[.string (b2 45 100), .string path] 9)).trans (hb3.mono (Nat.le_trans HH.out.size (by simp))))
            have HF4 := Lib.hid (HF.out.below HB3.out)
            clear hb3
            go_wp2_with fail
            refine (ck_lit HT.out.2 (argS_new w3 [b1 33, b2 45 100, path]) (HPZ.out _ (by decide)).2 (HF4.out.below ((Below.refl _ _).alloc (Nat.le_refl _) _)) (by simp)).mono ?_
            rintro e w4 ⟨rfl, hb4⟩
            have HB4 := Lib.hid ((HB3.out.alloc HB3.out.size (.cells #[.string (b1 33), .string (b2 45 100), .string path] 9)).trans (hb4.mono (Nat.le_trans HB3.out.size (by simp))))
            clear hb4
            go_wp2
            go_roundw
            case rel => exact ⟨3, by omega, rfl, HB4⟩
            case measure => simp [intOf]
          | false =>
            have HBB : Hid ((f.is && sayS 100 f) = false) := Lib.hid (by rw [HSAY.out]; rfl)
            clear HSAY
            have HT : Hid (tellS [b2 45 100, path] [f] = .inl 1 ∧ tellS [b1 33, b2 45 100, path] [f] = .inl 0) := Lib.hid (by rw [kind_two (c := 100) (by decide) path f HFP.out, kind_three (c := 100) (by decide) path f HFP.out, HBB.out]; exact ⟨rfl, rfl⟩)
            clear HBB
            go_wp2_with fail
            refine (ck_lit HT.out.1 (argS_new wr [b2 45 100, path]) (HPZ.out _ (by decide)).1 (HF3.out.below ((Below.refl _ _).alloc (Nat.le_refl _) _)) (by simp)).mono ?_
            rintro e w3 ⟨rfl, hb3⟩
            have HB3 := Lib.hid ((HH.out.alloc HH.out.size (.cells #[.string (b2 45 100), .string path] 9)).trans (hb3.mono (Nat.le_trans HH.out.size (by simp))))
            have HF4 := Lib.hid (HF.out.below HB3.out)
            clear hb3
            go_wp2_with fail
            refine (ck_lit HT.out.2 (argS_new w3 [b1 33, b2 45 100, path]) (HPZ.out _ (by decide)).2 (HF4.out.below ((Below.refl _ _).alloc (Nat.le_refl _) _)) (by simp)).mono ?_
            rintro e w4 ⟨rfl, hb4⟩
            have HB4 := Lib.hid ((HB3.out.alloc HB3.out.size (.cells #[.string (b1 33), .string (b2 45 100), .string path] 9)).trans (hb4.mono (Nat.le_trans HB3.out.size (by simp))))
            clear hb4
            go_wp2
            go_roundw
            case rel => exact ⟨3, by omega, rfl, HB4⟩
            case measure => simp [intOf]
      · have hc := HC.out 3 (by omega)
        replace hc : wr.cell? ⟨w1.heap.size + 1, 3, none⟩ = some (.string (b2 45 99)) := hc
        have hsay : (f.is && sayS 99 f) = (is && (kk == 2)) := by rw [← HFF.out]; rfl
        have HSAY := Lib.hid hsay
        clear hsay HC
        cases is with
        | false =>
          have HBB : Hid ((f.is && sayS 99 f) = false) := Lib.hid (by rw [HSAY.out]; rfl)
          clear HSAY
          have HT : Hid (tellS [b2 45 99, path] [f] = .inl 1 ∧ tellS [b1 33, b2 45 99, path] [f] = .inl 0) := Lib.hid (by rw [kind_two (c := 99) (by decide) path f HFP.out, kind_three (c := 99) (by decide) path f HFP.out, HBB.out]; exact ⟨rfl, rfl⟩)
          clear HBB
          go_wp2_with fail
          refine (ck_lit HT.out.1 (argS_new wr [b2 45 99, path]) (HPZ.out _ (by decide)).1 (HF3.out.below ((Below.refl _ _).alloc (Nat.le_refl _) _)) (by simp)).mono ?_
          rintro e w3 ⟨rfl, hb3⟩
          have HB3 := Lib.hid ((HH.out.alloc HH.out.size (.cells #[.string (b2 45 99), .string path] 9)).trans (hb3.mono (Nat.le_trans HH.out.size (by simp))))
          have HF4 := Lib.hid (HF.out.below HB3.out)
          clear hb3
          go_wp2_with fail
          refine (ck_lit HT.out.2 (argS_new w3 [b1 33, b2 45 99, path]) (HPZ.out _ (by decide)).2 (HF4.out.below ((Below.refl _ _).alloc (Nat.le_refl _) _)) (by simp)).mono ?_
          rintro e w4 ⟨rfl, hb4⟩
          have HB4 := Lib.hid ((HB3.out.alloc HB3.out.size (.cells #[.string (b1 33), .string (b2 45 99), .string path] 9)).trans (hb4.mono (Nat.le_trans HB3.out.size (by simp))))
          clear hb4
          go_wp2
          go_roundw
          case rel => exact ⟨4, by omega, rfl, HB4⟩
          case measure => simp [intOf]
        | true =>
          obtain ⟨x, hx⟩ : ∃ x, (kk == 2) = x := ⟨_, rfl⟩
          rw [hx] at HSAY
          cases x with
          | true =>
            have HBB : Hid ((f.is && sayS 99 f) = true) := Lib.hid (by rw [HSAY.out]; rfl)
            clear HSAY
            have HT : Hid (tellS [b2 45 99, path] [f] = .inl 0 ∧ tellS [b1 33, b2 45 99, path] [f] = .inl 1) := Lib.hid (by rw [kind_two (c := 99) (by decide) path f HFP.out, kind_three (c := 99) (by decide) path f HFP.out, HBB.out]; exact ⟨rfl, rfl⟩)
            clear HBB
            go_wp2_with fail
            refine (ck_lit HT.out.1 (argS_new wr [b2 45 99, path]) (HPZ.out _ (by decide)).1 (HF3.out.below ((Below.refl _ _).alloc (Nat.le_refl _) _)) (by simp)).mono ?_
            rintro e w3 ⟨rfl, hb3⟩
            have HB3 := Lib.hid ((HH.out.alloc HH.out.size (.cells #[.string (b2 45 99), .string path] 9)).trans (hb3.mono (Nat.le_trans HH.out.size (by simp))))
            have HF4 := Lib.hid (HF.out.below HB3.out)
            clear hb3
            go_wp2_with fail
            refine (ck_lit HT.out.2 (argS_new w3 [b1 33, b2 45 99, path]) (HPZ.out _ (by decide)).2 (HF4.out.below ((Below.refl _ _).alloc (Nat.le_refl _) _)) (by simp)).mono ?_
            rintro e w4 ⟨rfl, hb4⟩
            have HB4 := Lib.hid ((HB3.out.alloc HB3.out.size (.cells #[.string (b1 33), .string (b2 45 99), .string path] 9)).trans (hb4.mono (Nat.le_trans HB3.out.size (by simp))))
            clear hb4
            go_wp2
            go_roundw
            case rel => exact ⟨4, by omega, rfl, HB4⟩
            case measure => simp [intOf]
          | false =>
            have HBB : Hid ((f.is && sayS 99 f) = false) := Lib.hid (by rw [HSAY.out]; rfl)
            clear HSAY
            have HT : Hid (tellS [b2 45 99, path] [f] = .inl 1 ∧ tellS [b1 33, b2 45 99, path] [f] = .inl 0) := Lib.hid (by rw [kind_two (c := 99) (by decide) path f HFP.out, kind_three (c := 99) (by decide) path f HFP.out, HBB.out]; exact ⟨rfl, rfl⟩)
            clear HBB
            go_wp2_with fail
            refine (ck_lit HT.out.1 (argS_new wr [b2 45 99, path]) (HPZ.out _ (by decide)).1 (HF3.out.below ((Below.refl _ _).alloc (Nat.le_refl _) _)) (by simp)).mono ?_
            rintro e w3 ⟨rfl, hb3⟩
            have HB3 := Lib.hid ((HH.out.alloc HH.out.size (.cells #[.string (b2 45 99), .string path] 9)).trans (hb3.mono (Nat.le_trans HH.out.size (by simp))))
            have HF4 := Lib.hid (HF.out.below HB3.out)
            clear hb3
            go_wp2_with fail
            refine (ck_lit HT.out.2 (argS_new w3 [b1 33, b2 45 99, path]) (HPZ.out _ (by decide)).2 (HF4.out.below ((Below.refl _ _).alloc (Nat.le_refl _) _)) (by simp)).mono ?_
            rintro e w4 ⟨rfl, hb4⟩
            have HB4 := Lib.hid ((HB3.out.alloc HB3.out.size (.cells #[.string (b1 33), .string (b2 45 99), .string path] 9)).trans (hb4.mono (Nat.le_trans HB3.out.size (by simp))))
            clear hb4
            go_wp2
            go_roundw
            case rel => exact ⟨4, by omega, rfl, HB4⟩
            case measure => simp [intOf]
      · have hc := HC.out 4 (by omega)
        replace hc : wr.cell? ⟨w1.heap.size + 1, 4, none⟩ = some (.string (b2 45 114)) := hc
        have hsay : (f.is && sayS 114 f) = (is && (bits .and .i64 may 4 != 0)) := by rw [← HFF.out]; rfl
        have HSAY := Lib.hid hsay
        clear hsay HC
        cases is with
        | false =>
          have HBB : Hid ((f.is && sayS 114 f) = false) := Lib.hid (by rw [HSAY.out]; rfl)
          clear HSAY
          have HT : Hid (tellS [b2 45 114, path] [f] = .inl 1 ∧ tellS [b1 33, b2 45 114, path] [f] = .inl 0) := Lib.hid (by rw [kind_two (c := 114) (by decide) path f HFP.out, kind_three (c := 114) (by decide) path f HFP.out, HBB.out]; exact ⟨rfl, rfl⟩)
          clear HBB
          go_wp2_with fail
          refine (ck_lit HT.out.1 (argS_new wr [b2 45 114, path]) (HPZ.out _ (by decide)).1 (HF3.out.below ((Below.refl _ _).alloc (Nat.le_refl _) _)) (by simp)).mono ?_
          rintro e w3 ⟨rfl, hb3⟩
          have HB3 := Lib.hid ((HH.out.alloc HH.out.size (.cells #[.string (b2 45 114), .string path] 9)).trans (hb3.mono (Nat.le_trans HH.out.size (by simp))))
          have HF4 := Lib.hid (HF.out.below HB3.out)
          clear hb3
          go_wp2_with fail
          refine (ck_lit HT.out.2 (argS_new w3 [b1 33, b2 45 114, path]) (HPZ.out _ (by decide)).2 (HF4.out.below ((Below.refl _ _).alloc (Nat.le_refl _) _)) (by simp)).mono ?_
          rintro e w4 ⟨rfl, hb4⟩
          have HB4 := Lib.hid ((HB3.out.alloc HB3.out.size (.cells #[.string (b1 33), .string (b2 45 114), .string path] 9)).trans (hb4.mono (Nat.le_trans HB3.out.size (by simp))))
          clear hb4
          go_wp2
          go_roundw
          case rel => exact ⟨5, by omega, rfl, HB4⟩
          case measure => simp [intOf]
        | true =>
          obtain ⟨x, hx⟩ : ∃ x, (bits .and .i64 may 4 != 0) = x := ⟨_, rfl⟩
          rw [hx] at HSAY
          cases x with
          | true =>
            have HBB : Hid ((f.is && sayS 114 f) = true) := Lib.hid (by rw [HSAY.out]; rfl)
            clear HSAY
            have HT : Hid (tellS [b2 45 114, path] [f] = .inl 0 ∧ tellS [b1 33, b2 45 114, path] [f] = .inl 1) := Lib.hid (by rw [kind_two (c := 114) (by decide) path f HFP.out, kind_three (c := 114) (by decide) path f HFP.out, HBB.out]; exact ⟨rfl, rfl⟩)
            clear HBB
            go_wp2_with fail
            refine (ck_lit HT.out.1 (argS_new wr [b2 45 114, path]) (HPZ.out _ (by decide)).1 (HF3.out.below ((Below.refl _ _).alloc (Nat.le_refl _) _)) (by simp)).mono ?_
            rintro e w3 ⟨rfl, hb3⟩
            have HB3 := Lib.hid ((HH.out.alloc HH.out.size (.cells #[.string (b2 45 114), .string path] 9)).trans (hb3.mono (Nat.le_trans HH.out.size (by simp))))
            have HF4 := Lib.hid (HF.out.below HB3.out)
            clear hb3
            go_wp2_with fail
            refine (ck_lit HT.out.2 (argS_new w3 [b1 33, b2 45 114, path]) (HPZ.out _ (by decide)).2 (HF4.out.below ((Below.refl _ _).alloc (Nat.le_refl _) _)) (by simp)).mono ?_
            rintro e w4 ⟨rfl, hb4⟩
            have HB4 := Lib.hid ((HB3.out.alloc HB3.out.size (.cells #[.string (b1 33), .string (b2 45 114), .string path] 9)).trans (hb4.mono (Nat.le_trans HB3.out.size (by simp))))
            clear hb4
            go_wp2
            go_roundw
            case rel => exact ⟨5, by omega, rfl, HB4⟩
            case measure => simp [intOf]
          | false =>
            have HBB : Hid ((f.is && sayS 114 f) = false) := Lib.hid (by rw [HSAY.out]; rfl)
            clear HSAY
            have HT : Hid (tellS [b2 45 114, path] [f] = .inl 1 ∧ tellS [b1 33, b2 45 114, path] [f] = .inl 0) := Lib.hid (by rw [kind_two (c := 114) (by decide) path f HFP.out, kind_three (c := 114) (by decide) path f HFP.out, HBB.out]; exact ⟨rfl, rfl⟩)
            clear HBB
            go_wp2_with fail
            refine (ck_lit HT.out.1 (argS_new wr [b2 45 114, path]) (HPZ.out _ (by decide)).1 (HF3.out.below ((Below.refl _ _).alloc (Nat.le_refl _) _)) (by simp)).mono ?_
            rintro e w3 ⟨rfl, hb3⟩
            have HB3 := Lib.hid ((HH.out.alloc HH.out.size (.cells #[.string (b2 45 114), .string path] 9)).trans (hb3.mono (Nat.le_trans HH.out.size (by simp))))
            have HF4 := Lib.hid (HF.out.below HB3.out)
            clear hb3
            go_wp2_with fail
            refine (ck_lit HT.out.2 (argS_new w3 [b1 33, b2 45 114, path]) (HPZ.out _ (by decide)).2 (HF4.out.below ((Below.refl _ _).alloc (Nat.le_refl _) _)) (by simp)).mono ?_
            rintro e w4 ⟨rfl, hb4⟩
            have HB4 := Lib.hid ((HB3.out.alloc HB3.out.size (.cells #[.string (b1 33), .string (b2 45 114), .string path] 9)).trans (hb4.mono (Nat.le_trans HB3.out.size (by simp))))
            clear hb4
            go_wp2
            go_roundw
            case rel => exact ⟨5, by omega, rfl, HB4⟩
            case measure => simp [intOf]
      · have hc := HC.out 5 (by omega)
        replace hc : wr.cell? ⟨w1.heap.size + 1, 5, none⟩ = some (.string (b2 45 119)) := hc
        have hsay : (f.is && sayS 119 f) = (is && (bits .and .i64 may 2 != 0)) := by rw [← HFF.out]; rfl
        have HSAY := Lib.hid hsay
        clear hsay HC
        cases is with
        | false =>
          have HBB : Hid ((f.is && sayS 119 f) = false) := Lib.hid (by rw [HSAY.out]; rfl)
          clear HSAY
          have HT : Hid (tellS [b2 45 119, path] [f] = .inl 1 ∧ tellS [b1 33, b2 45 119, path] [f] = .inl 0) := Lib.hid (by rw [kind_two (c := 119) (by decide) path f HFP.out, kind_three (c := 119) (by decide) path f HFP.out, HBB.out]; exact ⟨rfl, rfl⟩)
          clear HBB
          go_wp2_with fail
          refine (ck_lit HT.out.1 (argS_new wr [b2 45 119, path]) (HPZ.out _ (by decide)).1 (HF3.out.below ((Below.refl _ _).alloc (Nat.le_refl _) _)) (by simp)).mono ?_
          rintro e w3 ⟨rfl, hb3⟩
          have HB3 := Lib.hid ((HH.out.alloc HH.out.size (.cells #[.string (b2 45 119), .string path] 9)).trans (hb3.mono (Nat.le_trans HH.out.size (by simp))))
          have HF4 := Lib.hid (HF.out.below HB3.out)
          clear hb3
          go_wp2_with fail
          refine (ck_lit HT.out.2 (argS_new w3 [b1 33, b2 45 119, path]) (HPZ.out _ (by decide)).2 (HF4.out.below ((Below.refl _ _).alloc (Nat.le_refl _) _)) (by simp)).mono ?_
          rintro e w4 ⟨rfl, hb4⟩
          have HB4 := Lib.hid ((HB3.out.alloc HB3.out.size (.cells #[.string (b1 33), .string (b2 45 119), .string path] 9)).trans (hb4.mono (Nat.le_trans HB3.out.size (by simp))))
          clear hb4
          go_wp2
          go_roundw
          case rel => exact ⟨6, by omega, rfl, HB4⟩
          case measure => simp [intOf]
        | true =>
          obtain ⟨x, hx⟩ : ∃ x, (bits .and .i64 may 2 != 0) = x := ⟨_, rfl⟩
          rw [hx] at HSAY
          cases x with
          | true =>
            have HBB : Hid ((f.is && sayS 119 f) = true) := Lib.hid (by rw [HSAY.out]; rfl)
            clear HSAY
            have HT : Hid (tellS [b2 45 119, path] [f] = .inl 0 ∧ tellS [b1 33, b2 45 119, path] [f] = .inl 1) := Lib.hid (by rw [kind_two (c := 119) (by decide) path f HFP.out, kind_three (c := 119) (by decide) path f HFP.out, HBB.out]; exact ⟨rfl, rfl⟩)
            clear HBB
            go_wp2_with fail
            refine (ck_lit HT.out.1 (argS_new wr [b2 45 119, path]) (HPZ.out _ (by decide)).1 (HF3.out.below ((Below.refl _ _).alloc (Nat.le_refl _) _)) (by simp)).mono ?_
            rintro e w3 ⟨rfl, hb3⟩
            have HB3 := Lib.hid ((HH.out.alloc HH.out.size (.cells #[.string (b2 45 119), .string path] 9)).trans (hb3.mono (Nat.le_trans HH.out.size (by simp))))
            have HF4 := Lib.hid (HF.out.below HB3.out)
            clear hb3
            go_wp2_with fail
            refine (ck_lit HT.out.2 (argS_new w3 [b1 33, b2 45 119, path]) (HPZ.out _ (by decide)).2 (HF4.out.below ((Below.refl _ _).alloc (Nat.le_refl _) _)) (by simp)).mono ?_
            rintro e w4 ⟨rfl, hb4⟩
            have HB4 := Lib.hid ((HB3.out.alloc HB3.out.size (.cells #[.string (b1 33), .string (b2 45 119), .string path] 9)).trans (hb4.mono (Nat.le_trans HB3.out.size (by simp))))
            clear hb4
            go_wp2
            go_roundw
            case rel => exact ⟨6, by omega, rfl, HB4⟩
            case measure => simp [intOf]
          | false =>
            have HBB : Hid ((f.is && sayS 119 f) = false) := Lib.hid (by rw [HSAY.out]; rfl)
            clear HSAY
            have HT : Hid (tellS [b2 45 119, path] [f] = .inl 1 ∧ tellS [b1 33, b2 45 119, path] [f] = .inl 0) := Lib.hid (by rw [kind_two (c := 119) (by decide) path f HFP.out, kind_three (c := 119) (by decide) path f HFP.out, HBB.out]; exact ⟨rfl, rfl⟩)
            clear HBB
            go_wp2_with fail
            refine (ck_lit HT.out.1 (argS_new wr [b2 45 119, path]) (HPZ.out _ (by decide)).1 (HF3.out.below ((Below.refl _ _).alloc (Nat.le_refl _) _)) (by simp)).mono ?_
            rintro e w3 ⟨rfl, hb3⟩
            have HB3 := Lib.hid ((HH.out.alloc HH.out.size (.cells #[.string (b2 45 119), .string path] 9)).trans (hb3.mono (Nat.le_trans HH.out.size (by simp))))
            have HF4 := Lib.hid (HF.out.below HB3.out)
            clear hb3
            go_wp2_with fail
            refine (ck_lit HT.out.2 (argS_new w3 [b1 33, b2 45 119, path]) (HPZ.out _ (by decide)).2 (HF4.out.below ((Below.refl _ _).alloc (Nat.le_refl _) _)) (by simp)).mono ?_
            rintro e w4 ⟨rfl, hb4⟩
            have HB4 := Lib.hid ((HB3.out.alloc HB3.out.size (.cells #[.string (b1 33), .string (b2 45 119), .string path] 9)).trans (hb4.mono (Nat.le_trans HB3.out.size (by simp))))
            clear hb4
            go_wp2
            go_roundw
            case rel => exact ⟨6, by omega, rfl, HB4⟩
            case measure => simp [intOf]
      · have hc := HC.out 6 (by omega)
        replace hc : wr.cell? ⟨w1.heap.size + 1, 6, none⟩ = some (.string (b2 45 120)) := hc
        have hsay : (f.is && sayS 120 f) = (is && (bits .and .i64 may 1 != 0)) := by rw [← HFF.out]; rfl
        have HSAY := Lib.hid hsay
        clear hsay HC
        cases is with
        | false =>
          have HBB : Hid ((f.is && sayS 120 f) = false) := Lib.hid (by rw [HSAY.out]; rfl)
          clear HSAY
          have HT : Hid (tellS [b2 45 120, path] [f] = .inl 1 ∧ tellS [b1 33, b2 45 120, path] [f] = .inl 0) := Lib.hid (by rw [kind_two (c := 120) (by decide) path f HFP.out, kind_three (c := 120) (by decide) path f HFP.out, HBB.out]; exact ⟨rfl, rfl⟩)
          clear HBB
          go_wp2_with fail
          refine (ck_lit HT.out.1 (argS_new wr [b2 45 120, path]) (HPZ.out _ (by decide)).1 (HF3.out.below ((Below.refl _ _).alloc (Nat.le_refl _) _)) (by simp)).mono ?_
          rintro e w3 ⟨rfl, hb3⟩
          have HB3 := Lib.hid ((HH.out.alloc HH.out.size (.cells #[.string (b2 45 120), .string path] 9)).trans (hb3.mono (Nat.le_trans HH.out.size (by simp))))
          have HF4 := Lib.hid (HF.out.below HB3.out)
          clear hb3
          go_wp2_with fail
          refine (ck_lit HT.out.2 (argS_new w3 [b1 33, b2 45 120, path]) (HPZ.out _ (by decide)).2 (HF4.out.below ((Below.refl _ _).alloc (Nat.le_refl _) _)) (by simp)).mono ?_
          rintro e w4 ⟨rfl, hb4⟩
          have HB4 := Lib.hid ((HB3.out.alloc HB3.out.size (.cells #[.string (b1 33), .string (b2 45 120), .string path] 9)).trans (hb4.mono (Nat.le_trans HB3.out.size (by simp))))
          clear hb4
          go_wp2
          go_roundw
          case rel => exact ⟨7, by omega, rfl, HB4⟩
          case measure => simp [intOf]
        | true =>
          obtain ⟨x, hx⟩ : ∃ x, (bits .and .i64 may 1 != 0) = x := ⟨_, rfl⟩
          rw [hx] at HSAY
          cases x with
          | true =>
            have HBB : Hid ((f.is && sayS 120 f) = true) := Lib.hid (by rw [HSAY.out]; rfl)
            clear HSAY
            have HT : Hid (tellS [b2 45 120, path] [f] = .inl 0 ∧ tellS [b1 33, b2 45 120, path] [f] = .inl 1) := Lib.hid (by rw [kind_two (c := 120) (by decide) path f HFP.out, kind_three (c := 120) (by decide) path f HFP.out, HBB.out]; exact ⟨rfl, rfl⟩)
            clear HBB
            go_wp2_with fail
            refine (ck_lit HT.out.1 (argS_new wr [b2 45 120, path]) (HPZ.out _ (by decide)).1 (HF3.out.below ((Below.refl _ _).alloc (Nat.le_refl _) _)) (by simp)).mono ?_
            rintro e w3 ⟨rfl, hb3⟩
            have HB3 := Lib.hid ((HH.out.alloc HH.out.size (.cells #[.string (b2 45 120), .string path] 9)).trans (hb3.mono (Nat.le_trans HH.out.size (by simp))))
            have HF4 := Lib.hid (HF.out.below HB3.out)
            clear hb3
            go_wp2_with fail
            refine (ck_lit HT.out.2 (argS_new w3 [b1 33, b2 45 120, path]) (HPZ.out _ (by decide)).2 (HF4.out.below ((Below.refl _ _).alloc (Nat.le_refl _) _)) (by simp)).mono ?_
            rintro e w4 ⟨rfl, hb4⟩
            have HB4 := Lib.hid ((HB3.out.alloc HB3.out.size (.cells #[.string (b1 33), .string (b2 45 120), .string path] 9)).trans (hb4.mono (Nat.le_trans HB3.out.size (by simp))))
            clear hb4
            go_wp2
            go_roundw
            case rel => exact ⟨7, by omega, rfl, HB4⟩
            case measure => simp [intOf]
          | false =>
            have HBB : Hid ((f.is && sayS 120 f) = false) := Lib.hid (by rw [HSAY.out]; rfl)
            clear HSAY
            have HT : Hid (tellS [b2 45 120, path] [f] = .inl 1 ∧ tellS [b1 33, b2 45 120, path] [f] = .inl 0) := Lib.hid (by rw [kind_two (c := 120) (by decide) path f HFP.out, kind_three (c := 120) (by decide) path f HFP.out, HBB.out]; exact ⟨rfl, rfl⟩)
            clear HBB
            go_wp2_with fail
            refine (ck_lit HT.out.1 (argS_new wr [b2 45 120, path]) (HPZ.out _ (by decide)).1 (HF3.out.below ((Below.refl _ _).alloc (Nat.le_refl _) _)) (by simp)).mono ?_
            rintro e w3 ⟨rfl, hb3⟩
            have HB3 := Lib.hid ((HH.out.alloc HH.out.size (.cells #[.string (b2 45 120), .string path] 9)).trans (hb3.mono (Nat.le_trans HH.out.size (by simp))))
            have HF4 := Lib.hid (HF.out.below HB3.out)
            clear hb3
            go_wp2_with fail
            refine (ck_lit HT.out.2 (argS_new w3 [b1 33, b2 45 120, path]) (HPZ.out _ (by decide)).2 (HF4.out.below ((Below.refl _ _).alloc (Nat.le_refl _) _)) (by simp)).mono ?_
            rintro e w4 ⟨rfl, hb4⟩
            have HB4 := Lib.hid ((HB3.out.alloc HB3.out.size (.cells #[.string (b1 33), .string (b2 45 120), .string path] 9)).trans (hb4.mono (Nat.le_trans HB3.out.size (by simp))))
            clear hb4
            go_wp2
            go_roundw
            case rel => exact ⟨7, by omega, rfl, HB4⟩
            case measure => simp [intOf]
      · have hc := HC.out 7 (by omega)
        replace hc : wr.cell? ⟨w1.heap.size + 1, 7, none⟩ = some (.string (b2 45 115)) := hc
        have hsay : (f.is && sayS 115 f) = (is && (decide (0 < size))) := by rw [← HFF.out]; rfl
        have HSAY := Lib.hid hsay
        clear hsay HC
        cases is with
        | false =>
          have HBB : Hid ((f.is && sayS 115 f) = false) := Lib.hid (by rw [HSAY.out]; rfl)
          clear HSAY
          have HT : Hid (tellS [b2 45 115, path] [f] = .inl 1 ∧ tellS [b1 33, b2 45 115, path] [f] = .inl 0) := Lib.hid (by rw [kind_two (c := 115) (by decide) path f HFP.out, kind_three (c := 115) (by decide) path f HFP.out, HBB.out]; exact ⟨rfl, rfl⟩)
          clear HBB
          go_wp2_with fail
          refine (ck_lit HT.out.1 (argS_new wr [b2 45 115, path]) (HPZ.out _ (by decide)).1 (HF3.out.below ((Below.refl _ _).alloc (Nat.le_refl _) _)) (by simp)).mono ?_
          rintro e w3 ⟨rfl, hb3⟩
          have HB3 := Lib.hid ((HH.out.alloc HH.out.size (.cells #[.string (b2 45 115), .string path] 9)).trans (hb3.mono (Nat.le_trans HH.out.size (by simp))))
          have HF4 := Lib.hid (HF.out.below HB3.out)
          clear hb3
          go_wp2_with fail
          refine (ck_lit HT.out.2 (argS_new w3 [b1 33, b2 45 115, path]) (HPZ.out _ (by decide)).2 (HF4.out.below ((Below.refl _ _).alloc (Nat.le_refl _) _)) (by simp)).mono ?_
          rintro e w4 ⟨rfl, hb4⟩
          have HB4 := Lib.hid ((HB3.out.alloc HB3.out.size (.cells #[.string (b1 33), .string (b2 45 115), .string path] 9)).trans (hb4.mono (Nat.le_trans HB3.out.size (by simp))))
          clear hb4
          go_wp2
          go_roundw
          case rel => exact ⟨8, by omega, rfl, HB4⟩
          case measure => simp [intOf]
        | true =>
          obtain ⟨x, hx⟩ : ∃ x, (decide (0 < size)) = x := ⟨_, rfl⟩
          rw [hx] at HSAY
          cases x with
          | true =>
            have HBB : Hid ((f.is && sayS 115 f) = true) := Lib.hid (by rw [HSAY.out]; rfl)
            clear HSAY
            have hx2 : 0 < size := by simpa using hx
            clear hx
            have HT : Hid (tellS [b2 45 115, path] [f] = .inl 0 ∧ tellS [b1 33, b2 45 115, path] [f] = .inl 1) := Lib.hid (by rw [kind_two (c := 115) (by decide) path f HFP.out, kind_three (c := 115) (by decide) path f HFP.out, HBB.out]; exact ⟨rfl, rfl⟩)
            clear HBB
            go_wp2_with fail
            refine (ck_lit HT.out.1 (argS_new wr [b2 45 115, path]) (HPZ.out _ (by decide)).1 (HF3.out.below ((Below.refl _ _).alloc (Nat.le_refl _) _)) (by simp)).mono ?_
            rintro e w3 ⟨rfl, hb3⟩
            have HB3 := Lib.hid ((HH.out.alloc HH.out.size (.cells #[.string (b2 45 115), .string path] 9)).trans (hb3.mono (Nat.le_trans HH.out.size (by simp))))
            have HF4 := Lib.hid (HF.out.below HB3.out)
            clear hb3
            go_wp2_with fail
            refine (ck_lit HT.out.2 (argS_new w3 [b1 33, b2 45 115, path]) (HPZ.out _ (by decide)).2 (HF4.out.below ((Below.refl _ _).alloc (Nat.le_refl _) _)) (by simp)).mono ?_
            rintro e w4 ⟨rfl, hb4⟩
            have HB4 := Lib.hid ((HB3.out.alloc HB3.out.size (.cells #[.string (b1 33), .string (b2 45 115), .string path] 9)).trans (hb4.mono (Nat.le_trans HB3.out.size (by simp))))
            clear hb4
            go_wp2
            go_roundw
            case rel => exact ⟨8, by omega, rfl, HB4⟩
            case measure => simp [intOf]
          | false =>
            have HBB : Hid ((f.is && sayS 115 f) = false) := Lib.hid (by rw [HSAY.out]; rfl)
            clear HSAY
            have hx2 : ¬ 0 < size := by simpa using hx
            clear hx
            have HT : Hid (tellS [b2 45 115, path] [f] = .inl 1 ∧ tellS [b1 33, b2 45 115, path] [f] = .inl 0) := Lib.hid (by rw [kind_two (c := 115) (by decide) path f HFP.out, kind_three (c := 115) (by decide) path f HFP.out, HBB.out]; exact ⟨rfl, rfl⟩)
            clear HBB
            go_wp2_with fail
            refine (ck_lit HT.out.1 (argS_new wr [b2 45 115, path]) (HPZ.out _ (by decide)).1 (HF3.out.below ((Below.refl _ _).alloc (Nat.le_refl _) _)) (by simp)).mono ?_
            rintro e w3 ⟨rfl, hb3⟩
            have HB3 := Lib.hid ((HH.out.alloc HH.out.size (.cells #[.string (b2 45 115), .string path] 9)).trans (hb3.mono (Nat.le_trans HH.out.size (by simp))))
            have HF4 := Lib.hid (HF.out.below HB3.out)
            clear hb3
            go_wp2_with fail
            refine (ck_lit HT.out.2 (argS_new w3 [b1 33, b2 45 115, path]) (HPZ.out _ (by decide)).2 (HF4.out.below ((Below.refl _ _).alloc (Nat.le_refl _) _)) (by simp)).mono ?_
            rintro e w4 ⟨rfl, hb4⟩
            have HB4 := Lib.hid ((HB3.out.alloc HB3.out.size (.cells #[.string (b1 33), .string (b2 45 115), .string path] 9)).trans (hb4.mono (Nat.le_trans HB3.out.size (by simp))))
            clear hb4
            go_wp2
            go_roundw
            case rel => exact ⟨8, by omega, rfl, HB4⟩
            case measure => simp [intOf]
    · have hlt1 : ¬ (k : Int) < 8 := by omega
      have HBZ := Lib.hid (HB2.out.trans (HH.out.mono HB2.out.size))
      go_wp2
      go_ret
      exact ⟨rfl, HBZ.out⟩
end Go.Proofs.YthomdgejbkcljaaDoor
