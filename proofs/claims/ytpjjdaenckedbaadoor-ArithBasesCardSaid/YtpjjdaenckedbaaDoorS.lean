/- Digits of a number: the document's. -/
import Derived.Test.YtpjjdaenckedbaaDoorR
import Derived.Maps.AppendAt
namespace Go.Proofs.YtpjjdaenckedbaaDoor
open Go.RowKit

theorem conv_new (W : World) (d : Nat) (hd : d < 10) : (convert 34 9 (.slice (some ⟨W.heap.size, 0, none⟩) 1 1)).run Tryd.prog (W.alloc (Obj.cells #[.int .u8 (48 + (d : Int))] 5)) = .ok (.string ⟨#[dch d]⟩) (W.alloc (Obj.cells #[.int .u8 (48 + (d : Int))] 5)) := by
  have hcd : ((dch d).toNat : Int) = 48 + (d : Int) := by rw [toNat_dch d (by omega)]; omega
  rw [← hcd]
  exact run_convert_bytes_back (P := Tryd.prog) (W.alloc (Obj.cells #[.int .u8 ((dch d).toNat : Int)] 5)) 34 9 5 ⟨W.heap.size, 0, none⟩ 1 [dch d] Tryd.underlying34 Tryd.underlying5 Tryd.underlying9 (fun j hj => by
    obtain rfl : j = 0 := by simp at hj; exact hj
    exact cell_one_new W (.int .u8 ((dch d).toNat : Int)) 5 0 _ rfl)
theorem one_app (c : UInt8) (S : ByteArray) : (⟨#[c]⟩ ++ S : ByteArray).data.toList = c :: S.data.toList := by
  rw [ByteArray.data_append, Array.toList_append]; rfl
set_option maxHeartbeats 1000000 in
set_option maxRecDepth 100000 in
theorem digits_loop (a : Nat) (ha : a ≤ 9223372036854775808) (neg : Bool) (n : Int) (hn : n = if neg = true then -(a : Int) else a) (hz : neg = true → 0 < a) (w : World) :
    Calls Tryd.prog 9 #[.int .i64 n] w fun e w' => ∃ s : ByteArray, s.data.toList = decI n ∧ e = .returned (.string s) ∧ Below w.heap.size w w' := by
  have hneg : decide (n < 0) = neg := by
    rw [hn]
    cases neg with
    | true => have := hz rfl; simp; omega
    | false => simp
  have hab : n.natAbs = a := by rw [hn]; cases neg <;> simp
  have HD : Hid (decI n = if neg = true then 45 :: decN a else decN a) := Lib.hid (by
    unfold decI
    rw [hab, ← hneg]
    by_cases h : n < 0 <;> simp [h])
  have HF := Lib.hid (decN_len (u := a) (k := 18) (by omega))
  have ha1 : (a : Int) ≤ 9223372036854775808 := by omega
  have HN := Lib.hid (And.intro hn hz)
  clear hab hn ha
  go_enter Tryd.func9, Tryd.ntmps9
  go_upto_if 8 with fail
  go_cut [3] from 5 to 10 (fun v3 wx => v3 = .int .u64 a ∧ wx = w)
  case first =>
    cases neg with
    | true =>
      have hn2 : n = -(a : Int) := HN.out.1
      have hp := HN.out.2 rfl
      have hlt : n < 0 := by omega
      have hw : IntKind.u64.wrap n = 18446744073709551616 - (a : Int) := by rw [IntKind.wrap_u64]; omega
      have hw2 : IntKind.u64.wrap (-(18446744073709551616 - (a : Int))) = a := by rw [IntKind.wrap_u64]; omega
      generalize (18446744073709551616 - (a : Int)) = M at *
      clear hneg ha1 hn2 hp
      go_wp2
      go_meet
      exact ⟨rfl, rfl⟩
    | false =>
      have hn2 : n = (a : Int) := HN.out.1
      have hlt : ¬ n < 0 := by omega
      have hw : IntKind.u64.wrap n = (a : Int) := by rw [IntKind.wrap_u64]; omega
      clear hneg ha1 hn2
      go_wp2
      go_meet
      exact ⟨rfl, rfl⟩
  case rest =>
    obtain ⟨rfl, hwx⟩ := hcut
    subst hwx
    have HA := Lib.hid ha1
    clear ha1
    go_upto_region 5 with fail
    go_loopw [3, 4] (fun v3 v4 wr => ∃ (u : Nat) (S : ByteArray), v3 = .int .u64 u ∧ v4 = .string S ∧ Hid (decN a = decN u ++ S.data.toList ∧ u ≤ a ∧ Below wc.heap.size wc wr)) (fun v3 v4 _ => (intOf v3).toNat)
    case atStart => exact ⟨a, ⟨#[]⟩, rfl, rfl, Lib.hid ⟨by simp, Nat.le_refl _, Below.refl _ _⟩⟩
    case round =>
      obtain ⟨u, S, rfl, rfl, HH⟩ := hrel
      have hSz : S.size ≤ 19 := by
        have h1 := congrArg List.length HH.out.1
        rw [List.length_append] at h1
        have hs2 : S.data.toList.length = S.size := rfl
        have := HF.out
        omega
      have zs : ¬ 9223372036854775807 < 1 + S.size := by omega
      have zs2 : ¬ 9223372036854775807 < 1 + (1 + S.size) := by omega
      by_cases h9 : 9 < u
      · have h91 : (9 : Int) < u := by omega
        have hd10 : u % 10 < 10 := Nat.mod_lt _ (by decide)
        have hdec := decN_ge (u := u) (by omega)
        have hm : (u : Int) % 10 = ((u % 10 : Nat) : Int) := by omega
        have hq : (u : Int) / 10 = ((u / 10 : Nat) : Int) := by omega
        have hc := conv_new wr (u % 10) hd10
        have hu := HH.out.2.1
        have HN2 : Hid (decN a = decN (u / 10) ++ (⟨#[dch (u % 10)]⟩ ++ S : ByteArray).data.toList ∧ u / 10 ≤ a ∧ u / 10 < u) := Lib.hid ⟨by rw [one_app, HH.out.1, hdec]; simp, by omega, by omega⟩
        generalize u / 10 = u2 at *
        generalize hdd : u % 10 = d at *
        have w1 : IntKind.u64.wrap (48 + (d : Int)) = 48 + d := by rw [IntKind.wrap_u64]; omega
        have w2 : (48 + (d : Int)) % 256 = 48 + d := Int.emod_eq_of_lt (by omega) (by omega)
        have w3 : (48 + (d : Int)) % 18446744073709551616 = 48 + d := Int.emod_eq_of_lt (by omega) (by omega)
        have hd1 : (d : Int) ≤ 9 := by omega
        have hu2 : u2 ≤ a := HN2.out.2.1
        have hwu : IntKind.u64.wrap (u2 : Int) = u2 := by rw [IntKind.wrap_u64]; have := HA.out; omega
        clear hd10 hdec hu h9 hdd hu2
        go_wp2
        go_roundw
        case rel => exact ⟨u2, _, rfl, rfl, Lib.hid ⟨HN2.out.1, HN2.out.2.1, HH.out.2.2.alloc HH.out.2.2.size _⟩⟩
        case measure => have := HN2.out.2.2; simp [intOf]; omega
      · have h91 : ¬ (9 : Int) < u := by omega
        have hdec := decN_lt (u := u) (by omega)
        have hc := conv_new wr u (by omega)
        have w1 : IntKind.u64.wrap (48 + (u : Int)) = 48 + u := by rw [IntKind.wrap_u64]; omega
        have w2 : (48 + (u : Int)) % 256 = 48 + u := Int.emod_eq_of_lt (by omega) (by omega)
        have HN2 : Hid ((⟨#[dch u]⟩ ++ S : ByteArray).data.toList = decN a) := Lib.hid (by rw [one_app, HH.out.1, hdec]; rfl)
        have HBz := Lib.hid (HH.out.2.2.alloc HH.out.2.2.size (Obj.cells #[.int .u8 (48 + (u : Int))] 5))
        clear hdec HH h9
        cases neg with
        | true =>
          have hlt : n < 0 := by simpa using hneg
          have zs3 : ¬ 9223372036854775807 < 1 + (⟨#[dch u]⟩ ++ S : ByteArray).size := by rw [ByteArray.size_append]; have : (⟨#[dch u]⟩ : ByteArray).size = 1 := rfl; omega
          have HR : Hid (decI n = 45 :: decN a) := Lib.hid HD.out
          clear hneg hz
          go_wp2
          go_ret
          exact ⟨_, by rw [HR.out, one_app, HN2.out], rfl, HBz.out⟩
        | false =>
          have hlt : ¬ n < 0 := by simpa using hneg
          have HR : Hid (decI n = decN a) := Lib.hid HD.out
          clear hneg hz
          go_wp2
          go_ret
          exact ⟨_, by rw [HR.out]; exact HN2.out, rfl, HBz.out⟩
theorem digits_any (n : Int) (hn : IsI n) (w : World) : Calls Tryd.prog 9 #[.int .i64 n] w fun e w' => e = .returned (.string (B (decI n))) ∧ Below w.heap.size w w' := by
  have hfin : ∀ (a : Nat) (neg : Bool), a ≤ 9223372036854775808 → (n = if neg = true then -(a : Int) else a) → (neg = true → 0 < a) → Calls Tryd.prog 9 #[.int .i64 n] w fun e w' => e = .returned (.string (B (decI n))) ∧ Below w.heap.size w w' := fun a neg ha h1 h2 => by
    refine (digits_loop a ha neg n h1 h2 w).mono ?_
    rintro e w' ⟨s, hs, rfl, hb⟩
    refine ⟨?_, hb⟩
    congr 2
    apply ByteArray.ext
    apply Array.ext'
    exact hs
  unfold IsI at hn
  by_cases h : n < 0
  · exact hfin n.natAbs true (by omega) (by rw [if_pos rfl]; omega) (fun _ => by omega)
  · exact hfin n.natAbs false (by omega) (by rw [if_neg (by decide)]; omega) (fun h => by cases h)
end Go.Proofs.YtpjjdaenckedbaaDoor
