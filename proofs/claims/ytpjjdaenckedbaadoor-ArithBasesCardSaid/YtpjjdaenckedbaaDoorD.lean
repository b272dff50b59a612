/- Expressions: a constant. -/
import Derived.Test.YtpjjdaenckedbaaDoorC
import Derived.Deep.QuietTactic
import Derived.BigQuiet
namespace Go.Proofs.YtpjjdaenckedbaaDoor
open Go.RowKit

def conV (x : Option Int) : Value := match x with
  | some n => .tuple #[.int .i64 n, .bool true]
  | none => .tuple #[.int .i64 0, .bool false]
def CoP (x : Option Int) (w : World) (e : Ending) (w' : World) : Prop := e = .returned (conV x) ∧ Below w.heap.size w w'
theorem foldN_step {β : Nat} {t : Bytes} {k acc : Nat} (hk : k < t.length) : foldN β (t.drop k) acc = if β ≤ digV t[k] then none else foldN β (t.drop (k + 1)) ((acc * β + digV t[k]) % 18446744073709551616) := by
  rw [List.drop_eq_getElem_cons hk]; rfl
theorem drewN_below (w : World) : ∀ n, Below w.heap.size w (w.drewN n)
  | 0 => Below.refl _ _
  | n + 1 => (drewN_below w n).drew
theorem u64w (n : Int) : IntKind.u64.wrap n = n % 18446744073709551616 := rfl
theorem acc_eq (β acc d : Nat) (b z : Int) (hb : b = β) (hz : z = d) : Value.int .u64 (IntKind.u64.wrap (IntKind.u64.wrap ((acc : Int) * b) + z)) = .int .u64 (((acc * β + d) % 18446744073709551616 : Nat) : Int) := by
  subst hb hz
  rw [u64w, u64w]
  congr 1
  have : ((acc * β : Nat) : Int) = (acc : Int) * (β : Int) := by simp
  rw [← this]
  generalize acc * β = m
  omega
theorem digV_a {c : UInt8} (h48 : 48 ≤ (c.toNat : Int)) (h57 : (c.toNat : Int) ≤ 57) : digV c = c.toNat - 48 := by
  unfold digV; rw [if_pos ⟨by omega, by omega⟩]
theorem digV_b {c : UInt8} (h : ¬ (48 ≤ (c.toNat : Int) ∧ (c.toNat : Int) ≤ 57)) (h1 : 97 ≤ ((c.toNat ||| 32 : Nat) : Int)) (h2 : ((c.toNat ||| 32 : Nat) : Int) ≤ 102) : digV c = (c.toNat ||| 32) - 97 + 10 := by
  unfold digV
  rw [if_neg (by omega), UInt8.toNat_or, if_pos ⟨by simpa using (by omega : 97 ≤ c.toNat ||| 32), by simpa using (by omega : c.toNat ||| 32 ≤ 102)⟩]; rfl
theorem digV_c {c : UInt8} (h : ¬ (48 ≤ (c.toNat : Int) ∧ (c.toNat : Int) ≤ 57)) (h1 : ¬ (97 ≤ ((c.toNat ||| 32 : Nat) : Int) ∧ ((c.toNat ||| 32 : Nat) : Int) ≤ 102)) : digV c = 16 := by
  unfold digV
  rw [if_neg (by omega), UInt8.toNat_or, if_neg (by
    intro ⟨a, b⟩
    have a' : 97 ≤ c.toNat ||| 32 := a
    have b' : c.toNat ||| 32 ≤ 102 := b
    omega)]
theorem ret_con {n : Nat} {z : Int} (h : z = w64 n) : Ending.returned (.tuple #[.int .i64 z, .bool true]) = .returned (conV ((some n).map fun (n : Nat) => w64 n)) := by rw [h]; rfl
set_option maxHeartbeats 4000000 in
theorem const_10 (s : Bytes) (w : World) (hs : s.length ≤ 1000) (h1 : [48,120].isPrefixOf s = false) (h2 : [48,88].isPrefixOf s = false) (h3 : [48].isPrefixOf s = false) (hne : s ≠ []) :
    Calls Tryd.prog 40 #[.string (B s)] w (CoP ((foldN 10 s 0).map fun (n : Nat) => w64 n) w) := by
  have H1 := Lib.hid h1
  have H2 := Lib.hid h2
  have H3 := Lib.hid h3
  have hb0 : ((B s).toList == []) = false := by rw [B_list]; simpa using hne
  have hsz : (B s).size = s.length := rfl
  clear h1 h2 h3 hne
  have HW0 := Lib.hid (Below.refl w.heap.size w)
  go_enter Tryd.func40, Tryd.ntmps40
  go_wp2_with fail
  refine (pre_any s [48,120] _).mono ?_
  rw [H1.out]
  rintro e w1 ⟨rfl, rfl⟩
  go_wp2_with fail
  refine (pre_any s [48,88] _).mono ?_
  rw [H2.out]
  rintro e w2 ⟨rfl, rfl⟩
  go_wp2_with fail
  refine (pre_any s [48] _).mono ?_
  rw [H3.out]
  rintro e w3 ⟨rfl, rfl⟩
  go_wp2
  go_loopw [6, 7, 8, 9, 25] (fun v6 v7 v8 v9 v25 wr => ∃ k acc : Nat, k ≤ s.length ∧ v25 = .int .i64 k ∧ v6 = .int .u64 acc ∧ acc ≤ 18446744073709551615 ∧ Hid (foldN 10 (s.drop k) acc = foldN 10 s 0 ∧ Below w3.heap.size w3 wr)) (fun v6 v7 v8 v9 v25 _ => s.length - (intOf v25).toNat)
  case atStart => exact ⟨0, 0, Nat.zero_le _, rfl, rfl, by omega, Lib.hid ⟨rfl, HW0.out⟩⟩
  case round =>
    obtain ⟨k, acc, hk, rfl, rfl, hacc, HH⟩ := hrel
    by_cases hlt : k < s.length
    · have hlt1 : (k : Int) < s.length := by omega
      have HN := Lib.hid (foldN_step (β := 10) (acc := acc) hlt)
      have hb : k < (B s).size := hlt
      have hg : (B s)[k] = s[k] := rfl
      generalize s[k] = c at *
      have h32 := or32 c
      have hz := c.toNat_lt
      by_cases h48 : 48 ≤ (c.toNat : Int)
      · by_cases h57 : (c.toNat : Int) ≤ 57
        · have HD := Lib.hid (digV_a (c := c) h48 h57)
          go_wp2
          go_roundw
          case rel => exact ⟨k + 1, (acc * 10 + digV c) % 18446744073709551616, by omega, by go_num, acc_eq 10 acc _ 10 _ rfl (by rw [HD.out]; omega), by omega, Lib.hid (by rw [← HH.out.1, HN.out, if_neg (by rw [HD.out]; omega)]), HH.out.2⟩
          case measure => simp [intOf]; omega
        · by_cases h97 : 97 ≤ ((c.toNat ||| 32 : Nat) : Int)
          · by_cases h102 : ((c.toNat ||| 32 : Nat) : Int) ≤ 102
            · have HD := Lib.hid (digV_b (c := c) (by omega) h97 h102)
              go_wp2
              go_ret2
              refine ⟨?_, HH.out.2⟩
              rw [← HH.out.1, HN.out, if_pos (by rw [HD.out]; omega)]; rfl
            · have HD := Lib.hid (digV_c (c := c) (by omega) (by omega))
              go_wp2
              go_ret2
              refine ⟨?_, HH.out.2⟩
              rw [← HH.out.1, HN.out, if_pos (by rw [HD.out]; omega)]; rfl
          · have HD := Lib.hid (digV_c (c := c) (by omega) (by omega))
            go_wp2
            go_ret2
            refine ⟨?_, HH.out.2⟩
            rw [← HH.out.1, HN.out, if_pos (by rw [HD.out]; omega)]; rfl
      · by_cases h97 : 97 ≤ ((c.toNat ||| 32 : Nat) : Int)
        · by_cases h102 : ((c.toNat ||| 32 : Nat) : Int) ≤ 102
          · have HD := Lib.hid (digV_b (c := c) (by omega) h97 h102)
            go_wp2
            go_ret2
            refine ⟨?_, HH.out.2⟩
            rw [← HH.out.1, HN.out, if_pos (by rw [HD.out]; omega)]; rfl
          · have HD := Lib.hid (digV_c (c := c) (by omega) (by omega))
            go_wp2
            go_ret2
            refine ⟨?_, HH.out.2⟩
            rw [← HH.out.1, HN.out, if_pos (by rw [HD.out]; omega)]; rfl
        · have HD := Lib.hid (digV_c (c := c) (by omega) (by omega))
          go_wp2
          go_ret2
          refine ⟨?_, HH.out.2⟩
          rw [← HH.out.1, HN.out, if_pos (by rw [HD.out]; omega)]; rfl
    · have hlt1 : ¬ (k : Int) < s.length := by omega
      obtain rfl : k = s.length := by omega
      have HE : Hid (foldN 10 s 0 = some acc) := Lib.hid (by rw [← HH.out.1, List.drop_length]; rfl)
      go_wp2
      go_ret2
      refine ⟨?_, HH.out.2⟩
      rw [HE.out]
      exact ret_con (w64_wrap _).symm
set_option maxHeartbeats 4000000 in
theorem const_8 (s : Bytes) (w : World) (hs : s.length ≤ 1000) (h1 : [48,120].isPrefixOf s = false) (h2 : [48,88].isPrefixOf s = false) (h3 : [48].isPrefixOf s = true) (hne : s ≠ []) :
    Calls Tryd.prog 40 #[.string (B s)] w (CoP ((foldN 8 s 0).map fun (n : Nat) => w64 n) w) := by
  have H1 := Lib.hid h1
  have H2 := Lib.hid h2
  have H3 := Lib.hid h3
  have hb0 : ((B s).toList == []) = false := by rw [B_list]; simpa using hne
  have hsz : (B s).size = s.length := rfl
  clear h1 h2 h3 hne
  have HW0 := Lib.hid (Below.refl w.heap.size w)
  go_enter Tryd.func40, Tryd.ntmps40
  go_wp2_with fail
  refine (pre_any s [48,120] _).mono ?_
  rw [H1.out]
  rintro e w1 ⟨rfl, rfl⟩
  go_wp2_with fail
  refine (pre_any s [48,88] _).mono ?_
  rw [H2.out]
  rintro e w2 ⟨rfl, rfl⟩
  go_wp2_with fail
  refine (pre_any s [48] _).mono ?_
  rw [H3.out]
  rintro e w3 ⟨rfl, rfl⟩
  go_wp2
  go_loopw [6, 7, 8, 9, 25] (fun v6 v7 v8 v9 v25 wr => ∃ k acc : Nat, k ≤ s.length ∧ v25 = .int .i64 k ∧ v6 = .int .u64 acc ∧ acc ≤ 18446744073709551615 ∧ Hid (foldN 8 (s.drop k) acc = foldN 8 s 0 ∧ Below w3.heap.size w3 wr)) (fun v6 v7 v8 v9 v25 _ => s.length - (intOf v25).toNat)
  case atStart => exact ⟨0, 0, Nat.zero_le _, rfl, rfl, by omega, Lib.hid ⟨rfl, HW0.out⟩⟩
  case round =>
    obtain ⟨k, acc, hk, rfl, rfl, hacc, HH⟩ := hrel
    by_cases hlt : k < s.length
    · have hlt1 : (k : Int) < s.length := by omega
      have HN := Lib.hid (foldN_step (β := 8) (acc := acc) hlt)
      have hb : k < (B s).size := hlt
      have hg : (B s)[k] = s[k] := rfl
      generalize s[k] = c at *
      have h32 := or32 c
      have hz := c.toNat_lt
      by_cases h48 : 48 ≤ (c.toNat : Int)
      · by_cases h57 : (c.toNat : Int) ≤ 57
        · by_cases h8 : (c.toNat : Int) - 48 < 8
          · have HD := Lib.hid (digV_a (c := c) h48 h57)
            go_wp2
            go_roundw
            case rel => exact ⟨k + 1, (acc * 8 + digV c) % 18446744073709551616, by omega, by go_num, acc_eq 8 acc _ 8 _ rfl (by rw [HD.out]; omega), by omega, Lib.hid (by rw [← HH.out.1, HN.out, if_neg (by rw [HD.out]; omega)]), HH.out.2⟩
            case measure => simp [intOf]; omega
          · have HD := Lib.hid (digV_a (c := c) h48 h57)
            go_wp2
            go_ret2
            refine ⟨?_, HH.out.2⟩
            rw [← HH.out.1, HN.out, if_pos (by rw [HD.out]; omega)]; rfl
        · by_cases h97 : 97 ≤ ((c.toNat ||| 32 : Nat) : Int)
          · by_cases h102 : ((c.toNat ||| 32 : Nat) : Int) ≤ 102
            · have HD := Lib.hid (digV_b (c := c) (by omega) h97 h102)
              go_wp2
              go_ret2
              refine ⟨?_, HH.out.2⟩
              rw [← HH.out.1, HN.out, if_pos (by rw [HD.out]; omega)]; rfl
            · have HD := Lib.hid (digV_c (c := c) (by omega) (by omega))
              go_wp2
              go_ret2
              refine ⟨?_, HH.out.2⟩
              rw [← HH.out.1, HN.out, if_pos (by rw [HD.out]; omega)]; rfl
          · have HD := Lib.hid (digV_c (c := c) (by omega) (by omega))
            go_wp2
            go_ret2
            refine ⟨?_, HH.out.2⟩
            rw [← HH.out.1, HN.out, if_pos (by rw [HD.out]; omega)]; rfl
      · by_cases h97 : 97 ≤ ((c.toNat ||| 32 : Nat) : Int)
        · by_cases h102 : ((c.toNat ||| 32 : Nat) : Int) ≤ 102
          · have HD := Lib.hid (digV_b (c := c) (by omega) h97 h102)
            go_wp2
            go_ret2
            refine ⟨?_, HH.out.2⟩
            rw [← HH.out.1, HN.out, if_pos (by rw [HD.out]; omega)]; rfl
          · have HD := Lib.hid (digV_c (c := c) (by omega) (by omega))
            go_wp2
            go_ret2
            refine ⟨?_, HH.out.2⟩
            rw [← HH.out.1, HN.out, if_pos (by rw [HD.out]; omega)]; rfl
        · have HD := Lib.hid (digV_c (c := c) (by omega) (by omega))
          go_wp2
          go_ret2
          refine ⟨?_, HH.out.2⟩
          rw [← HH.out.1, HN.out, if_pos (by rw [HD.out]; omega)]; rfl
    · have hlt1 : ¬ (k : Int) < s.length := by omega
      obtain rfl : k = s.length := by omega
      have HE : Hid (foldN 8 s 0 = some acc) := Lib.hid (by rw [← HH.out.1, List.drop_length]; rfl)
      go_wp2
      go_ret2
      refine ⟨?_, HH.out.2⟩
      rw [HE.out]
      exact ret_con (w64_wrap _).symm
set_option maxHeartbeats 4000000 in
theorem const_x (s t : Bytes) (w : World) (hs : s.length ≤ 1000) (ht : s = 48 :: 120 :: t) (hne : t ≠ []) :
    Calls Tryd.prog 40 #[.string (B s)] w (CoP ((foldN 16 t 0).map fun (n : Nat) => w64 n) w) := by
  have H1 : Hid ([48,120].isPrefixOf s = true) := Lib.hid (by subst ht; simp [List.isPrefixOf])
  have hb0 : ((B t).toList == []) = false := by rw [B_list]; simpa using hne
  have he : (B s).extract 2 (B s).size = B t := by subst ht; exact B_drop (48 :: 120 :: t) [1, 2]
  have hl2 : 2 ≤ (B s).size := by subst ht; show 2 ≤ (t.length + 1) + 1; omega
  have htl : t.length ≤ 1000 := by subst ht; simp at hs; omega
  have hsz : (B t).size = t.length := rfl
  clear ht hne hs
  have HW0 := Lib.hid (Below.refl w.heap.size w)
  go_enter Tryd.func40, Tryd.ntmps40
  go_wp2_with fail
  refine (pre_any s [48,120] _).mono ?_
  rw [H1.out]
  rintro e w1 ⟨rfl, rfl⟩
  go_wp2
  go_quiet (fail)
  go_wp2
  go_loopw [6, 7, 8, 9, 25] (fun v6 v7 v8 v9 v25 wr => ∃ k acc : Nat, k ≤ t.length ∧ v25 = .int .i64 k ∧ v6 = .int .u64 acc ∧ acc ≤ 18446744073709551615 ∧ Hid (foldN 16 (t.drop k) acc = foldN 16 t 0 ∧ Below w1.heap.size w1 wr)) (fun v6 v7 v8 v9 v25 _ => t.length - (intOf v25).toNat)
  case atStart => exact ⟨0, 0, Nat.zero_le _, rfl, rfl, by omega, Lib.hid ⟨rfl, drewN_below _ _⟩⟩
  case round =>
    obtain ⟨k, acc, hk, rfl, rfl, hacc, HH⟩ := hrel
    by_cases hlt : k < t.length
    · have hlt1 : (k : Int) < t.length := by omega
      have HN := Lib.hid (foldN_step (β := 16) (acc := acc) hlt)
      have hb : k < (B t).size := hlt
      have hg : (B t)[k] = t[k] := rfl
      generalize t[k] = c at *
      have h32 := or32 c
      have hz := c.toNat_lt
      by_cases h48 : 48 ≤ (c.toNat : Int)
      · by_cases h57 : (c.toNat : Int) ≤ 57
        · have HD := Lib.hid (digV_a (c := c) h48 h57)
          go_wp2
          go_roundw
          case rel => exact ⟨k + 1, (acc * 16 + digV c) % 18446744073709551616, by omega, by go_num, acc_eq 16 acc _ 16 _ rfl (by rw [HD.out]; omega), by omega, Lib.hid (by rw [← HH.out.1, HN.out, if_neg (by rw [HD.out]; omega)]), HH.out.2⟩
          case measure => simp [intOf]; omega
        · by_cases h97 : 97 ≤ ((c.toNat ||| 32 : Nat) : Int)
          · by_cases h102 : ((c.toNat ||| 32 : Nat) : Int) ≤ 102
            · have HD := Lib.hid (digV_b (c := c) (by omega) h97 h102)
              go_wp2
              go_roundw
              case rel => exact ⟨k + 1, (acc * 16 + digV c) % 18446744073709551616, by omega, by go_num, acc_eq 16 acc _ 16 _ rfl (by rw [HD.out]; omega), by omega, Lib.hid (by rw [← HH.out.1, HN.out, if_neg (by rw [HD.out]; omega)]), HH.out.2⟩
              case measure => simp [intOf]; omega
            · have HD := Lib.hid (digV_c (c := c) (by omega) (by omega))
              go_wp2
              go_ret2
              refine ⟨?_, HH.out.2⟩
              rw [← HH.out.1, HN.out, if_pos (by rw [HD.out]; omega)]; rfl
          · have HD := Lib.hid (digV_c (c := c) (by omega) (by omega))
            go_wp2
            go_ret2
            refine ⟨?_, HH.out.2⟩
            rw [← HH.out.1, HN.out, if_pos (by rw [HD.out]; omega)]; rfl
      · by_cases h97 : 97 ≤ ((c.toNat ||| 32 : Nat) : Int)
        · by_cases h102 : ((c.toNat ||| 32 : Nat) : Int) ≤ 102
          · have HD := Lib.hid (digV_b (c := c) (by omega) h97 h102)
            go_wp2
            go_roundw
            case rel => exact ⟨k + 1, (acc * 16 + digV c) % 18446744073709551616, by omega, by go_num, acc_eq 16 acc _ 16 _ rfl (by rw [HD.out]; omega), by omega, Lib.hid (by rw [← HH.out.1, HN.out, if_neg (by rw [HD.out]; omega)]), HH.out.2⟩
            case measure => simp [intOf]; omega
          · have HD := Lib.hid (digV_c (c := c) (by omega) (by omega))
            go_wp2
            go_ret2
            refine ⟨?_, HH.out.2⟩
            rw [← HH.out.1, HN.out, if_pos (by rw [HD.out]; omega)]; rfl
        · have HD := Lib.hid (digV_c (c := c) (by omega) (by omega))
          go_wp2
          go_ret2
          refine ⟨?_, HH.out.2⟩
          rw [← HH.out.1, HN.out, if_pos (by rw [HD.out]; omega)]; rfl
    · have hlt1 : ¬ (k : Int) < t.length := by omega
      obtain rfl : k = t.length := by omega
      have HE : Hid (foldN 16 t 0 = some acc) := Lib.hid (by rw [← HH.out.1, List.drop_length]; rfl)
      go_wp2
      go_ret2
      refine ⟨?_, HH.out.2⟩
      rw [HE.out]
      exact ret_con (w64_wrap _).symm
set_option maxHeartbeats 4000000 in
theorem const_X (s t : Bytes) (w : World) (hs : s.length ≤ 1000) (ht : s = 48 :: 88 :: t) (hne : t ≠ []) :
    Calls Tryd.prog 40 #[.string (B s)] w (CoP ((foldN 16 t 0).map fun (n : Nat) => w64 n) w) := by
  have H1 : Hid ([48,120].isPrefixOf s = false) := Lib.hid (by subst ht; simp [List.isPrefixOf])
  have H2 : Hid ([48,88].isPrefixOf s = true) := Lib.hid (by subst ht; simp [List.isPrefixOf])
  have hb0 : ((B t).toList == []) = false := by rw [B_list]; simpa using hne
  have he : (B s).extract 2 (B s).size = B t := by subst ht; exact B_drop (48 :: 88 :: t) [1, 2]
  have hl2 : 2 ≤ (B s).size := by subst ht; show 2 ≤ (t.length + 1) + 1; omega
  have htl : t.length ≤ 1000 := by subst ht; simp at hs; omega
  have hsz : (B t).size = t.length := rfl
  clear ht hne hs
  have HW0 := Lib.hid (Below.refl w.heap.size w)
  go_enter Tryd.func40, Tryd.ntmps40
  go_wp2_with fail
  refine (pre_any s [48,120] _).mono ?_
  rw [H1.out]
  rintro e w1 ⟨rfl, rfl⟩
  go_wp2_with fail
  refine (pre_any s [48,88] _).mono ?_
  rw [H2.out]
  rintro e w2 ⟨rfl, rfl⟩
  go_wp2
  go_quiet (fail)
  go_wp2
  go_loopw [6, 7, 8, 9, 25] (fun v6 v7 v8 v9 v25 wr => ∃ k acc : Nat, k ≤ t.length ∧ v25 = .int .i64 k ∧ v6 = .int .u64 acc ∧ acc ≤ 18446744073709551615 ∧ Hid (foldN 16 (t.drop k) acc = foldN 16 t 0 ∧ Below w2.heap.size w2 wr)) (fun v6 v7 v8 v9 v25 _ => t.length - (intOf v25).toNat)
  case atStart => exact ⟨0, 0, Nat.zero_le _, rfl, rfl, by omega, Lib.hid ⟨rfl, drewN_below _ _⟩⟩
  case round =>
    obtain ⟨k, acc, hk, rfl, rfl, hacc, HH⟩ := hrel
    by_cases hlt : k < t.length
    · have hlt1 : (k : Int) < t.length := by omega
      have HN := Lib.hid (foldN_step (β := 16) (acc := acc) hlt)
      have hb : k < (B t).size := hlt
      have hg : (B t)[k] = t[k] := rfl
      generalize t[k] = c at *
      have h32 := or32 c
      have hz := c.toNat_lt
      by_cases h48 : 48 ≤ (c.toNat : Int)
      · by_cases h57 : (c.toNat : Int) ≤ 57
        · have HD := Lib.hid (digV_a (c := c) h48 h57)
          go_wp2
          go_roundw
          case rel => exact ⟨k + 1, (acc * 16 + digV c) % 18446744073709551616, by omega, by go_num, acc_eq 16 acc _ 16 _ rfl (by rw [HD.out]; omega), by omega, Lib.hid (by rw [← HH.out.1, HN.out, if_neg (by rw [HD.out]; omega)]), HH.out.2⟩
          case measure => simp [intOf]; omega
        · by_cases h97 : 97 ≤ ((c.toNat ||| 32 : Nat) : Int)
          · by_cases h102 : ((c.toNat ||| 32 : Nat) : Int) ≤ 102
            · have HD := Lib.hid (digV_b (c := c) (by omega) h97 h102)
              go_wp2
              go_roundw
              case rel => exact ⟨k + 1, (acc * 16 + digV c) % 18446744073709551616, by omega, by go_num, acc_eq 16 acc _ 16 _ rfl (by rw [HD.out]; omega), by omega, Lib.hid (by rw [← HH.out.1, HN.out, if_neg (by rw [HD.out]; omega)]), HH.out.2⟩
              case measure => simp [intOf]; omega
            · have HD := Lib.hid (digV_c (c := c) (by omega) (by omega))
              go_wp2
              go_ret2
              refine ⟨?_, HH.out.2⟩
              rw [← HH.out.1, HN.out, if_pos (by rw [HD.out]; omega)]; rfl
          · have HD := Lib.hid (digV_c (c := c) (by omega) (by omega))
            go_wp2
            go_ret2
            refine ⟨?_, HH.out.2⟩
            rw [← HH.out.1, HN.out, if_pos (by rw [HD.out]; omega)]; rfl
      · by_cases h97 : 97 ≤ ((c.toNat ||| 32 : Nat) : Int)
        · by_cases h102 : ((c.toNat ||| 32 : Nat) : Int) ≤ 102
          · have HD := Lib.hid (digV_b (c := c) (by omega) h97 h102)
            go_wp2
            go_roundw
            case rel => exact ⟨k + 1, (acc * 16 + digV c) % 18446744073709551616, by omega, by go_num, acc_eq 16 acc _ 16 _ rfl (by rw [HD.out]; omega), by omega, Lib.hid (by rw [← HH.out.1, HN.out, if_neg (by rw [HD.out]; omega)]), HH.out.2⟩
            case measure => simp [intOf]; omega
          · have HD := Lib.hid (digV_c (c := c) (by omega) (by omega))
            go_wp2
            go_ret2
            refine ⟨?_, HH.out.2⟩
            rw [← HH.out.1, HN.out, if_pos (by rw [HD.out]; omega)]; rfl
        · have HD := Lib.hid (digV_c (c := c) (by omega) (by omega))
          go_wp2
          go_ret2
          refine ⟨?_, HH.out.2⟩
          rw [← HH.out.1, HN.out, if_pos (by rw [HD.out]; omega)]; rfl
    · have hlt1 : ¬ (k : Int) < t.length := by omega
      obtain rfl : k = t.length := by omega
      have HE : Hid (foldN 16 t 0 = some acc) := Lib.hid (by rw [← HH.out.1, List.drop_length]; rfl)
      go_wp2
      go_ret2
      refine ⟨?_, HH.out.2⟩
      rw [HE.out]
      exact ret_con (w64_wrap _).symm
end Go.Proofs.YtpjjdaenckedbaaDoor
