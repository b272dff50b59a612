import Derived.Test.YtinmdegmnepheaaDoorF
namespace Go.Proofs.YtinmdegmnepheaaDoor
open Go.RowKit

/-- What Base's two parts are to the text. -/
structure BaseOk (s a b : ByteArray) : Prop where
  no : ∀ (j : Nat) (h : j < b.size), b[j] ≠ 47
  le : a.size + b.size ≤ s.size
  eq : a ++ b = s.extract 0 (a.size + b.size)
  rest : ∀ (j : Nat) (h : j < s.size), a.size + b.size ≤ j → s[j] = 47
  some : b.size = 0 → a.size + b.size = s.size
  last : ¬ b.size = 0 → ¬ a.size = 0 → ∃ h : a.size - 1 < a.size, a[a.size - 1] = 47
theorem ba_append (s : ByteArray) (i n : Nat) (hi : i ≤ n) (hn : n ≤ s.size) : s.extract 0 i ++ s.extract i n = s.extract 0 n := by
  apply ByteArray.ext; apply Array.ext'
  rw [ByteArray.data_append, Array.toList_append, ex_data, ex_data, ex_data]
  simp only [List.drop_zero]
  have : s.data.toList.take i = (s.data.toList.take n).take i := by rw [List.take_take, Nat.min_eq_left hi]
  rw [this, List.take_append_drop]
theorem ex_at (s : ByteArray) (i n j : Nat) (h : j < (s.extract i n).size) : ∃ h' : i + j < s.size, (s.extract i n)[j] = s[i + j] := by
  rw [ByteArray.size_extract] at h
  refine ⟨by omega, ?_⟩
  have h1 : i + j < s.data.size := by have : s.data.size = s.size := rfl; omega
  rw [ByteArray.getElem_extract]
theorem base_ok (s : ByteArray) (n i : Nat) (hn : IsTrim s n) (hi : IsCut s n i) : BaseOk s (bA s n i) (bB s n i) := by
  obtain ⟨n1, n2, n3⟩ := hn
  obtain ⟨i1, i2, i3⟩ := hi
  by_cases h0 : n = 0
  · subst h0
    have e : bB s 0 i = ⟨#[]⟩ := rfl
    have e2 : bA s 0 i = s := rfl
    rw [e, e2]
    have z : (⟨#[]⟩ : ByteArray).size = 0 := rfl
    refine ⟨fun j h => by rw [z] at h; omega, by rw [z]; omega, ?_, fun j h h2 => by rw [z] at h2; omega, fun _ => by rw [z]; omega, fun h => by rw [z] at h; omega⟩
    rw [z, Nat.add_zero]
    apply ByteArray.ext; apply Array.ext'
    rw [ex_data]; simp [ByteArray.data_append]
    rw [List.take_of_length_le (by simp)]
  · have e : bB s n i = s.extract i n := by simp [bB, h0]
    have e2 : bA s n i = s.extract 0 i := by simp [bA, h0]
    rw [e, e2]
    have z1 : (s.extract i n).size = n - i := by rw [ByteArray.size_extract]; omega
    have z2 : (s.extract 0 i).size = i := by rw [ByteArray.size_extract]; omega
    have hs : i + (n - i) = n := by omega
    refine ⟨fun j h => ?_, by omega, ?_, fun j h h2 => ?_, fun h => ?_, fun h1 h2 => ?_⟩
    · obtain ⟨h', ex⟩ := ex_at s i n j h
      rw [ex, ← data_get]
      exact i2 (i + j) (by omega) (by omega)
    · rw [z1, z2, hs]; exact ba_append s i n i1 n1
    · rw [← data_get]; exact n2 j (by omega) h
    · exfalso
      rw [z1] at h
      obtain rfl : i = n := by omega
      rcases n3 with h3 | h3
      · exact h0 h3
      · rcases i3 with h4 | h4
        · exact h0 h4
        · exact h3 h4
    · refine ⟨by omega, ?_⟩
      obtain ⟨h', ex⟩ := ex_at s 0 i ((s.extract 0 i).size - 1) (by omega)
      rw [ex, ← data_get]
      rcases i3 with h3 | h3
      · omega
      · rw [z2, Nat.zero_add]; exact h3

set_option maxHeartbeats 1000000 in
theorem bases_law (s : ByteArray) (w : World) (hs : s.size ≤ 140737488351232) :
    Calls Tryd.prog 6 #[.string s] w fun e w' => e = .returned (.bool true) ∧ Below w.heap.size w w' := by
  obtain ⟨n, hn⟩ := trim_is s
  obtain ⟨i, hi⟩ := cut_is s n
  have HN := Lib.hid hn
  have HI := Lib.hid hi
  have HK := Lib.hid (base_ok s n i hn hi)
  clear hn hi
  go_enter Tryd.func6, Tryd.ntmps6
  go_wp2_with fail
  refine (shown_any w).mono ?_
  rintro e w1 ⟨rfl, hb⟩
  have HB := Lib.hid hb
  clear hb
  go_wp2_with fail
  refine (base_any s n i HN.out HI.out _ hs).mono ?_
  rintro e w2 ⟨rfl, k, rfl⟩
  generalize bA s n i = a at HK
  generalize bB s n i = b at HK
  have hle := HK.out.le
  have hs1 : (s.size : Int) ≤ 140737488351232 := by omega
  have hab : (a.size : Int) + b.size ≤ s.size := by omega
  go_wp2
  go_loopw [6] (fun x wr => ∃ q k : Nat, k ≤ b.size ∧ x = .int .i64 k ∧ wr = w1.drewN q) (fun x _ => b.size - (intOf x).toNat)
  case atStart => exact ⟨k, 0, Nat.zero_le _, rfl, rfl⟩
  case round =>
    obtain ⟨q, j, hj, rfl, rfl⟩ := hrel
    by_cases hlt : j < b.size
    · have hlt1 : (j : Int) < b.size := by omega
      have hne := HK.out.no j hlt
      have hbb : ((b[j].toNat : Int) == 47) = false := by
        simp; exact fun h => hne (UInt8.toNat_inj.1 (by have e : (47 : UInt8).toNat = 47 := rfl; omega))
      clear hne
      go_wp2
      go_roundw
      case rel => exact ⟨q, j + 1, by omega, by go_num, rfl⟩
      case measure => simp [intOf]; omega
    · obtain rfl : j = b.size := by omega
      have hgt : ¬ ((s.size : Int) < (a.size : Int) + b.size) := by omega
      have em : ((a.size : Int) + b.size).toNat = a.size + b.size := by omega
      have HE := HK.out.eq
      go_wp2
      go_loopw [8] (fun x wr => ∃ q k : Nat, a.size + b.size ≤ k ∧ k ≤ s.size ∧ x = .int .i64 k ∧ wr = w1.drewN q) (fun x _ => s.size - (intOf x).toNat)
      case atStart => exact ⟨_, a.size + b.size, Nat.le_refl _, by omega, by go_num, rfl⟩
      case round =>
        obtain ⟨q, j, hj1, hj2, rfl, rfl⟩ := hrel
        by_cases hlt : j < s.size
        · have hlt1 : (j : Int) < s.size := by omega
          have he := HK.out.rest j hlt hj1
          have hbb : ((s[j].toNat : Int) == 47) = true := by rw [he]; rfl
          clear he
          go_wp2
          go_roundw
          case rel => exact ⟨q, j + 1, by omega, by omega, by go_num, rfl⟩
          case measure => simp [intOf]; omega
        · have hlt1 : ¬ (j : Int) < s.size := by omega
          obtain rfl : j = s.size := by omega
          have HL := HK.out.last
          have HS := HK.out.some
          by_cases hb0 : b.size = 0
          · have e1 : b.toList = [] := by rw [toList_data]; exact List.eq_nil_of_length_eq_zero (by rw [sz]; exact hb0)
            have e2 : (a.size : Int) = s.size := by have := HS hb0; omega
            clear HL HS
            go_wp2
            go_ret
            exact ⟨rfl, belowN HB.out _⟩
          · have e1 : b.toList.isEmpty = false := by
              rw [toList_data]
              cases hh : b.data.toList with
              | nil => exact absurd (by rw [← sz, hh]; rfl) hb0
              | cons => rfl
            by_cases ha0 : a.size = 0
            · have e2 : a.toList = [] := by rw [toList_data]; exact List.eq_nil_of_length_eq_zero (by rw [sz]; exact ha0)
              clear HL HS
              go_wp2
              go_ret
              exact ⟨rfl, belowN HB.out _⟩
            · have e2 : a.toList.isEmpty = false := by
                rw [toList_data]
                cases hh : a.data.toList with
                | nil => exact absurd (by rw [← sz, hh]; rfl) ha0
                | cons => rfl
              obtain ⟨h, hl⟩ := HL hb0 ha0
              have e3 : ((a.size : Int) - 1).toNat = a.size - 1 := by omega
              have e4 : ((a[a.size - 1].toNat : Int) == 47) = true := by rw [hl]; rfl
              have ha1 : (0 : Int) < a.size := by omega
              clear HL HS hl
              go_wp2
              go_ret
              exact ⟨rfl, belowN HB.out _⟩
end Go.Proofs.YtinmdegmnepheaaDoor
