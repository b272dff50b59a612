/- The document's Change. -/
import Derived.Test.YtpoicdpfjmeehaaDoorU
import Derived.Test.YtpoicdpfjmeehaaDoorO
namespace Go.Proofs.YtpoicdpfjmeehaaDoor
open Go.RowKit

/-- What a change makes of a mode. -/
def changeS (dir : Bool) (m : Nat) (l : Bytes) : Option Nat := match octS l with
  | some n => some n
  | none => chL dir m (splitA [] l)
theorem splitA_comma (a l : Bytes) : splitA a (44 :: l) = a :: splitA [] l := by rw [splitA, if_pos rfl]
theorem splitA_other {c : UInt8} (a l : Bytes) (h : ¬ c = 44) : splitA a (c :: l) = splitA (a ++ [c]) l := by rw [splitA, if_neg h]
theorem cons_drop (s : ByteArray) (i : Nat) (h : i < s.size) : s.data.toList.drop i = s[i] :: s.data.toList.drop (i + 1) := by
  rw [List.drop_eq_getElem_cons (by simpa using h)]; rfl
theorem piece_step (s : ByteArray) (f i : Nat) (h : i < s.size) (hf : f ≤ i) : (s.extract f (i + 1)).data.toList = (s.extract f i).data.toList ++ [s[i]] := by
  rw [ex_data, ex_data, List.take_succ_eq_append_getElem (by simpa using h), List.drop_append_of_le_length (by simp; omega)]
  rfl
theorem piece_nil (s : ByteArray) (f : Nat) : (s.extract f f).data.toList = [] := by
  rw [ex_data]; simp
theorem clauseS_lt {dir : Bool} {m m' : Nat} {l : Bytes} (hm : m < 4096) (h : clauseS dir m l = some m') : m' < 4096 := by
  have key : ∀ (k : Nat) (r s t : Nat) (x : Bytes) (a : Nat), r < 4096 → s < 4096 → t < 4096 → a < 4096 → cloop dir r s t k x a = some m' → m' < 4096 := by
    intro k
    induction k with
    | zero =>
      intro r s t x a hr hs ht ha h
      cases x with
      | nil => cases h; exact ha
      | cons c x => cases h
    | succ k ih =>
      intro r s t x a hr hs ht ha h
      cases x with
      | nil => cases h; exact ha
      | cons c x =>
        have hb : bitsS a dir r s t (x.takeWhile isLetter) < 4096 := bitsS_lt hr hs ht _ _ (by omega)
        simp only [cloop] at h
        split at h
        · exact ih r s t _ _ hr hs ht (or_lt ha hb) h
        · split at h
          · exact ih r s t _ _ hr hs ht (Nat.lt_of_le_of_lt Nat.and_le_left ha) h
          · split at h
            · exact ih r s t _ _ hr hs ht (or_lt (Nat.lt_of_le_of_lt Nat.and_le_left ha) hb) h
            · cases h
  unfold clauseS at h
  simp only at h
  split at h
  · cases h
  · obtain ⟨l1, l2, l3⟩ := whoS_lt l
    exact key _ _ _ _ _ _ l1 l2 l3 hm h

set_option maxHeartbeats 4000000 in
set_option maxRecDepth 100000 in
theorem rchange_right (s : ByteArray) (m : Nat) (dir : Bool) (w : World) (hs : s.size ≤ 140737488351232) (hr : rightB (m : Int) = true) (hm : m ≤ 3071) :
    Calls Tryd.prog 21 #[.string s, .int .i64 m, .bool dir] w fun e w' => e = chEnd (changeS dir m s.data.toList) ∧ Below w.heap.size w w' := by
  have hsz : s.data.toList.length = s.size := by simp
  have HSZ := Lib.hid hsz
  have HM := Lib.hid hm
  clear hsz hm
  go_enter Tryd.func21, Tryd.ntmps21
  go_wp2_with fail
  refine (rright_any _ (by have := HM.out; omega) _).mono ?_
  rintro e w1 ⟨he, rfl⟩
  rw [hr] at he
  subst he
  clear hr
  go_wp2_with fail
  refine (roctal_any s hs _).mono ?_
  rintro e w2 ⟨he, rfl⟩
  cases ho : octS s.data.toList with
  | some n =>
    rw [ho] at he
    replace he : e = .returned (.tuple #[.int .i64 n, .bool true]) := he
    subst he
    have HE : Hid (changeS dir m s.data.toList = some n) := Lib.hid (by unfold changeS; rw [ho])
    clear ho
    go_wp2
    exact bodyPost_ret (v := .tuple #[.int .i64 n, .bool true]) (by simp [results, Tryd.results21, go_sem]) rfl ⟨by rw [HE.out]; rfl, Below.refl _ _⟩
  | none =>
    rw [ho] at he
    replace he : e = .returned (.tuple #[.int .i64 0, .bool false]) := he
    subst he
    have HE : Hid (changeS dir m s.data.toList = chL dir m (splitA [] s.data.toList)) := Lib.hid (by unfold changeS; rw [ho])
    clear ho
    go_wp2
    go_loopw [1, 11, 12, 13, 14] (fun v1 v11 v12 v13 v14 wr => ∃ i f m' : Nat, v12 = .int .i64 i ∧ v11 = .int .i64 f ∧ v1 = .int .i64 m' ∧ i ≤ s.size + 1 ∧ f ≤ i ∧ Hid (Below w2.heap.size w2 wr ∧ m' < 4096 ∧
      chL dir m (splitA [] s.data.toList) = (if i ≤ s.size then chL dir m' (splitA (s.extract f i).data.toList (s.data.toList.drop i)) else some m'))) (fun v1 v11 v12 v13 v14 _ => s.size + 1 - (intOf v12).toNat)
    case atStart => exact ⟨0, 0, m, rfl, rfl, rfl, by omega, Nat.le_refl _, Lib.hid ⟨Below.refl _ _, by have := HM.out; omega, by rw [if_pos (Nat.zero_le _), piece_nil]; rfl⟩⟩
    case round =>
      obtain ⟨i, f, m', rfl, rfl, rfl, hi, hf, HH⟩ := hrel
      by_cases hlt : i < s.size
      · have hlt1 : (i : Int) < s.size := by omega
        have hle1 : (i : Int) ≤ s.size := by omega
        have hfi : (f : Int) ≤ i := by omega
        by_cases hc : s[i] = 44
        · have hc1 : (s[i].toNat : Int) = 44 := by rw [hc]; rfl
          have HS : Hid (chL dir m (splitA [] s.data.toList) = chL dir m' ((s.extract f i).data.toList :: splitA [] (s.data.toList.drop (i + 1)))) := Lib.hid (by
            rw [HH.out.2.2, if_pos (by omega), cons_drop s i hlt, hc, splitA_comma])
          clear hc
          have hps : (s.extract f i).size ≤ 140737488351232 := by rw [ByteArray.size_extract]; omega
          go_wp2_with fail
          refine (rclause_any (s.extract f i) m' dir _ hps HH.out.2.1).mono ?_
          rintro e w3 ⟨he, hb⟩
          cases hcl : clauseS dir m' (s.extract f i).data.toList with
          | none =>
            rw [hcl] at he
            replace he : e = .returned (.tuple #[.int .i64 0, .bool false]) := he
            subst he
            have HN : Hid (changeS dir m s.data.toList = none) := Lib.hid (by rw [HE.out, HS.out, chL, hcl])
            have HB := Lib.hid (HH.out.1.trans (hb.mono HH.out.1.size))
            clear hcl hb
            go_wp2
            exact bodyPost_ret (v := .tuple #[.int .i64 0, .bool false]) (by simp [results, Tryd.results21, go_sem]) rfl ⟨by rw [HN.out]; rfl, HB.out⟩
          | some m2 =>
            rw [hcl] at he
            replace he : e = .returned (.tuple #[.int .i64 m2, .bool true]) := he
            subst he
            have HN : Hid (Below w2.heap.size w2 w3 ∧ m2 < 4096 ∧ chL dir m (splitA [] s.data.toList) = (if i + 1 ≤ s.size then chL dir m2 (splitA (s.extract (i + 1) (i + 1)).data.toList (s.data.toList.drop (i + 1))) else some m2)) := Lib.hid ⟨HH.out.1.trans (hb.mono HH.out.1.size), clauseS_lt HH.out.2.1 hcl, by rw [HS.out, if_pos (by omega), piece_nil, chL, hcl]⟩
            clear hcl hb
            go_wp2
            go_roundw
            case rel => exact ⟨i + 1, i + 1, m2, by go_num, by go_num, rfl, by omega, Nat.le_refl _, HN⟩
            case measure => simp [intOf]; omega
        · have hc1 : ¬ (s[i].toNat : Int) = 44 := fun h => hc (by apply UInt8.toNat_inj.1; show s[i].toNat = 44; omega)
          have HN : Hid (Below w2.heap.size w2 wr ∧ m' < 4096 ∧ chL dir m (splitA [] s.data.toList) = (if i + 1 ≤ s.size then chL dir m' (splitA (s.extract f (i + 1)).data.toList (s.data.toList.drop (i + 1))) else some m')) := Lib.hid ⟨HH.out.1, HH.out.2.1, by
            rw [HH.out.2.2, if_pos (by omega), if_pos (by omega), cons_drop s i hlt, splitA_other _ _ hc, piece_step s f i hlt hf]⟩
          clear hc HH
          go_wp2
          go_roundw
          case rel => exact ⟨i + 1, f, m', by go_num, rfl, rfl, by omega, by omega, HN⟩
          case measure => simp [intOf]; omega
      · by_cases hle : i ≤ s.size
        · obtain rfl : i = s.size := by omega
          have hfi : (f : Int) ≤ s.size := by omega
          have HS : Hid (chL dir m (splitA [] s.data.toList) = chL dir m' [(s.extract f s.size).data.toList]) := Lib.hid (by
            rw [HH.out.2.2, if_pos (by omega), List.drop_of_length_le (by rw [HSZ.out]; exact Nat.le_refl _)]; rfl)
          have hps : (s.extract f s.size).size ≤ 140737488351232 := by rw [ByteArray.size_extract]; omega
          go_wp2_with fail
          refine (rclause_any (s.extract f s.size) m' dir _ hps HH.out.2.1).mono ?_
          rintro e w3 ⟨he, hb⟩
          cases hcl : clauseS dir m' (s.extract f s.size).data.toList with
          | none =>
            rw [hcl] at he
            replace he : e = .returned (.tuple #[.int .i64 0, .bool false]) := he
            subst he
            have HN : Hid (changeS dir m s.data.toList = none) := Lib.hid (by rw [HE.out, HS.out, chL, hcl])
            have HB := Lib.hid (HH.out.1.trans (hb.mono HH.out.1.size))
            clear hcl hb
            go_wp2
            exact bodyPost_ret (v := .tuple #[.int .i64 0, .bool false]) (by simp [results, Tryd.results21, go_sem]) rfl ⟨by rw [HN.out]; rfl, HB.out⟩
          | some m2 =>
            rw [hcl] at he
            replace he : e = .returned (.tuple #[.int .i64 m2, .bool true]) := he
            subst he
            have HN : Hid (Below w2.heap.size w2 w3 ∧ m2 < 4096 ∧ chL dir m (splitA [] s.data.toList) = (if s.size + 1 ≤ s.size then chL dir m2 (splitA (s.extract (s.size + 1) (s.size + 1)).data.toList (s.data.toList.drop (s.size + 1))) else some m2)) := Lib.hid ⟨HH.out.1.trans (hb.mono HH.out.1.size), clauseS_lt HH.out.2.1 hcl, by rw [HS.out, if_neg (by omega), chL, hcl]; rfl⟩
            clear hcl hb
            go_wp2
            go_roundw
            case rel => exact ⟨s.size + 1, s.size + 1, m2, by go_num, by go_num, rfl, by omega, Nat.le_refl _, HN⟩
            case measure => simp [intOf]
        · have hle1 : ¬ (i : Int) ≤ s.size := by omega
          have HN : Hid (changeS dir m s.data.toList = some m') := Lib.hid (by rw [HE.out, HH.out.2.2, if_neg hle])
          have HB := Lib.hid HH.out.1
          clear HH hle
          go_wp2
          exact bodyPost_ret (v := .tuple #[.int .i64 m', .bool true]) (by simp [results, Tryd.results21, go_sem]) rfl ⟨by rw [HN.out]; rfl, HB.out⟩

theorem rchange_wrong (s : ByteArray) (m : Int) (dir : Bool) (w : World) (hr : rightB m = false) (hm : m < 9223372036854775808) :
    Calls Tryd.prog 21 #[.string s, .int .i64 m, .bool dir] w fun e w' => e = chEnd none ∧ w' = w := by
  go_enter Tryd.func21, Tryd.ntmps21
  go_wp2_with fail
  refine (rright_any _ hm _).mono ?_
  rintro e w1 ⟨he, rfl⟩
  rw [hr] at he
  subst he
  go_wp2
  exact bodyPost_ret (v := .tuple #[.int .i64 0, .bool false]) (by simp [results, Tryd.results21, go_sem]) rfl ⟨rfl, rfl⟩
end Go.Proofs.YtpoicdpfjmeehaaDoor
