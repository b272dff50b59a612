/- A field is read. -/
import Derived.Test.YtmfbmjnoepcigaaGreatDoorMd
namespace Go.Proofs.YtmfbmjnoepcigaaGreatDoor.Mx
open Go.RowKit

theorem pu_any (t : ByteArray) (ht : t.size = 4) (hx : t.data.toList.all isHex = true) (w : World) :
    Calls Tryz.prog 36 #[.string t, .int .i64 16, .int .i64 16] w fun e w' => e = .returned (.tuple #[.int .u64 (readN t.data.toList), .nilIface]) ∧ Below w.heap.size w w' := by
  have hc := ipu_any t ht hx
  clear hx ht
  generalize readN t.data.toList = R at *
  go_enter Tryz.func36, Tryz.ntmps36
  go_wp2_with fail
  refine (hc _).mono ?_
  rintro e w' ⟨rfl, hb⟩
  have HB := Lib.hid hb
  clear hb hc
  go_wp2
  exact bodyPost_ret (v := .tuple #[.int .u64 R, .nilIface]) (by simp [results, Tryz.results27, go_sem]) rfl ⟨rfl, HB.out⟩

def hexset : Bytes := [48, 49, 50, 51, 52, 53, 54, 55, 56, 57, 97, 98, 99, 100, 101, 102]
theorem hexset0 : ∀ j : Fin 256, hexset.contains (UInt8.ofNat j.val) = isHex (UInt8.ofNat j.val) := by decide +kernel
theorem hexset_is (c : UInt8) : hexset.contains c = isHex c := by
  have := hexset0 ⟨c.toNat, c.toNat_lt⟩
  simpa using this
theorem drop_all {p : UInt8 → Bool} {l : Bytes} (h : ∀ x ∈ l.dropWhile p, p x = true) : ∀ x ∈ l, p x = true := by
  induction l with
  | nil => intro x hx; cases hx
  | cons a l ih =>
    intro x hx
    by_cases ha : p a = true
    · rw [List.dropWhile_cons_of_pos ha] at h
      rcases List.mem_cons.1 hx with rfl | hx
      · exact ha
      · exact ih h x hx
    · rw [List.dropWhile_cons_of_neg ha] at h
      exact absurd (h a (by simp)) ha
theorem dw_nil {p : UInt8 → Bool} : ∀ {l : Bytes}, l.dropWhile p = [] ↔ ∀ x ∈ l, p x = true
  | [] => by simp
  | a :: l => by
    by_cases ha : p a = true
    · rw [List.dropWhile_cons_of_pos ha, dw_nil]; simp [ha]
    · rw [List.dropWhile_cons_of_neg ha]; simp [ha]
theorem trim_nil (l : Bytes) : Lib.trimS l hexset = [] ↔ l.all isHex = true := by
  unfold Lib.trimS Lib.trimLeftS Lib.trimRightS
  have hp : (fun x => hexset.contains x) = isHex := funext hexset_is
  show List.dropWhile (fun x => hexset.contains x) (List.dropWhile (fun x => hexset.contains x) l.reverse).reverse = [] ↔ _
  rw [hp, dw_nil, List.all_eq_true]
  constructor
  · intro h x hx
    have h2 : ∀ x ∈ l.reverse.dropWhile isHex, isHex x = true := fun x hx => h x (List.mem_reverse.2 hx)
    exact drop_all h2 x (List.mem_reverse.2 hx)
  · intro h x hx
    exact h x (List.mem_reverse.1 ((List.dropWhile_sublist isHex).subset (List.mem_reverse.1 hx)))
theorem trim_any (s : ByteArray) (w : World) (hs : s.size ≤ 1000000000000000000) :
    Calls Tryz.prog 52 #[.string s, .string ⟨#[48, 49, 50, 51, 52, 53, 54, 55, 56, 57, 97, 98, 99, 100, 101, 102]⟩] w fun e w' => ∃ t : ByteArray, e = .returned (.string t) ∧ (t = ⟨#[]⟩ ↔ s.data.toList.all isHex = true) ∧ Below w.heap.size w w' := by
  refine (Any.strings_Trim_laid Tryz.lays160 (by kernel_rfl) s ⟨#[48, 49, 50, 51, 52, 53, 54, 55, 56, 57, 97, 98, 99, 100, 101, 102]⟩ w (by omega) (by decide) (ascii_of_all (by decide))).mono ?_
  rintro e w' ⟨rfl, hb⟩
  refine ⟨_, rfl, ?_, hb⟩
  rw [← trim_nil]
  constructor
  · intro h
    have := congrArg (fun b : ByteArray => b.data.toList) h
    simp at this
    exact this
  · intro h
    show (⟨(Lib.trimS s.data.toList hexset).toArray⟩ : ByteArray) = _
    rw [h]

theorem split_uniq : ∀ {a h b t : Bytes}, a ++ 36 :: b = h ++ 36 :: t → (36 : UInt8) ∉ a → (36 : UInt8) ∉ h → a = h ∧ b = t
  | [], [], b, t, e, _, _ => by simpa using e
  | [], x :: h, b, t, e, _, hh => by
    simp only [List.nil_append, List.cons_append, List.cons.injEq] at e
    exact absurd (by rw [← e.1]; simp) hh
  | y :: a, [], b, t, e, ha, _ => by
    simp only [List.nil_append, List.cons_append, List.cons.injEq] at e
    exact absurd (by rw [e.1]; simp) ha
  | y :: a, x :: h, b, t, e, ha, hh => by
    simp only [List.cons_append, List.cons.injEq] at e
    obtain ⟨h1, h2⟩ := split_uniq e.2 (fun hm => ha (by simp [hm])) (fun hm => hh (by simp [hm]))
    exact ⟨by rw [e.1, h1], h2⟩
theorem hex_no36 {l : Bytes} (h : l.all isHex = true) : (36 : UInt8) ∉ l := fun hm => by
  have := List.all_eq_true.1 h _ hm
  rw [not_hex_dollar] at this; cases this
theorem field_iff {f a b : Bytes} (h : f = a ++ 36 :: b) (ha : (36 : UInt8) ∉ a) : isField f ↔ a.length = 4 ∧ b.length = 16 ∧ (a ++ b).all isHex = true := by
  constructor
  · rintro ⟨x, y, he, h1, h2, h3, h4⟩
    obtain ⟨rfl, rfl⟩ := split_uniq (h.symm.trans he) ha (hex_no36 h3)
    exact ⟨h1, h2, by rw [List.all_append, h3, h4]; rfl⟩
  · rintro ⟨h1, h2, h3⟩
    rw [List.all_append, Bool.and_eq_true] at h3
    exact ⟨a, b, h, h1, h2, h3.1, h3.2⟩
theorem belowN {n : Nat} {w W : World} (h : Below n w W) (k : Nat) : Below n w (W.drewN k) := h.trans ⟨rfl, rfl, rfl, Nat.le_refl _, fun _ _ => rfl⟩
/-- What a field tells: its salt, if it is one. -/
def ReadPost (f : ByteArray) (w : World) (e : Ending) (w' : World) : Prop :=
  ∃ (n : Nat) (ok : Bool), e = .returned (.tuple #[.int .i64 n, .bool ok]) ∧ Below w.heap.size w w' ∧ (ok = true ↔ isField f.data.toList) ∧ (ok = true → n = readN (f.data.toList.take 4) ∧ n < 65536)

set_option maxHeartbeats 1000000 in
theorem read_any (f : ByteArray) (w : World) (hf : f.size ≤ 140737488351232) : Calls Tryz.prog 53 #[.string f] w (ReadPost f w) := by
  go_enter Tryz.func53, Tryz.ntmps53
  go_wp2_with fail
  refine (cut_any 36 f _ hf).mono ?_
  rintro e w' ⟨a, b, ok, rfl, ⟨k, rfl⟩, h1, h2, h3⟩
  have H3 := Lib.hid h3
  clear h3
  have fin : ∀ (T : Array Value) (W : World), T[2]? = some (.int .i64 0) → T[3]? = some (.bool false) → Below w.heap.size w W → ¬ isField f.data.toList →
      bodyPost Tryz.prog Tryz.f53 (ReadPost f w) Exit.ret { tmps := T, defers := [] } W := fun T W h2 h3 hb hn =>
    bodyPost_ret (v := .tuple #[.int .i64 0, .bool false]) (by simp [results, Tryz.results43, go_sem, h2, h3]) rfl ⟨0, false, rfl, hb, ⟨fun h => Bool.noConfusion h, fun h => absurd h hn⟩, fun h => Bool.noConfusion h⟩
  have FIN := Lib.hid fin
  clear fin
  cases ok with
  | false =>
    go_wp2
    refine FIN.out _ _ rfl rfl (belowN (Below.refl _ _) k) ?_
    rcases H3.out with ⟨h, _⟩ | ⟨_, h, _⟩
    · cases h
    · rintro ⟨x, y, he, -⟩
      rw [he] at h
      exact h (by simp)
  | true =>
    have hsp : f.data.toList = a.data.toList ++ 36 :: b.data.toList ∧ (36 : UInt8) ∉ a.data.toList := by
      rcases H3.out with ⟨_, h⟩ | ⟨h, _⟩
      · exact h
      · cases h
    have HI := Lib.hid (field_iff hsp.1 hsp.2)
    have HSP := Lib.hid hsp
    clear hsp H3
    by_cases ha : a.size = 4
    · by_cases hb : b.size = 16
      · go_wp2_with fail
        refine (trim_any (a ++ b) _ (by rw [ByteArray.size_append]; omega)).mono ?_
        rintro e w2 ⟨t, rfl, ht, hb2⟩
        have HB2 := Lib.hid ((belowN (Below.refl w.heap.size w) k).trans (hb2.mono (Nat.le_refl _)))
        rw [ByteArray.data_append, Array.toList_append] at ht
        have HT := Lib.hid ht
        clear ht hb2
        by_cases hx : (a.data.toList ++ b.data.toList).all isHex = true
        · have htt : t.toList.isEmpty = true := by
            rw [← decide_eq_emptyBytes]
            exact decide_eq_true (HT.out.2 hx)
          have hfield : isField f.data.toList := HI.out.2 ⟨by rw [sz]; exact ha, by rw [sz]; exact hb, hx⟩
          have hxa : a.data.toList.all isHex = true := by rw [List.all_append, Bool.and_eq_true] at hx; exact hx.1
          have hta : f.data.toList.take 4 = a.data.toList := by rw [HSP.out.1, List.take_append_of_le_length (by rw [sz, ha]; omega), List.take_of_length_le (by rw [sz, ha]; omega)]
          have hlt : readN a.data.toList < 65536 := by
            have := readN_lt _ hxa
            rw [sz, ha] at this
            exact this
          have hpu := pu_any a ha hxa
          have HFI := Lib.hid hfield
          have HTA : Hid (readN a.data.toList = readN (f.data.toList.take 4)) := Lib.hid (by rw [hta])
          clear hx hfield hxa hta
          generalize readN a.data.toList = R at *
          have hr1 : (R : Int) ≤ 65535 := by omega
          go_wp2_with fail
          refine (hpu _).mono ?_
          rintro e w3 ⟨rfl, hb3⟩
          have HB3 := Lib.hid (HB2.out.trans (hb3.mono HB2.out.size))
          clear hb3 hpu
          go_wp2_with fail
          go_region
          go_wp2
          exact bodyPost_ret (v := .tuple #[.int .i64 R, .bool true]) (by simp [results, Tryz.results43, go_sem]) rfl ⟨R, true, rfl, belowN HB3.out 1, ⟨fun _ => HFI.out, fun _ => rfl⟩, fun _ => ⟨HTA.out, by omega⟩⟩
        · have htt : t.toList.isEmpty = false := by
            rw [← decide_eq_emptyBytes]
            exact decide_eq_false fun h => hx (HT.out.1 h)
          have HX := Lib.hid hx
          clear hx
          go_wp2
          exact FIN.out _ _ rfl rfl HB2.out (fun h => HX.out (HI.out.1 h).2.2)
      · have hb1 : ¬ (b.size : Int) = 16 := by omega
        have HB := Lib.hid hb
        clear hb
        go_wp2
        exact FIN.out _ _ rfl rfl (belowN (Below.refl _ _) k) (fun h => HB.out (by rw [← sz]; exact (HI.out.1 h).2.1))
    · have ha1 : ¬ (a.size : Int) = 4 := by omega
      have HA := Lib.hid ha
      clear ha
      go_wp2
      exact FIN.out _ _ rfl rfl (belowN (Below.refl _ _) k) (fun h => HA.out (by rw [← sz]; exact (HI.out.1 h).1))
def RightP (f : ByteArray) : Prop := f.data.toList = [] ∨ f.data.toList = [42] ∨ isField f.data.toList
theorem data_eq {s t : ByteArray} : s = t ↔ s.data.toList = t.data.toList := ⟨fun h => by rw [h], fun h => by apply ByteArray.ext; apply Array.ext'; exact h⟩
theorem toList_data (s : ByteArray) : s.toList = s.data.toList := Lib.toList_data s
theorem emp_iff (s : ByteArray) : s.toList.isEmpty = true ↔ s.data.toList = [] := by rw [toList_data, List.isEmpty_iff]

theorem emp_no {s : ByteArray} (h : ¬ s.data.toList = []) : s.toList.isEmpty = false := by
  cases hh : s.toList.isEmpty with
  | false => rfl
  | true => exact absurd ((emp_iff s).1 hh) h
set_option maxHeartbeats 1000000 in
theorem right_any (f : ByteArray) (w : World) (hf : f.size ≤ 140737488351232) :
    Calls Tryz.prog 39 #[.string f] w fun e w' => ∃ r : Bool, e = .returned (.bool r) ∧ (r = true ↔ RightP f) ∧ Below w.heap.size w w' := by
  go_enter Tryz.func39, Tryz.ntmps39
  go_wp2_with fail
  refine (read_any f _ hf).mono ?_
  rintro e w' ⟨n, ok, rfl, hb, hok, hn⟩
  have HOK := Lib.hid hok
  have HB := Lib.hid hb
  clear hok hb hn
  cases ok with
  | true =>
    go_wp2
    go_ret
    exact ⟨true, rfl, ⟨fun _ => .inr (.inr (HOK.out.1 (by simp))), fun _ => rfl⟩, HB.out⟩
  | false =>
    by_cases h0 : f.data.toList = []
    · have h1 := (emp_iff f).2 h0
      have H0 := Lib.hid h0
      clear h0
      go_wp2
      go_ret
      exact ⟨true, rfl, ⟨fun _ => .inl H0.out, fun _ => rfl⟩, HB.out⟩
    · have h1 : f.toList.isEmpty = false := by
        cases hh : f.toList.isEmpty with
        | false => rfl
        | true => exact absurd ((emp_iff f).1 hh) h0
      have H0 := Lib.hid h0
      clear h0
      go_wp2
      go_ret
      refine ⟨_, rfl, ?_, HB.out⟩
      rw [toList_data, beq_iff_eq]
      constructor
      · exact fun h => .inr (.inl h)
      · rintro (h | h | h)
        · exact absurd h H0.out
        · exact h
        · exact absurd (HOK.out.2 h) (by simp)
end Go.Proofs.YtmfbmjnoepcigaaGreatDoor.Mx
