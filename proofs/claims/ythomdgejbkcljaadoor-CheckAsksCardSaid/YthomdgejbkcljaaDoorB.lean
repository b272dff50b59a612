/- A number that is read, by the program and by the document. -/
import Derived.Test.YthomdgejbkcljaaDoorA
import Derived.Test.YthomdgejbkcljaaDoorShelf
import Derived.Shelf.Strings.SlTrimAscii
import Derived.BigQuiet
namespace Go.Proofs.YthomdgejbkcljaaDoor
open Go.RowKit

def digset : Bytes := [48, 49, 50, 51, 52, 53, 54, 55, 56, 57]
theorem digset0 : ∀ j : Fin 256, digset.contains (UInt8.ofNat j.val) = isDig (UInt8.ofNat j.val) := by decide +kernel
theorem digset_is (c : UInt8) : digset.contains c = isDig c := by
  have := digset0 ⟨c.toNat, c.toNat_lt⟩
  simpa using this
theorem drop_all {p : UInt8 → Bool} {l : Bytes} (h : ∀ x ∈ l.dropWhile p, p x = true) : ∀ x ∈ l, p x = true := by
  induction l with
  | nil => intro x hx; cases hx
  | cons a l ih =>
    intro x hx
    by_cases ha : p a = true
    · rw [List.dropWhile_cons_of_pos ha] at h
      rcases List.mem_cons.1 hx with rfl | hx
      · exact ha
      · exact ih h x hx
    · rw [List.dropWhile_cons_of_neg ha] at h
      exact absurd (h a (by simp)) ha
theorem dw_nil {p : UInt8 → Bool} : ∀ {l : Bytes}, l.dropWhile p = [] ↔ ∀ x ∈ l, p x = true
  | [] => by simp
  | a :: l => by
    by_cases ha : p a = true
    · rw [List.dropWhile_cons_of_pos ha, dw_nil]; simp [ha]
    · rw [List.dropWhile_cons_of_neg ha]; simp [ha]
theorem trim_dig (l : Bytes) : Lib.trimS l digset = [] ↔ l.all isDig = true := by
  unfold Lib.trimS Lib.trimLeftS Lib.trimRightS
  have hp : (fun x => digset.contains x) = isDig := funext digset_is
  show List.dropWhile (fun x => digset.contains x) (List.dropWhile (fun x => digset.contains x) l.reverse).reverse = [] ↔ _
  rw [hp, dw_nil, List.all_eq_true]
  constructor
  · intro h x hx
    have h2 : ∀ x ∈ l.reverse.dropWhile isDig, isDig x = true := fun x hx => h x (List.mem_reverse.2 hx)
    exact drop_all h2 x (List.mem_reverse.2 hx)
  · intro h x hx
    exact h x (List.mem_reverse.1 ((List.dropWhile_sublist isDig).subset (List.mem_reverse.1 hx)))
theorem trim_any (s : ByteArray) (w : World) (hs : s.size ≤ 1000000000000000000) :
    Calls Tryd.prog 31 #[.string s, .string ⟨#[48, 49, 50, 51, 52, 53, 54, 55, 56, 57]⟩] w fun e w' => ∃ t : ByteArray, e = .returned (.string t) ∧ (t = ⟨#[]⟩ ↔ s.data.toList.all isDig = true) ∧ Below w.heap.size w w' := by
  refine (Any.strings_Trim_laid Tryd.lays160 (by kernel_rfl) s ⟨#[48, 49, 50, 51, 52, 53, 54, 55, 56, 57]⟩ w (by omega) (by decide) (ascii_of_all (by decide))).mono ?_
  rintro e w' ⟨rfl, hb⟩
  refine ⟨_, rfl, ?_, hb⟩
  rw [← trim_dig]
  constructor
  · intro h
    have := congrArg (fun b : ByteArray => b.data.toList) h
    simp at this
    exact this
  · intro h
    show (⟨(Lib.trimS s.data.toList digset).toArray⟩ : ByteArray) = _
    rw [h]
theorem tp_digits (l : Bytes) : Lib.trimPrefix l [45] = digitsOf l := by
  cases l with
  | nil => rfl
  | cons c r =>
    unfold digitsOf Lib.trimPrefix
    by_cases h : c = 45
    · subst h; simp [Lib.hasPrefix]
    · simp [Lib.hasPrefix, h, Ne.symm h]
theorem dig_len (l : Bytes) : (digitsOf l).length ≤ l.length := by
  cases l with
  | nil => exact Nat.le_refl _
  | cons c r =>
    unfold digitsOf
    simp only
    split <;> simp
theorem bytes_below (w : World) (t : ByteArray) : Below w.heap.size w (Lib.bytesWorld w 5 t) := by
  exact ⟨rfl, rfl, rfl, by rw [Lib.bytesWorld_size]; omega, fun j hj => Lib.bytesWorld_at_old w 5 t j hj⟩
theorem drewN_below {n : Nat} {a w : World} (h : Below n a w) (k : Nat) : Below n a (w.drewN k) := ⟨h.os, h.tape, h.output, h.size, h.block⟩
def numEnd : Option Int → Ending
  | none => .returned (.tuple #[.int .i64 0, .bool false])
  | some v => .returned (.tuple #[.int .i64 v, .bool true])
def NPost (s : ByteArray) (w : World) (e : Ending) (w' : World) : Prop := e = numEnd (numS s.data.toList) ∧ Below w.heap.size w w'
theorem number_any (s : ByteArray) (hs : s.size ≤ 140737488355328) (w : World) : Calls Tryd.prog 26 #[.string s] w (NPost s w) := by
  obtain ⟨T, hT⟩ : ∃ T : ByteArray, (⟨(Lib.trimPrefix s.data.toList (⟨#[45]⟩ : ByteArray).data.toList).toArray⟩ : ByteArray) = T := ⟨_, rfl⟩
  have hTd : T.data.toList = digitsOf s.data.toList := by rw [← hT, ← tp_digits]
  have hTs : T.size ≤ s.size := by
    have h1 : T.size = (digitsOf s.data.toList).length := by rw [← hTd]; simp
    have h2 := dig_len s.data.toList
    have h3 : s.data.toList.length = s.size := by simp
    omega
  have htp := Tryd.strings_TrimPrefix s ⟨#[45]⟩ w
  rw [hT] at htp
  clear hT
  have hlen : T.data.toList.length = T.size := by simp
  go_enter Tryd.func26, Tryd.ntmps26
  go_wp2_with fail
  refine htp.mono ?_
  rintro e w1 ⟨rfl, rfl⟩
  clear htp
  by_cases h0 : T = ⟨#[]⟩
  · have hn : numS s.data.toList = none := by unfold numS; rw [if_neg]; rintro ⟨h, _⟩; rw [← hTd, h0] at h; exact h rfl
    have HN := Lib.hid hn
    have hemp : T.toList.isEmpty = true := by
      rw [← decide_eq_emptyBytes]
      exact decide_eq_true h0
    clear hn hTd h0 hlen
    go_wp2
    exact bodyPost_ret (v := .tuple #[.int .i64 0, .bool false]) (by simp [results, Tryd.results26, go_sem]) rfl ⟨by rw [HN.out]; rfl, Below.refl _ _⟩
  · have hemp : T.toList.isEmpty = false := by
      rw [← decide_eq_emptyBytes]
      exact decide_eq_false h0
    have hne : digitsOf s.data.toList ≠ [] := fun h => h0 (by
      rw [← hTd] at h
      apply ByteArray.ext
      apply Array.toList_inj.1
      rw [h])
    have HNE := Lib.hid hne
    clear h0 hne
    by_cases h18 : 18 < T.size
    · have h181 : (18 : Int) < T.size := by omega
      have hn : numS s.data.toList = none := by unfold numS; rw [if_neg]; rintro ⟨_, h, _⟩; rw [← hTd] at h; omega
      have HN := Lib.hid hn
      clear hn hTd h18 hlen
      go_wp2
      exact bodyPost_ret (v := .tuple #[.int .i64 0, .bool false]) (by simp [results, Tryd.results26, go_sem]) rfl ⟨by rw [HN.out]; rfl, Below.refl _ _⟩
    · have h181 : ¬ (18 : Int) < T.size := by omega
      have HL := Lib.hid (And.intro h18 (And.intro hlen (And.intro hTd hTs)))
      clear h18 hlen hTd hTs
      go_wp2_with fail
      refine (trim_any T _ (by have := HL.out; omega)).mono ?_
      rintro e w2 ⟨t, rfl, ht, hb⟩
      have HB := Lib.hid hb
      clear hb
      by_cases hd : T.data.toList.all isDig = true
      · have htt : t.toList.isEmpty = true := by
          rw [← decide_eq_emptyBytes]
          exact decide_eq_true (ht.2 hd)
        have hv : ∃ v, numS s.data.toList = some v := by
          unfold numS
          rw [if_pos ⟨HNE.out, by have := HL.out; rw [← this.2.2.1]; omega, by rw [← HL.out.2.2.1]; exact hd⟩]
          exact ⟨_, rfl⟩
        obtain ⟨v, hv⟩ := hv
        have HV := Lib.hid hv
        have hp := parse_num hv
        clear hv ht hd
        go_wp2_with fail
        refine (Tryd.strconv_ParseInt_10_at64_ok s (by omega) v hp _).mono ?_
        rintro e w3 ⟨rfl, hw3⟩
        have hb3 : Below w2.heap.size w2 w3 := by
          rcases hw3 with rfl | ⟨t, rfl⟩
          · exact Below.refl _ _
          · exact bytes_below _ _
        have HB3 := Lib.hid (HB.out.trans (hb3.mono HB.out.size))
        clear hw3 hb3 hp
        go_wp2_with fail
        go_quiet (fail)
        have HB4 := Lib.hid (drewN_below HB3.out nq)
        go_wp2
        exact bodyPost_ret (v := .tuple #[.int .i64 v, .bool true]) (by simp [results, Tryd.results26, go_sem]) rfl ⟨by rw [HV.out]; rfl, HB4.out⟩
      · have htt : t.toList.isEmpty = false := by
          rw [← decide_eq_emptyBytes]
          exact decide_eq_false (fun h => hd (ht.1 h))
        have hn : numS s.data.toList = none := by unfold numS; rw [if_neg]; rintro ⟨_, _, h⟩; rw [← HL.out.2.2.1] at h; exact hd h
        have HN := Lib.hid hn
        clear hn ht hd
        go_wp2
        exact bodyPost_ret (v := .tuple #[.int .i64 0, .bool false]) (by simp [results, Tryd.results26, go_sem]) rfl ⟨by rw [HN.out]; rfl, HB.out⟩
end Go.Proofs.YthomdgejbkcljaaDoor
