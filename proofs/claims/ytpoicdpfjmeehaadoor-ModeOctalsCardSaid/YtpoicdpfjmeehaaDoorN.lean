/- Octal, of a text that is digits. -/
import Derived.Test.YtpoicdpfjmeehaaDoorM
import Derived.Shelf.Strings.SlTrimAscii
import Derived.Deep.CutRange
namespace Go.Proofs.YtpoicdpfjmeehaaDoor
open Go.RowKit

set_option maxRecDepth 100000 in
theorem ip8_any (t : ByteArray) (ht0 : 0 < t.size) (ht5 : t.size ≤ 5) (hx : t.data.toList.all isOct = true) (w : World) :
    Calls Tryd.prog 37 #[.string t, .int .i64 8, .int .i64 32] w fun e w' => e = .returned (.tuple #[.int .i64 (readO t.data.toList), .nilIface]) ∧ Below w.heap.size w w' := by
  have hemp : t.toList.isEmpty = false := by
    rw [← decide_eq_emptyBytes]
    exact decide_eq_false (fun h => by rw [h] at ht0; exact absurd ht0 (by decide))
  have h0 : isOct t[0] = true := List.all_eq_true.1 hx _ (List.mem_of_getElem? (get_data t 0 ht0))
  have hcb : 48 ≤ t[0].toNat ∧ t[0].toNat ≤ 55 := by unfold isOct at h0; simpa using h0
  have n43 : ¬ (t[0].toNat : Int) = 43 := by omega
  have n45 : ¬ (t[0].toNat : Int) = 45 := by omega
  have hz : (0 : Int) < t.size := by omega
  have hc := ipu8_any t ht0 ht5 hx
  clear hcb h0 hx ht5
  generalize readO t.data.toList = R at *
  go_enter Tryd.func37, Tryd.ntmps37
  go_wp2_with fail
  refine (hc _).mono ?_
  rintro e w' ⟨rfl, hb, hR⟩
  have HB := Lib.hid hb
  have r1 : (R : Int) ≤ 32767 := by omega
  have hwr : IntKind.i64.wrap (R : Int) = R := by rw [IntKind.wrap_i64]; omega
  have n1 : (R : Int) < 2147483648 := by omega
  clear hb hR hc n43 n45 hz
  go_upto_region 17 with fail
  clear r1
  generalize (2147483648 : Int) = C at *
  have n2 : ¬ C ≤ (R : Int) := by omega
  have n3 : ¬ C < (R : Int) := by omega
  clear n1
  go_wp2
  exact bodyPost_ret (v := .tuple #[.int .i64 R, .nilIface]) (by simp [results, Tryd.results37, go_sem]) rfl ⟨rfl, HB.out⟩
theorem p8_any (t : ByteArray) (ht0 : 0 < t.size) (ht5 : t.size ≤ 5) (hx : t.data.toList.all isOct = true) (w : World) :
    Calls Tryd.prog 24 #[.string t, .int .i64 8, .int .i64 32] w fun e w' => e = .returned (.tuple #[.int .i64 (readO t.data.toList), .nilIface]) ∧ Below w.heap.size w w' := by
  have hc := ip8_any t ht0 ht5 hx
  clear hx ht5
  generalize readO t.data.toList = R at *
  go_enter Tryd.func24, Tryd.ntmps24
  go_wp2_with fail
  refine (hc _).mono ?_
  rintro e w' ⟨rfl, hb⟩
  have HB := Lib.hid hb
  clear hb hc
  go_wp2
  exact bodyPost_ret (v := .tuple #[.int .i64 R, .nilIface]) (by simp [results, Tryd.results24, go_sem]) rfl ⟨rfl, HB.out⟩

def octset : Bytes := [48, 49, 50, 51, 52, 53, 54, 55]
theorem octset0 : ∀ j : Fin 256, octset.contains (UInt8.ofNat j.val) = isOct (UInt8.ofNat j.val) := by decide +kernel
theorem octset_is (c : UInt8) : octset.contains c = isOct c := by
  have := octset0 ⟨c.toNat, c.toNat_lt⟩
  simpa using this
theorem drop_all {p : UInt8 → Bool} {l : Bytes} (h : ∀ x ∈ l.dropWhile p, p x = true) : ∀ x ∈ l, p x = true := by
  induction l with
  | nil => intro x hx; cases hx
  | cons a l ih =>
    intro x hx
    by_cases ha : p a = true
    · rw [List.dropWhile_cons_of_pos ha] at h
      rcases List.mem_cons.1 hx with rfl | hx
      · exact ha
      · exact ih h x hx
    · rw [List.dropWhile_cons_of_neg ha] at h
      exact absurd (h a (by simp)) ha
theorem dw_nil {p : UInt8 → Bool} : ∀ {l : Bytes}, l.dropWhile p = [] ↔ ∀ x ∈ l, p x = true
  | [] => by simp
  | a :: l => by
    by_cases ha : p a = true
    · rw [List.dropWhile_cons_of_pos ha, dw_nil]; simp [ha]
    · rw [List.dropWhile_cons_of_neg ha]; simp [ha]
theorem trim_oct (l : Bytes) : Lib.trimS l octset = [] ↔ l.all isOct = true := by
  unfold Lib.trimS Lib.trimLeftS Lib.trimRightS
  have hp : (fun x => octset.contains x) = isOct := funext octset_is
  show List.dropWhile (fun x => octset.contains x) (List.dropWhile (fun x => octset.contains x) l.reverse).reverse = [] ↔ _
  rw [hp, dw_nil, List.all_eq_true]
  constructor
  · intro h x hx
    have h2 : ∀ x ∈ l.reverse.dropWhile isOct, isOct x = true := fun x hx => h x (List.mem_reverse.2 hx)
    exact drop_all h2 x (List.mem_reverse.2 hx)
  · intro h x hx
    exact h x (List.mem_reverse.1 ((List.dropWhile_sublist isOct).subset (List.mem_reverse.1 hx)))
theorem trim_any (s : ByteArray) (w : World) (hs : s.size ≤ 1000000000000000000) :
    Calls Tryd.prog 23 #[.string s, .string ⟨#[48, 49, 50, 51, 52, 53, 54, 55]⟩] w fun e w' => ∃ t : ByteArray, e = .returned (.string t) ∧ (t = ⟨#[]⟩ ↔ s.data.toList.all isOct = true) ∧ Below w.heap.size w w' := by
  refine (Any.strings_Trim_laid Tryd.lays160 (by kernel_rfl) s ⟨#[48, 49, 50, 51, 52, 53, 54, 55]⟩ w (by omega) (by decide) (ascii_of_all (by decide))).mono ?_
  rintro e w' ⟨rfl, hb⟩
  refine ⟨_, rfl, ?_, hb⟩
  rw [← trim_oct]
  constructor
  · intro h
    have := congrArg (fun b : ByteArray => b.data.toList) h
    simp at this
    exact this
  · intro h
    show (⟨(Lib.trimS s.data.toList octset).toArray⟩ : ByteArray) = _
    rw [h]

/-- What digits tell, if they are a mode's. -/
def octS (l : Bytes) : Option Nat := if l ≠ [] ∧ l.length ≤ 5 ∧ l.all isOct = true ∧ rightB (readO l : Nat) = true then some (readO l) else none
def octEnd : Option Nat → Ending
  | none => .returned (.tuple #[.int .i64 0, .bool false])
  | some m => .returned (.tuple #[.int .i64 m, .bool true])

set_option maxRecDepth 100000 in
/-- Octal of a text that is not empty. -/
theorem octal_any (s : ByteArray) (hs0 : 0 < s.size) (w : World) : Calls Tryd.prog 16 #[.string s] w fun e w' => e = octEnd (octS s.data.toList) ∧ Below w.heap.size w w' := by
  by_cases h5 : 5 < s.size
  · refine (octal_long s w h5).mono ?_
    rintro e w' ⟨rfl, rfl⟩
    exact ⟨by unfold octS; rw [if_neg (by rintro ⟨_, h, _⟩; simp at h; omega)]; rfl, Below.refl _ _⟩
  · have h51 : ¬ (5 : Int) < s.size := by omega
    by_cases hx : s.data.toList.all isOct = true
    · have hp := p8_any s hs0 (by omega) hx
      have hne : s.data.toList ≠ [] := fun h => by
        have h2 : s.data.toList.length = s.size := by simp
        rw [h, List.length_nil] at h2
        omega
      have ho : octS s.data.toList = if rightB (readO s.data.toList : Nat) = true then some (readO s.data.toList) else none := by
        unfold octS
        by_cases hr : rightB (readO s.data.toList : Nat) = true
        · rw [if_pos hr, if_pos ⟨hne, by simp; omega, hx, hr⟩]
        · rw [if_neg hr, if_neg (fun h => hr h.2.2.2)]
      rw [ho]
      clear ho hne
      have HX := Lib.hid hx
      clear hx
      generalize readO s.data.toList = R at *
      have hrr : ∀ w, Calls Tryd.prog 12 #[.int .i64 R] w fun e w' => e = .returned (.bool (rightB (R : Nat))) ∧ w' = w := right_any R
      generalize rightB (R : Int) = rb at *
      go_enter Tryd.func16, Tryd.ntmps16
      go_wp2_with fail
      refine (trim_any s _ (by omega)).mono ?_
      rintro e w1 ⟨t, rfl, ht, hb⟩
      have htt : t.toList.isEmpty = true := by
        rw [← decide_eq_emptyBytes]
        exact decide_eq_true (ht.2 HX.out)
      have HB := Lib.hid hb
      clear ht hb
      go_wp2_with fail
      refine (hp _).mono ?_
      rintro e w2 ⟨rfl, hb2⟩
      have HB2 := Lib.hid (HB.out.trans (hb2.mono HB.out.size))
      clear hb2 hp
      go_wp2_with fail
      refine (hrr _).mono ?_
      rintro e w3 ⟨rfl, rfl⟩
      clear hrr
      cases rb
      · go_wp2
        exact bodyPost_ret (v := .tuple #[.int .i64 0, .bool false]) (by simp [results, Tryd.results16, go_sem]) rfl ⟨rfl, HB2.out⟩
      · go_wp2
        exact bodyPost_ret (v := .tuple #[.int .i64 R, .bool true]) (by simp [results, Tryd.results16, go_sem]) rfl ⟨rfl, HB2.out⟩
    · have ho : octS s.data.toList = none := by unfold octS; rw [if_neg (fun h => hx h.2.2.1)]
      rw [ho]
      have HX := Lib.hid hx
      clear hx ho
      go_enter Tryd.func16, Tryd.ntmps16
      go_wp2_with fail
      refine (trim_any s _ (by omega)).mono ?_
      rintro e w1 ⟨t, rfl, ht, hb⟩
      have htt : t.toList.isEmpty = false := by
        rw [← decide_eq_emptyBytes]
        exact decide_eq_false fun h => HX.out (ht.1 h)
      have HB := Lib.hid hb
      clear ht hb
      go_wp2
      exact bodyPost_ret (v := .tuple #[.int .i64 0, .bool false]) (by simp [results, Tryd.results16, go_sem]) rfl ⟨rfl, HB.out⟩
end Go.Proofs.YtpoicdpfjmeehaaDoor
