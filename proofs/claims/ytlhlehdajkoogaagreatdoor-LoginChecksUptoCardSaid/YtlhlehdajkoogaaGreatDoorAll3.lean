/- Part 4 of the proof: contracts of functions that the statement reaches, and plain lemmas. -/
import Derived.Test.YtlhlehdajkoogaaGreatDoorAll2
import Derived.Laws.OwnMore
import Derived.Laws.StructEq
import Derived.Test.YtlhlehdajkoogaaGreatDoorAll1
import Derived.Deep.AppendLies
import Derived.Deep.RegionHeld3
import Derived.Deep.CutRange
import Derived.Maps.AppendAt
import Derived.Lib.ConvBytes
set_option linter.unusedSimpArgs false
set_option linter.unusedVariables false
/- login, up to the becoming. -/
namespace Go.Proofs.YtlhlehdajkoogaaGreatDoor
open Go.RowKit

theorem en_login : Enters 46 := enter_of Tryz.func46 (by kernel_rfl) rfl
theorem en_login1 : Enters 77 := enter_of Tryz.func77 (by kernel_rfl) rfl
theorem en_login2 : Enters 80 := enter_of Tryz.func80 (by kernel_rfl) rfl
/-- What login's closure for users holds: a name. -/
def LgB (name : ByteArray) (f : Value) (w : World) : Prop := ∃ bn, f = .func (.func 77) #[] #[.pointer (some ⟨bn, 0, none⟩)] ∧ w.heap[bn]? = some (.cells #[.string name] 9 (0, 0))
theorem LgB.kr {q : Nat} {name : ByteArray} {f : Value} {w w' : World} (h : LgB name f w) (k : Kr q w w') : LgB name f w' := by
  obtain ⟨bn, h0, h1⟩ := h
  exact ⟨bn, h0, k.get h1⟩
theorem join_one (x : List UInt8) : Lib.join [x] [] = x := by simp [Lib.join]
set_option maxRecDepth 100000 in
set_option maxHeartbeats 4000000 in
theorem login_any {w : World} {p : Nat} {m : Ma} (h : M w p m) (ho : m.over = false) {v : Value} {name : ByteArray} (hw : Words w v name) (hz : name.size ≤ 140737488355328) :
    Calls Tryz.prog 46 #[.pointer (some ⟨p, 0, none⟩), v] w (ThP p w (Kst m fun m' w' => ∃ f, OpenS f m' w' ∧ LgB name f w')) := by
  have hmf : ∀ (fn : Fn) (first cap : Array Value) (w : World), (Instr.makeFunc fn first cap).run Tryz.prog w = .ok (.func fn first cap) w := fun _ _ _ _ => rfl
  obtain ⟨b, cap, cur, rfl, hb1, hb2, hcap⟩ := hw
  have HJ := Lib.hid (Tryz.strings_Join b 0 cap [name] ⟨#[]⟩ w (fun j x hj => by
    cases j with
    | zero => rw [Nat.zero_add, cell_of hb1, hb2]; simp at hj; rw [hj]
    | succ j => simp at hj) (lt_of_heap hb1) (by simp) (by simpa using hcap) (by
      show (Lib.join [name.data.toList] []).length ≤ _
      rw [join_one, Array.length_toList]; exact hz))
  have HJE : Hid ((⟨(Lib.join ([name].map (·.data.toList)) (⟨#[]⟩ : ByteArray).data.toList).toArray⟩ : ByteArray) = name) := Lib.hid (by
    show (⟨(Lib.join [name.data.toList] []).toArray⟩ : ByteArray) = name
    rw [join_one])
  have hcz : (1 : Int) ≤ cap := by omega
  have HM := Lib.hid h
  have HO := Lib.hid ho
  clear h ho hb1 hb2 hz hcap
  go_enter Tryz.func46, Tryz.ntmps46
  go_wp2_with fail
  refine HJ.out.mono ?_
  rintro e w1 ⟨rfl, hb⟩
  rw [HJE.out]
  obtain ⟨V, hV, hc0, hbb, hsz⟩ := boxes1 w1 #[.string ⟨#[]⟩] 9
  have v1 : V.cell? ⟨w1.heap.size, 0, none⟩ = some (.string ⟨#[]⟩) := cell_of hc0 0
  have u1 := frozen_of hc0 0
  obtain ⟨W, hW⟩ : ∃ W, V.setCell ⟨w1.heap.size, 0, none⟩ (.string name) = W := ⟨_, rfl⟩
  have hc2 : W.heap[w1.heap.size]? = some (.cells #[.string name] 9 (0, 0)) := by rw [← hW]; exact heap_setCell_same hc0 _
  have hbW : Below w1.heap.size w1 W := by rw [← hW]; exact hbb.setCell (Nat.le_refl _) _
  have hbw := hb.trans (hbW.mono hb.size)
  have HM2 := Lib.hid (HM.out.below hbw)
  have HN := Lib.hid hc2
  have HMO := Lib.hid (Mo.of (b := p) hbw)
  clear hb hc0 hbb hsz hc2 hbW hbw HM HJ HJE
  go_wp2_with fail
  refine (users_any HM2.out HO.out _ _ _).mono ?_
  intro e w2 h
  obtain rfl := h.end
  have H := Lib.hid ((h.more HM2.out (R1 := Kst m fun m' w' => ∃ f, OpenS f m' w' ∧ LgB name f w') fun m' w' k hh => ⟨hh.1, _, hh.2, _, rfl, k.get HN.out⟩).pre HMO.out)
  clear h
  go_wp2
  exact bodyPost_end (results_none rfl _ _ _) rfl H.out
set_option maxRecDepth 100000 in
set_option maxHeartbeats 4000000 in
theorem login2_any {w : World} {p bu : Nat} {m : Ma} (h : M w p m) (ho : m.over = false) {u : Pw.UserS} (h1 : w.heap[bu]? = some (.cells (Pw.userC u) 47 (0, 0))) :
    Calls Tryz.prog 80 #[.pointer (some ⟨p, 0, none⟩), .pointer (some ⟨bu, 0, none⟩)] w (ThP p w (Kst m fun m' w' => ∃ f, BecS u f m' w')) := by
  have hmf : ∀ (fn : Fn) (first cap : Array Value) (w : World), (Instr.makeFunc fn first cap).run Tryz.prog w = .ok (.func fn first cap) w := fun _ _ _ _ => rfl
  have HI := Lib.hid (user_info u)
  have HH := Lib.hid h1
  have HB := Lib.hid (becomes_any h ho u (.func 82) #[] #[.pointer (some ⟨bu, 0, none⟩)])
  obtain ⟨C, hC⟩ : ∃ C, Pw.userC u = C := ⟨_, rfl⟩
  rw [hC] at HI HH HB
  clear h ho h1 hC
  go_enter Tryz.func80, Tryz.ntmps80
  go_wp2_with (refine wpList_load_row rfl 47 _ rfl bu rfl 47 C (0, 0) _ HH.out Tryz.underlying47 rfl HI.out ?_)
  refine HB.out.mono ?_
  intro e w2 h
  obtain rfl := h.end
  have H := Lib.hid (h.mono (R2 := Kst m fun m' w' => ∃ f, BecS u f m' w') fun m' w' hh => ⟨hh.1, _, hh.2⟩)
  clear h
  go_wp2
  exact bodyPost_end (results_none rfl _ _ _) rfl H.out
theorem kt_login2 {c : Cx} {w : World} {bu : Nat} {u : Pw.UserS} (h1 : w.heap[bu]? = some (.cells (Pw.userC u) 47 (0, 0))) : Kt c (fun m' w' => ∃ f, BecS u f m' w') (.func (.func 80) #[] #[.pointer (some ⟨bu, 0, none⟩)]) w :=
  ⟨_, _, rfl, en_login2, fun _ _ k g => login2_any g.mach g.over (k.get h1)⟩
/-- Who is found by a name. -/
def FndQ (name : ByteArray) (L : List Pw.UserS) (u : Pw.UserS) (is : Bool) : Prop := (is = true ∧ ∃ k : Nat, ∃ h : k < L.length, Pw.isName name L[k] = true ∧ (∀ j (hj : j < k), Pw.isName name (L[j]'(by omega)) = false) ∧ u = L[k]) ∨ (is = false ∧ (∀ f ∈ L, Pw.isName name f = false) ∧ u = Pw.zeroU)
theorem FndQ.of {name : ByteArray} {L : List Pw.UserS} {w : World} {e : Ending} {w' : World} (h : Pw.FoundP (Pw.isName name) L w e w') : ∃ u is, FndQ name L u is ∧ e = .returned (.tuple #[.agg (Pw.userC u), .bool is]) ∧ Below w.heap.size w w' := by
  obtain ⟨hb, ⟨k, hk, h1, h2, rfl⟩ | ⟨h1, rfl⟩⟩ := h
  · exact ⟨_, true, .inl ⟨rfl, k, hk, h1, h2, rfl⟩, rfl, hb⟩
  · exact ⟨_, false, .inr ⟨rfl, h1, rfl⟩, rfl, hb⟩
theorem FndQ.det {name : ByteArray} {L : List Pw.UserS} {u v : Pw.UserS} {a b : Bool} (h : FndQ name L u a) (g : FndQ name L v b) : u = v ∧ a = b := by
  rcases h with ⟨rfl, k, hk, h1, h2, rfl⟩ | ⟨rfl, h1, rfl⟩ <;> rcases g with ⟨rfl, j, hj, g1, g2, rfl⟩ | ⟨rfl, g1, rfl⟩
  · rcases Nat.lt_trichotomy j k with h | rfl | h
    · have := h2 j h; rw [g1] at this; cases this
    · exact ⟨rfl, rfl⟩
    · have := g2 k h; rw [h1] at this; cases this
  · have := g1 _ (List.getElem_mem hk); rw [h1] at this; cases this
  · have := h1 _ (List.getElem_mem hj); rw [g1] at this; cases this
  · exact ⟨rfl, rfl⟩
/-- login behind the users. -/
def LgQ (c : Cx) (name : ByteArray) (u : Pw.UserS) (is : Bool) (m : Ma) (w : World) : Prop := if is = true ∧ u.pass.toList.isEmpty = true then NoteQ c name true (fun m' w' => ∃ f, BecS u f m' w') m w else ∃ g f, AskS sPw g m w ∧ PrvB name u is f g w ∧ Kt c (fun m' w' => ∃ f, BecS u f m' w') f w
theorem LgQ.kr {c : Cx} {name : ByteArray} {u : Pw.UserS} {is : Bool} {m : Ma} {w w' : World} (h : LgQ c name u is m w) (k : Kr c.q w w') : LgQ c name u is m w' := by
  unfold LgQ at *
  split
  · rename_i hc; rw [if_pos hc] at h; exact h.kr k
  · rename_i hc
    rw [if_neg hc] at h
    obtain ⟨g, f, h2, h3, h4⟩ := h
    exact ⟨g, f, h2.kr k, h3.kr k, h4.kr k⟩
set_option maxRecDepth 100000 in
set_option maxHeartbeats 4000000 in
theorem login1_any {c : Cx} {w : World} {bn : Nat} {m : Ma} (g : Gx c w m) {name : ByteArray} (h1 : w.heap[bn]? = some (.cells #[.string name] 9 (0, 0))) {v : Value} {L : List Pw.UserS} (hv : Pw.InU w v L) (hL : L.length ≤ 8) {u : Pw.UserS} {is : Bool} (hu : FndQ name L u is) :
    Calls Tryz.prog 77 #[.pointer (some ⟨c.p, 0, none⟩), v, .pointer (some ⟨bn, 0, none⟩)] w (ThP c.p w (Kst m (LgQ c name u is))) := by
  have hmf : ∀ (fn : Fn) (first cap : Array Value) (w : World), (Instr.makeFunc fn first cap).run Tryz.prog w = .ok (.func fn first cap) w := fun _ _ _ _ => rfl
  have x0 : w.cell? ⟨bn, 0, none⟩ = some (.string name) := cell_of h1 0
  have HF := Lib.hid (Pw.find_any v L name w hv (by omega))
  have H1 := Lib.hid h1
  have HG := Lib.hid g
  have HU := Lib.hid hu
  clear g h1 hv hL hu
  go_enter Tryz.func77, Tryz.ntmps77
  go_wp2_with fail
  refine HF.out.mono ?_
  intro e w1 hf
  obtain ⟨u', is', hf1, rfl, hb⟩ := FndQ.of hf
  obtain ⟨rfl, rfl⟩ := HU.out.det hf1
  obtain ⟨W, hW, hbk, hbW, hT⟩ := stored_user (w := w1) (C := Pw.userC u) rfl
  have HT := Lib.hid hT
  have HI := Lib.hid (user_info u)
  have HO1 := Lib.hid (user_one u)
  have hbb := hb.trans (hbW.mono hb.size)
  have k2 := Kb.below hbb
  have HU2 := Lib.hid hbk
  have HGW := Lib.hid (HG.out.below hbb)
  have H1W := Lib.hid (k2.get H1.out)
  have y0 : W.cell? ⟨bn, 0, none⟩ = some (.string name) := cell_of H1W.out 0
  have HMO := Lib.hid (Mo.of (b := c.p) hbb)
  have HKT := Lib.hid (kt_login2 (c := c) hbk)
  clear hf hf1 hb hbk hbW hT hbb k2 HF HU HG H1 x0
  obtain ⟨C, hC⟩ : ∃ C, Pw.userC u = C := ⟨_, rfl⟩
  rw [hC] at hW HT HI HO1 HU2 ⊢
  have HC := Lib.hid hC
  clear hC
  go_wp2_with (first | (refine wpList_store_mid rfl 47 _ _ rfl w1.heap.size 0 C rfl rfl HT.out HI.out HO1.out ?_; rw [hW]; clear hW) | (refine wpList_load_row rfl 47 _ rfl w1.heap.size rfl 47 C (0, 0) _ HU2.out Tryz.underlying47 rfl HI.out ?_))
  rw [← HC.out]
  by_cases hc : is = true ∧ u.pass.toList.isEmpty = true
  · obtain ⟨rfl, hp⟩ := hc
    have HP := Lib.hid hp
    clear hp
    refine (proves_free HGW.out.mach HGW.out.over name u HP.out _ _ _).mono ?_
    intro e w2 h
    obtain rfl := h.end
    have H := Lib.hid ((h.more HGW.out.mach (R1 := Kst m (LgQ c name u true)) fun m' w' k hh => ⟨hh.1, by unfold LgQ; rw [if_pos ⟨rfl, HP.out⟩]; exact ⟨_, hh.2, fun _ => HKT.out.kr (k.kr _)⟩⟩).pre HMO.out)
    clear h
    go_wp2
    exact bodyPost_end (results_none rfl _ _ _) rfl H.out
  · have HN := Lib.hid hc
    clear hc
    refine (proves_ask HGW.out.mach HGW.out.over name u is (fun h => by
      cases hp : u.pass.toList.isEmpty with
      | false => rfl
      | true => exact absurd ⟨h, hp⟩ HN.out) _ _ _).mono ?_
    intro e w2 h
    obtain rfl := h.end
    have H := Lib.hid ((h.more HGW.out.mach (R1 := Kst m (LgQ c name u is)) fun m' w' k hh => ⟨hh.1, by unfold LgQ; rw [if_neg HN.out]; exact hh.2.elim fun g hg => ⟨g, _, hg.1, hg.2, HKT.out.kr (k.kr _)⟩⟩).pre HMO.out)
    clear h
    go_wp2
    exact bodyPost_end (results_none rfl _ _ _) rfl H.out
theorem LgB.ut {c : Cx} {name : ByteArray} {f : Value} {w : World} (h : LgB name f w) {L : List Pw.UserS} (hL : L.length ≤ 8) {u : Pw.UserS} {is : Bool} (hu : FndQ name L u is) : Ut c L (LgQ c name u is) f w := by
  obtain ⟨bn, rfl, h1⟩ := h
  exact ⟨_, _, rfl, en_login1, fun w1 m v hv k g => login1_any g (k.get h1) hv hL hu⟩
end Go.Proofs.YtlhlehdajkoogaaGreatDoor
/- LoginSwitches: su's stages, one after another. -/
namespace Go.Proofs.YtlhlehdajkoogaaGreatDoor
open Go.RowKit

/-- Where su stands. -/
inductive SuG
  | new | ids | opn | slp (a : Nat) | clo | bec | ask | say | rd | ec | note | wrong | fin
namespace SuG
def nxt (N : Nat) (z : Bool) : SuG → SuG
  | .new => .ids
  | .ids => .opn
  | .opn => .slp 0
  | .slp a => if a < N then .slp (min (a + 256) N) else .clo
  | .clo => if z then .bec else .ask
  | .bec => .bec
  | .ask => .say
  | .say => .rd
  | .rd => .ec
  | .ec => .note
  | .note => .wrong
  | .wrong => .fin
  | .fin => .fin
/-- How much of the text was told ahead of a call. -/
def atT (N : Nat) : SuG → Nat
  | .new => 0
  | .ids => 0
  | .opn => 0
  | .slp a => a
  | _ => N
def atH (N : Nat) : SuG → Nat
  | .slp a => min (a + 256) N
  | g => atT N g
/-- Was a password asked for? -/
def askT : SuG → Bool
  | .ec => true
  | .note => true
  | .wrong => true
  | .fin => true
  | _ => false
def askH : SuG → Bool
  | .rd => true
  | g => askT g
theorem at_nxt (N : Nat) (z : Bool) (g : SuG) (h : ∀ a, g = .slp a → a ≤ N) : atT N (nxt N z g) = atH N g := by
  cases g with
  | slp a =>
    have := h a rfl
    show atT N (if a < N then .slp (min (a + 256) N) else .clo) = min (a + 256) N
    by_cases hlt : a < N
    · rw [if_pos hlt]; rfl
    · rw [if_neg hlt]; simp only [atT]; omega
  | clo => cases z <;> rfl
  | _ => rfl
theorem ask_nxt (N : Nat) (z : Bool) (g : SuG) : askT (nxt N z g) = askH g := by
  cases g with
  | slp a =>
    show askT (if a < N then .slp (min (a + 256) N) else .clo) = false
    by_cases hlt : a < N
    · rw [if_pos hlt]; rfl
    · rw [if_neg hlt]; rfl
  | clo => cases z <;> rfl
  | _ => rfl
/-- How many calls were made. -/
def Bd (N : Nat) : SuG → Nat → Prop
  | .new, k => k = 0
  | .ids, k => k = 1
  | .opn, k => k = 2
  | .slp a, k => 3 ≤ k ∧ 256 * (k - 3) ≤ a + 255 ∧ a ≤ N ∧ (a % 256 = 0 ∨ a = N)
  | .clo, k => k ≤ 14
  | .bec, k => k ≤ 50
  | .ask, k => k ≤ 15
  | .say, k => k ≤ 16
  | .rd, k => k ≤ 17
  | .ec, k => k ≤ 18
  | .note, k => k ≤ 19
  | .wrong, k => k ≤ 20
  | .fin, k => k ≤ 50
theorem Bd.nxt {N : Nat} (hN : N ≤ 2500) {z : Bool} {g : SuG} {k : Nat} (h : Bd N g k) (h1 : g ≠ .bec) (h2 : g ≠ .fin) : Bd N (nxt N z g) (k + 1) := by
  cases g with
  | slp a =>
    obtain ⟨e1, e2, e3, e4⟩ := h
    show Bd N (if a < N then .slp (min (a + 256) N) else .clo) (k + 1)
    by_cases hlt : a < N
    · rw [if_pos hlt]; simp only [Bd]; omega
    · rw [if_neg hlt]; simp only [Bd]; omega
  | clo =>
    have h' : k ≤ 14 := h
    cases z with
    | false => exact (show k + 1 ≤ 15 by omega)
    | true => exact (show k + 1 ≤ 50 by omega)
  | bec => exact absurd rfl h1
  | fin => exact absurd rfl h2
  | new => have h' : k = 0 := h; exact (show k + 1 = 1 by omega)
  | ids => have h' : k = 1 := h; exact (show k + 1 = 2 by omega)
  | opn => have h' : k = 2 := h; exact ⟨by omega, by omega, by omega, .inl rfl⟩
  | ask => have h' : k ≤ 15 := h; exact (show k + 1 ≤ 16 by omega)
  | say => have h' : k ≤ 16 := h; exact (show k + 1 ≤ 17 by omega)
  | rd => have h' : k ≤ 17 := h; exact (show k + 1 ≤ 18 by omega)
  | ec => have h' : k ≤ 18 := h; exact (show k + 1 ≤ 19 by omega)
  | note => have h' : k ≤ 19 := h; exact (show k + 1 ≤ 20 by omega)
  | wrong => have h' : k ≤ 20 := h; exact (show k + 1 ≤ 50 by omega)
theorem Bd.le {N : Nat} (hN : N ≤ 2500) {g : SuG} {k : Nat} (h : Bd N g k) (h1 : g ≠ .bec) (h2 : g ≠ .fin) : k < 60 := by
  cases g with
  | bec => exact absurd rfl h1
  | fin => exact absurd rfl h2
  | slp a =>
    obtain ⟨e1, e2, e3, e4⟩ := h
    omega
  | new => have h' : k = 0 := h; omega
  | ids => have h' : k = 1 := h; omega
  | opn => have h' : k = 2 := h; omega
  | clo => have h' : k ≤ 14 := h; omega
  | ask => have h' : k ≤ 15 := h; omega
  | say => have h' : k ≤ 16 := h; omega
  | rd => have h' : k ≤ 17 := h; omega
  | ec => have h' : k ≤ 18 := h; omega
  | note => have h' : k ≤ 19 := h; omega
  | wrong => have h' : k ≤ 20 := h; omega
end SuG
/-- What su is about. -/
structure SuX where
  c : Cx
  name : ByteArray
  text : ByteArray
  typed : ByteArray
  real : Int
  u : Pw.UserS
abbrev BecQ (u : Pw.UserS) (m : Ma) (w : World) : Prop := ∃ f, BecS u f m w
/-- su at a stage. -/
def SuP (X : SuX) : SuG → Ma → World → Prop
  | .new, m, w => NewS 47 X.name m w
  | .ids, m, w => IdsS X.name m w
  | .opn, m, w => ∃ f r, r.real = X.real ∧ OpenS f m w ∧ SuB X.c.q X.name r f w
  | .slp a, m, w => ∃ f r, r.real = X.real ∧ UsS 3 (X.text.extract 0 a) f m w ∧ SuB X.c.q X.name r f w
  | .clo, m, w => ∃ f r, r.real = X.real ∧ UcS 3 X.text f m w ∧ SuB X.c.q X.name r f w
  | .bec, m, w => BecQ X.u m w
  | .ask, m, w => ∃ g f, AskS sPw g m w ∧ PrvB X.name X.u true f g w ∧ Kt X.c (BecQ X.u) f w
  | .say, m, w => ∃ g f, AskSay sPw g m w ∧ PrvB X.name X.u true f g w ∧ Kt X.c (BecQ X.u) f w
  | .rd, m, w => ∃ g f, AskRd g m w ∧ PrvB X.name X.u true f g w ∧ Kt X.c (BecQ X.u) f w
  | .ec, m, w => ∃ g f ty, ty.size ≤ 2000 ∧ AskEc ty g m w ∧ PrvB X.name X.u true f g w ∧ Kt X.c (BecQ X.u) f w
  | .note, m, w => NoteQ X.c X.name false (BecQ X.u) m w
  | .wrong, m, w => FailS sWrong m w
  | .fin, m, w => EndS 1 m w
theorem SuP.kr {X : SuX} (g : SuG) (m : Ma) (w w' : World) (k : Kr X.c.q w w') (h : SuP X g m w) : SuP X g m w' := by
  cases g with
  | new => exact NewS.kr h k
  | ids => exact IdsS.kr h k
  | opn => obtain ⟨f, r, h0, h1, h2⟩ := h; exact ⟨f, r, h0, h1.kr k, h2.kr k⟩
  | slp a => obtain ⟨f, r, h0, h1, h2⟩ := h; exact ⟨f, r, h0, h1.kr k, h2.kr k⟩
  | clo => obtain ⟨f, r, h0, h1, h2⟩ := h; exact ⟨f, r, h0, h1.kr k, h2.kr k⟩
  | bec => obtain ⟨f, h1⟩ := h; exact ⟨f, h1.kr k⟩
  | ask => obtain ⟨g, f, h1, h2, h3⟩ := h; exact ⟨g, f, h1.kr k, h2.kr k, h3.kr k⟩
  | say => obtain ⟨g, f, h1, h2, h3⟩ := h; exact ⟨g, f, h1.kr k, h2.kr k, h3.kr k⟩
  | rd => obtain ⟨g, f, h1, h2, h3⟩ := h; exact ⟨g, f, h1.kr k, h2.kr k, h3.kr k⟩
  | ec => obtain ⟨g, f, ty, h0, h1, h2, h3⟩ := h; exact ⟨g, f, ty, h0, h1.kr k, h2.kr k, h3.kr k⟩
  | note => exact NoteQ.kr h k
  | wrong => exact FailS.kr h k
  | fin => exact EndS.kb h
/-- The answer to the call of a stage. -/
def rSu (X : SuX) : SuG → An
  | .new => {}
  | .ids => { n := 3, real := X.real }
  | .slp a => { n := 3, text := X.text.extract a (min (a + 256) X.text.size) }
  | .say => { n := 10 }
  | .rd => { n := 3, text := X.typed }
  | .wrong => { n := 10 }
  | _ => { n := 3 }
/-- What holds of su's file, name and user. -/
structure SuF (X : SuX) (L : List Pw.UserS) : Prop where
  st : X.c.x = (⟨#[115, 117]⟩, .slice none 0 0, false, 0)
  has : Pw.HasW X.c.w0
  right : Pw.RightU L
  text : Pw.printB L = X.text.data.toList
  len : X.text.size ≤ 2500
  typed : X.typed.size ≤ 300
  user : ∃ k : Nat, ∃ h : k < L.length, Pw.isName X.name L[k] = true ∧ L[k] = X.u ∧ ∀ j (hj : j < L.length), Pw.isName X.name L[j] = true → j = k
  pass : X.u.pass = sStar
theorem text_step (t : ByteArray) (a : Nat) (ha : a ≤ t.size) : t.extract 0 a ++ t.extract a (min (a + 256) t.size) = t.extract 0 (min (a + 256) t.size) := by
  rw [ByteArray.extract_append_extract]
  congr 1 <;> omega
theorem text_whole (t : ByteArray) (a : Nat) (ha : t.size ≤ a) : t.extract 0 a = t := by
  apply ByteArray.ext
  rw [ByteArray.data_extract]
  exact Array.extract_eq_self_of_le ha
theorem text_emp (t : ByteArray) (a b : Nat) : (t.extract a b).toList.isEmpty = decide (min b t.size ≤ a) := by
  have h : (t.extract a b).size = min b t.size - a := ByteArray.size_extract
  have e : (t.extract a b).toList.isEmpty = decide ((t.extract a b).size = 0) := by
    rw [ByteArray.toList_eq]
    generalize t.extract a b = s
    rw [Bool.eq_iff_iff, List.isEmpty_iff, decide_eq_true_iff]
    constructor
    · intro h; show s.data.size = 0; rw [← Array.length_toList, h]; rfl
    · intro h; exact List.eq_nil_of_length_eq_zero (by rw [Array.length_toList]; exact h)
  rw [e, h]
  congr 1
  rw [eq_iff_iff]
  omega
theorem typed_size (r : An) (h : r.text.size ≤ 2000) : (typedS r).size ≤ 2000 := by
  unfold typedS
  split
  · show (Lib.trimSuffix r.text.data.toList [10]).toArray.size ≤ 2000
    rw [List.size_toArray]
    have h1 : (Lib.trimSuffix r.text.data.toList [10]).length ≤ r.text.data.toList.length := by
      unfold Lib.trimSuffix
      split <;> simp
    have h2 : r.text.data.toList.length = r.text.size := Array.length_toList
    omega
  · exact Nat.zero_le _
theorem NextP.more {p : Nat} {w : World} {m : Ma} {R R2 : Ma → World → Prop} {e : Ending} {w' : World} (hM : M w p m) (h : NextP p w R e w') (f : ∀ m' w', Kb w w' → R m' w' → R2 m' w') : NextP p w R2 e w' := by
  obtain ⟨m', h1, h2, h3, h4, h5⟩ := h
  exact ⟨m', h1, h2, h3, h4, f _ _ (Kb.mo hM h4) h5⟩
theorem SuB.ut {c : Cx} {name : ByteArray} {r : An} {f : Value} {w : World} (h : SuB c.q name r f w) {L : List Pw.UserS} (hL : L.length ≤ 8) {u : Pw.UserS} (hu : ∃ k : Nat, ∃ h : k < L.length, Pw.isName name L[k] = true ∧ L[k] = u ∧ ∀ j (hj : j < L.length), Pw.isName name L[j] = true → j = k) (hp : u.pass.toList.isEmpty = false) : Ut c L (SuQ c name r.real u) f w := by
  obtain ⟨bn, br, rfl, h1, h2, h3⟩ := h
  exact ⟨_, _, rfl, en_su2, fun w1 m v hv k g => su2_any g (k.get h1) (k _ _ _ (by decide) (by decide) (fun _ => h3) h2) hv hL hu hp⟩
/-- From a stage to the next one. -/
theorem su_next {X : SuX} {L : List Pw.UserS} (F : SuF X L) {w : World} {l : Nat} {m : Ma} (hr : Run X.c l w m) (g : SuG) (hs : SuP X g m w) (ha : ∀ a, g = .slp a → a ≤ X.text.size) (h1 : g ≠ .bec) (h2 : g ≠ .fin) {A : Array Value} (hq : w.heap[X.c.q]? = some (.cells A 35 (0, 0))) :
    Calls Tryz.prog 14 #[.pointer (some ⟨l, 0, none⟩), .agg (rSu X g).cells] w (NextP X.c.p w (Kst m (SuP X (g.nxt X.text.size (decide (X.real = 0)))))) := by
  have hR : ∀ g m' w1 w2, Kb w1 w2 → SuP X g m' w1 → SuP X g m' w2 := fun g m' w1 w2 k h => SuP.kr g m' w1 w2 (k.kr _) h
  have hst := hr.st.trans F.st
  have hpr : m.prog = ⟨#[115, 117]⟩ := congrArg (·.1) hst
  have hwr : m.writes = false := congrArg (·.2.2.1) hst
  have hpw : sPw.toList.isEmpty = false := by rw [ByteArray.toList_eq]; rfl
  have hpe : X.u.pass.toList.isEmpty = false := by rw [F.pass, ByteArray.toList_eq]; rfl
  cases g with
  | new => exact start_n hr hs en_su _ (hR _) fun w1 m1 v k g hw => su_any g.mach g.over hw
  | ids =>
    obtain ⟨ho, _, bn, e1, e2⟩ := hs
    refine go_next hr ho e1 _ (hR _) en_su1 fun w1 k g => ?_
    refine (su1_any g.mach ho (k.get e2) (q := X.c.q) (lt_of_heap (k.get hq)) (rSu X .ids)).mono fun e w2 h => h.mono fun m' w' hh => ⟨hh.1, ?_⟩
    obtain ⟨f, h3, h4⟩ := hh.2
    exact ⟨f, _, rfl, h3, h4⟩
  | opn =>
    obtain ⟨f, r, e0, e1, e2⟩ := hs
    refine (us1_n hr e1 (rSu X .opn) rfl).mono fun e w2 h => h.more hr.mach fun m' w' k hh => ⟨hh.1, f, r, e0, ?_, e2.kr (k.kr _)⟩
    have : X.text.extract 0 0 = ⟨#[]⟩ := by
      apply ByteArray.ext
      rw [ByteArray.data_extract]
      simp
    rw [this]
    exact hh.2
  | slp a =>
    obtain ⟨f, r, e0, e1, e2⟩ := hs
    have hle := ha a rfl
    by_cases hlt : a < X.text.size
    · have e : SuG.nxt X.text.size (decide (X.real = 0)) (.slp a) = .slp (min (a + 256) X.text.size) := if_pos hlt
      rw [e]
      have hz := F.len
      refine (us2_more hr e1 (rSu X (.slp a)) rfl ?_ ?_).mono fun e w2 h => h.more hr.mach fun m' w' k hh => ⟨hh.1, f, r, e0, ?_, e2.kr (k.kr _)⟩
      · show (X.text.extract a (min (a + 256) X.text.size)).toList.isEmpty = false
        rw [text_emp, decide_eq_false_iff_not]
        omega
      · show (X.text.extract 0 a ++ X.text.extract a (min (a + 256) X.text.size)).size ≤ 4096
        rw [text_step _ _ hle, ByteArray.size_extract]
        omega
      · have := hh.2
        rw [show X.text.extract 0 a ++ (rSu X (.slp a)).text = X.text.extract 0 (min (a + 256) X.text.size) from text_step _ _ hle] at this
        exact this
    · have e : SuG.nxt X.text.size (decide (X.real = 0)) (.slp a) = .clo := if_neg hlt
      rw [e]
      refine (us2_end hr e1 (rSu X (.slp a)) (.inr ⟨rfl, ?_⟩)).mono fun e w2 h => h.more hr.mach fun m' w' k hh => ⟨hh.1, f, r, e0, ?_, e2.kr (k.kr _)⟩
      · show (X.text.extract a (min (a + 256) X.text.size)).toList.isEmpty = true
        rw [text_emp, decide_eq_true_iff]
        omega
      · have := hh.2
        rw [text_whole _ _ (by omega)] at this
        exact this
  | clo =>
    obtain ⟨f, r, e0, e1, e2⟩ := hs
    have hp := Pw.parse_of F.right 1
    rw [F.text] at hp
    have hlen := F.right.len
    refine (us3_n hr F.has e1 (by rw [show X.text.data.toList.length = X.text.size from Array.length_toList]; have := F.len; omega) hp (R := SuQ X.c X.name r.real X.u) (fun m' w1 w2 k h => h.kr (k.kr _)) (e2.ut hlen F.user hpe) (rSu X .clo)).mono fun e w2 h => h.more hr.mach fun m' w' k hh => ⟨hh.1, ?_⟩
    rcases hh.2 with ⟨h3, h4⟩ | ⟨h3, h4⟩
    · rw [show SuG.nxt X.text.size (decide (X.real = 0)) .clo = .bec from if_pos (decide_eq_true (e0.symm.trans h3))]
      exact h4
    · rw [show SuG.nxt X.text.size (decide (X.real = 0)) .clo = .ask from if_neg (by rw [decide_eq_true_iff]; exact fun h => h3 (e0.trans h))]
      exact h4
  | bec => exact absurd rfl h1
  | ask =>
    obtain ⟨g, f, e1, e2, e3⟩ := hs
    exact (ask1_n hr e1 hpw (rSu X .ask) rfl).mono fun e w2 h => h.more hr.mach fun m' w' k hh => ⟨hh.1, g, f, hh.2, e2.kr (k.kr 0), e3.kr (k.kr _)⟩
  | say =>
    obtain ⟨g, f, e1, e2, e3⟩ := hs
    exact (ask2_n hr e1 (rSu X .say) rfl (show (1 : Int) ≤ 10 by omega) (show ((10 : Nat) : Int) ≤ 10 by omega)).mono fun e w2 h => h.more hr.mach fun m' w' k hh => ⟨hh.1, g, f, hh.2, e2.kr (k.kr 0), e3.kr (k.kr _)⟩
  | rd =>
    obtain ⟨g, f, e1, e2, e3⟩ := hs
    have ht := F.typed
    exact (ask3_n hr e1 (rSu X .rd) (show X.typed.size ≤ 9223372036854775807 by omega)).mono fun e w2 h => h.more hr.mach fun m' w' k hh => ⟨hh.1, g, f, _, typed_size _ (show X.typed.size ≤ 2000 by omega), hh.2, e2.kr (k.kr 0), e3.kr (k.kr _)⟩
  | ec =>
    obtain ⟨g, f, ty, hty, e1, e2, e3⟩ := hs
    have ht : Tt X.c (fun ty => NoteQ X.c X.name (true && false) (BecQ X.u)) g w := e2.tt e3 (mt := fun _ => false) fun ty w1 _ _ => by
      rw [F.pass]
      exact star_any ty w1
    exact ask4_n hr e1 (fun m' w1 w2 k h => h.kr (k.kr _)) ht hty (rSu X .ec)
  | note => exact note_no hr hs hwr (by rw [hpr]; exact (show 2 ≤ 1000000 by omega)) _
  | wrong =>
    exact fail_n hr hs (rSu X .wrong) rfl (show (1 : Int) ≤ 10 by omega) (by rw [hpr]; exact (show ((10 : Nat) : Int) ≤ 10 by omega))
  | fin => exact absurd rfl h2
end Go.Proofs.YtlhlehdajkoogaaGreatDoor
/- LoginChecks: login's stages. -/
namespace Go.Proofs.YtlhlehdajkoogaaGreatDoor
open Go.RowKit

/-- Where login stands. -/
inductive LcG
  | new | opn | slp (a : Nat) | clo | ask | say | rd | ec | note | bec | wrong | fin
namespace LcG
/-- N: how long the file is; z: need nothing be proved; r: is somebody right. -/
def nxt (N : Nat) (z r : Bool) : LcG → LcG
  | .new => .opn
  | .opn => .slp 0
  | .slp a => if a < N then .slp (min (a + 256) N) else .clo
  | .clo => if z then .note else .ask
  | .ask => .say
  | .say => .rd
  | .rd => .ec
  | .ec => .note
  | .note => if r then .bec else .wrong
  | .bec => .bec
  | .wrong => .fin
  | .fin => .fin
def atT (N : Nat) : LcG → Nat
  | .new => 0
  | .opn => 0
  | .slp a => a
  | _ => N
def atH (N : Nat) : LcG → Nat
  | .slp a => min (a + 256) N
  | g => atT N g
/-- How many notes were made. -/
def ntT : LcG → Nat
  | .bec => 1
  | .wrong => 1
  | .fin => 1
  | _ => 0
def ntH : LcG → Nat
  | .note => 1
  | g => ntT g
theorem at_nxt (N : Nat) (z r : Bool) (g : LcG) (h : ∀ a, g = .slp a → a ≤ N) : atT N (nxt N z r g) = atH N g := by
  cases g with
  | slp a =>
    have := h a rfl
    show atT N (if a < N then .slp (min (a + 256) N) else .clo) = min (a + 256) N
    by_cases hlt : a < N
    · rw [if_pos hlt]; rfl
    · rw [if_neg hlt]; simp only [atT]; omega
  | clo => cases z <;> rfl
  | note => cases r <;> rfl
  | _ => rfl
theorem nt_nxt (N : Nat) (z r : Bool) (g : LcG) : ntT (nxt N z r g) = ntH g := by
  cases g with
  | slp a =>
    show ntT (if a < N then .slp (min (a + 256) N) else .clo) = 0
    by_cases hlt : a < N
    · rw [if_pos hlt]; rfl
    · rw [if_neg hlt]; rfl
  | clo => cases z <;> rfl
  | note => cases r <;> rfl
  | _ => rfl
def Bd (N : Nat) : LcG → Nat → Prop
  | .new, k => k = 0
  | .opn, k => k = 1
  | .slp a, k => 2 ≤ k ∧ 256 * (k - 2) ≤ a + 255 ∧ a ≤ N ∧ (a % 256 = 0 ∨ a = N)
  | .clo, k => k ≤ 14
  | .ask, k => k ≤ 15
  | .say, k => k ≤ 16
  | .rd, k => k ≤ 17
  | .ec, k => k ≤ 18
  | .note, k => k ≤ 19
  | .wrong, k => k ≤ 20
  | .bec, k => k ≤ 50
  | .fin, k => k ≤ 50
theorem Bd.nxt {N : Nat} (hN : N ≤ 2500) {z r : Bool} {g : LcG} {k : Nat} (h : Bd N g k) (h1 : g ≠ .bec) (h2 : g ≠ .fin) : Bd N (nxt N z r g) (k + 1) := by
  cases g with
  | slp a =>
    obtain ⟨e1, e2, e3, e4⟩ := h
    show Bd N (if a < N then .slp (min (a + 256) N) else .clo) (k + 1)
    by_cases hlt : a < N
    · rw [if_pos hlt]; simp only [Bd]; omega
    · rw [if_neg hlt]; simp only [Bd]; omega
  | clo =>
    have h' : k ≤ 14 := h
    cases z with
    | false => exact (show k + 1 ≤ 15 by omega)
    | true => exact (show k + 1 ≤ 19 by omega)
  | note =>
    have h' : k ≤ 19 := h
    cases r with
    | false => exact (show k + 1 ≤ 20 by omega)
    | true => exact (show k + 1 ≤ 50 by omega)
  | bec => exact absurd rfl h1
  | fin => exact absurd rfl h2
  | new => have h' : k = 0 := h; exact (show k + 1 = 1 by omega)
  | opn => have h' : k = 1 := h; exact ⟨by omega, by omega, by omega, .inl rfl⟩
  | ask => have h' : k ≤ 15 := h; exact (show k + 1 ≤ 16 by omega)
  | say => have h' : k ≤ 16 := h; exact (show k + 1 ≤ 17 by omega)
  | rd => have h' : k ≤ 17 := h; exact (show k + 1 ≤ 18 by omega)
  | ec => have h' : k ≤ 18 := h; exact (show k + 1 ≤ 19 by omega)
  | wrong => have h' : k ≤ 20 := h; exact (show k + 1 ≤ 50 by omega)
theorem Bd.le {N : Nat} (hN : N ≤ 2500) {g : LcG} {k : Nat} (h : Bd N g k) (h1 : g ≠ .bec) (h2 : g ≠ .fin) : k < 60 := by
  cases g with
  | bec => exact absurd rfl h1
  | fin => exact absurd rfl h2
  | slp a =>
    obtain ⟨e1, e2, e3, e4⟩ := h
    omega
  | new => have h' : k = 0 := h; omega
  | opn => have h' : k = 1 := h; omega
  | clo => have h' : k ≤ 14 := h; omega
  | ask => have h' : k ≤ 15 := h; omega
  | say => have h' : k ≤ 16 := h; omega
  | rd => have h' : k ≤ 17 := h; omega
  | ec => have h' : k ≤ 18 := h; omega
  | note => have h' : k ≤ 19 := h; omega
  | wrong => have h' : k ≤ 20 := h; omega
/-- What a late stage says: is somebody right? -/
def late : LcG → Option Bool
  | .bec => some true
  | .wrong => some false
  | .fin => some false
  | _ => none
theorem late_nxt (N : Nat) (z r : Bool) (g : LcG) (h : ∀ b, late g = some b → b = r) : ∀ b, late (nxt N z r g) = some b → b = r := by
  cases g with
  | slp a =>
    intro b hb
    have hb' : late (if a < N then .slp (min (a + 256) N) else .clo) = some b := hb
    by_cases hlt : a < N
    · rw [if_pos hlt] at hb'; cases hb'
    · rw [if_neg hlt] at hb'; cases hb'
  | clo => cases z <;> intro b hb <;> cases hb
  | note => cases r <;> intro b hb <;> cases hb <;> rfl
  | new => intro b hb; cases hb
  | opn => intro b hb; cases hb
  | ask => intro b hb; cases hb
  | say => intro b hb; cases hb
  | rd => intro b hb; cases hb
  | ec => intro b hb; cases hb
  | bec => exact h
  | wrong => exact h
  | fin => exact h
theorem nxt_new (N : Nat) (z r : Bool) (g : LcG) : nxt N z r g ≠ .new := by
  cases g with
  | slp a =>
    show (if a < N then LcG.slp (min (a + 256) N) else .clo) ≠ .new
    by_cases hlt : a < N
    · rw [if_pos hlt]; exact fun h => by cases h
    · rw [if_neg hlt]; exact fun h => by cases h
  | clo => cases z <;> exact fun h => by cases h
  | note => cases r <;> exact fun h => by cases h
  | _ => exact fun h => by cases h
end LcG
/-- Does a password match? -/
noncomputable def mtB (f p : ByteArray) : Bool := @decide (Mz.MatchP f p) (Classical.propDecidable _)
theorem mtB_iff {f p : ByteArray} {r : Bool} (h : r = true ↔ Mz.MatchP f p) : r = mtB f p := by
  rw [Bool.eq_iff_iff, h]
  unfold mtB
  exact (@decide_eq_true_iff _ (Classical.propDecidable _)).symm
theorem mt_any (f p : ByteArray) (hf : f.size ≤ 140737488351232) (hp : p.size ≤ 2000) (w : World) (hT : Mz.HasT w) : Calls Tryz.prog 100 #[.string f, .string p] w fun e w' => e = .returned (.bool (mtB f p)) ∧ Below w.heap.size w w' :=
  (Mz.matches_any f p w hf hp hT).mono fun e w' ⟨r, h1, h2, h3⟩ => ⟨by rw [h1, mtB_iff h2], h3⟩
/-- What login is about. -/
structure LcX where
  c : Cx
  name : ByteArray
  text : ByteArray
  typed : ByteArray
  u : Pw.UserS
  is : Bool
  right : Bool
/-- Need nothing be proved? -/
def LcX.free (X : LcX) : Bool := X.is && X.u.pass.toList.isEmpty
/-- login at a stage. -/
def LcP (X : LcX) : LcG → Ma → World → Prop
  | .new, m, w => NewS 46 X.name m w
  | .opn, m, w => ∃ f, OpenS f m w ∧ LgB X.name f w
  | .slp a, m, w => ∃ f, UsS 3 (X.text.extract 0 a) f m w ∧ LgB X.name f w
  | .clo, m, w => ∃ f, UcS 3 X.text f m w ∧ LgB X.name f w
  | .ask, m, w => X.free = false ∧ ∃ g f, AskS sPw g m w ∧ PrvB X.name X.u X.is f g w ∧ Kt X.c (BecQ X.u) f w
  | .say, m, w => X.free = false ∧ ∃ g f, AskSay sPw g m w ∧ PrvB X.name X.u X.is f g w ∧ Kt X.c (BecQ X.u) f w
  | .rd, m, w => X.free = false ∧ ∃ g f, AskRd g m w ∧ PrvB X.name X.u X.is f g w ∧ Kt X.c (BecQ X.u) f w
  | .ec, m, w => X.free = false ∧ ∃ g f, AskEc (typedS { n := 3, text := X.typed }) g m w ∧ PrvB X.name X.u X.is f g w ∧ Kt X.c (BecQ X.u) f w
  | .note, m, w => NoteQ X.c X.name X.right (BecQ X.u) m w
  | .bec, m, w => BecQ X.u m w
  | .wrong, m, w => FailS sWrong m w
  | .fin, m, w => EndS 1 m w
theorem LcP.kr {X : LcX} (g : LcG) (m : Ma) (w w' : World) (k : Kr X.c.q w w') (h : LcP X g m w) : LcP X g m w' := by
  cases g with
  | new => exact NewS.kr h k
  | opn => obtain ⟨f, h1, h2⟩ := h; exact ⟨f, h1.kr k, h2.kr k⟩
  | slp a => obtain ⟨f, h1, h2⟩ := h; exact ⟨f, h1.kr k, h2.kr k⟩
  | clo => obtain ⟨f, h1, h2⟩ := h; exact ⟨f, h1.kr k, h2.kr k⟩
  | ask => obtain ⟨h0, g, f, h1, h2, h3⟩ := h; exact ⟨h0, g, f, h1.kr k, h2.kr k, h3.kr k⟩
  | say => obtain ⟨h0, g, f, h1, h2, h3⟩ := h; exact ⟨h0, g, f, h1.kr k, h2.kr k, h3.kr k⟩
  | rd => obtain ⟨h0, g, f, h1, h2, h3⟩ := h; exact ⟨h0, g, f, h1.kr k, h2.kr k, h3.kr k⟩
  | ec => obtain ⟨h0, g, f, h1, h2, h3⟩ := h; exact ⟨h0, g, f, h1.kr k, h2.kr k, h3.kr k⟩
  | note => exact NoteQ.kr h k
  | bec => obtain ⟨f, h1⟩ := h; exact ⟨f, h1.kr k⟩
  | wrong => exact FailS.kr h k
  | fin => exact EndS.kb h
/-- The answer to the call of a stage. -/
def rLc (X : LcX) : LcG → An
  | .new => {}
  | .slp a => { n := 3, text := X.text.extract a (min (a + 256) X.text.size) }
  | .say => { n := 10 }
  | .rd => { n := 3, text := X.typed }
  | .wrong => { n := 13 }
  | _ => { n := 3 }
def sLogin : ByteArray := ⟨#[108, 111, 103, 105, 110]⟩
/-- What holds of login's file, name and user. -/
structure LcF (X : LcX) (L : List Pw.UserS) : Prop where
  st : X.c.x = (sLogin, .slice none 0 0, false, 0)
  has : Pw.HasW X.c.w0
  tab : Mz.HasT X.c.w0
  right : Pw.RightU L
  text : Pw.printB L = X.text.data.toList
  len : X.text.size ≤ 2500
  typed : X.typed.size ≤ 300
  name : X.name.size ≤ 140737488355328
  fnd : FndQ X.name L X.u X.is
  pass : X.u.pass.size ≤ 140737488351232
  ok : X.right = (X.is && (X.u.pass.toList.isEmpty || mtB X.u.pass (typedS { n := 3, text := X.typed })))
/-- From a stage to the next one. -/
theorem lc_next {X : LcX} {L : List Pw.UserS} (F : LcF X L) {w : World} {l : Nat} {m : Ma} (hr : Run X.c l w m) (g : LcG) (hs : LcP X g m w) (ha : ∀ a, g = .slp a → a ≤ X.text.size) (h1 : g ≠ .bec) (h2 : g ≠ .fin) :
    Calls Tryz.prog 14 #[.pointer (some ⟨l, 0, none⟩), .agg (rLc X g).cells] w (NextP X.c.p w (Kst m (LcP X (g.nxt X.text.size X.free X.right)))) := by
  have hR : ∀ g m' w1 w2, Kb w1 w2 → LcP X g m' w1 → LcP X g m' w2 := fun g m' w1 w2 k h => LcP.kr g m' w1 w2 (k.kr _) h
  have hst := hr.st.trans F.st
  have hpr : m.prog = sLogin := congrArg (·.1) hst
  have hwr : m.writes = false := congrArg (·.2.2.1) hst
  have hpw : sPw.toList.isEmpty = false := by rw [ByteArray.toList_eq]; rfl
  have ht := F.typed
  cases g with
  | new => exact start_n hr hs en_login _ (hR _) fun w1 m1 v k g hw => login_any g.mach g.over hw F.name
  | opn =>
    obtain ⟨f, e1, e2⟩ := hs
    refine (us1_n hr e1 (rLc X .opn) rfl).mono fun e w2 h => h.more hr.mach fun m' w' k hh => ⟨hh.1, f, ?_, e2.kr (k.kr 0)⟩
    have : X.text.extract 0 0 = ⟨#[]⟩ := by
      apply ByteArray.ext
      rw [ByteArray.data_extract]
      simp
    rw [this]
    exact hh.2
  | slp a =>
    obtain ⟨f, e1, e2⟩ := hs
    have hle := ha a rfl
    by_cases hlt : a < X.text.size
    · have e : LcG.nxt X.text.size X.free X.right (.slp a) = .slp (min (a + 256) X.text.size) := if_pos hlt
      rw [e]
      have hz := F.len
      refine (us2_more hr e1 (rLc X (.slp a)) rfl ?_ ?_).mono fun e w2 h => h.more hr.mach fun m' w' k hh => ⟨hh.1, f, ?_, e2.kr (k.kr 0)⟩
      · show (X.text.extract a (min (a + 256) X.text.size)).toList.isEmpty = false
        rw [text_emp, decide_eq_false_iff_not]
        omega
      · show (X.text.extract 0 a ++ X.text.extract a (min (a + 256) X.text.size)).size ≤ 4096
        rw [text_step _ _ hle, ByteArray.size_extract]
        omega
      · have := hh.2
        rw [show X.text.extract 0 a ++ (rLc X (.slp a)).text = X.text.extract 0 (min (a + 256) X.text.size) from text_step _ _ hle] at this
        exact this
    · have e : LcG.nxt X.text.size X.free X.right (.slp a) = .clo := if_neg hlt
      rw [e]
      refine (us2_end hr e1 (rLc X (.slp a)) (.inr ⟨rfl, ?_⟩)).mono fun e w2 h => h.more hr.mach fun m' w' k hh => ⟨hh.1, f, ?_, e2.kr (k.kr 0)⟩
      · show (X.text.extract a (min (a + 256) X.text.size)).toList.isEmpty = true
        rw [text_emp, decide_eq_true_iff]
        omega
      · have := hh.2
        rw [text_whole _ _ (by omega)] at this
        exact this
  | clo =>
    obtain ⟨f, e1, e2⟩ := hs
    have hp := Pw.parse_of F.right 1
    rw [F.text] at hp
    have hlen := F.right.len
    refine (us3_n hr F.has e1 (by rw [show X.text.data.toList.length = X.text.size from Array.length_toList]; have := F.len; omega) hp (R := LgQ X.c X.name X.u X.is) (fun m' w1 w2 k h => h.kr (k.kr _)) (e2.ut hlen F.fnd) (rLc X .clo)).mono fun e w2 h => h.more hr.mach fun m' w' k hh => ⟨hh.1, ?_⟩
    have h3 := hh.2
    unfold LgQ at h3
    by_cases hc : X.is = true ∧ X.u.pass.toList.isEmpty = true
    · rw [if_pos hc] at h3
      have hf : X.free = true := by unfold LcX.free; rw [hc.1, hc.2]; rfl
      have hrt : X.right = true := by rw [F.ok, hc.1, hc.2]; rfl
      rw [show LcG.nxt X.text.size X.free X.right .clo = .note from if_pos hf]
      show NoteQ X.c X.name X.right (BecQ X.u) m' w'
      rw [hrt]
      exact h3
    · rw [if_neg hc] at h3
      have hf : ¬ X.free = true := fun h => hc (by unfold LcX.free at h; simpa using h)
      rw [show LcG.nxt X.text.size X.free X.right .clo = .ask from if_neg hf]
      exact ⟨by simpa using hf, h3⟩
  | ask =>
    obtain ⟨e0, g, f, e1, e2, e3⟩ := hs
    exact (ask1_n hr e1 hpw (rLc X .ask) rfl).mono fun e w2 h => h.more hr.mach fun m' w' k hh => ⟨hh.1, e0, g, f, hh.2, e2.kr (k.kr 0), e3.kr (k.kr _)⟩
  | say =>
    obtain ⟨e0, g, f, e1, e2, e3⟩ := hs
    exact (ask2_n hr e1 (rLc X .say) rfl (show (1 : Int) ≤ 10 by omega) (show ((10 : Nat) : Int) ≤ 10 by omega)).mono fun e w2 h => h.more hr.mach fun m' w' k hh => ⟨hh.1, e0, g, f, hh.2, e2.kr (k.kr 0), e3.kr (k.kr _)⟩
  | rd =>
    obtain ⟨e0, g, f, e1, e2, e3⟩ := hs
    exact (ask3_n hr e1 (rLc X .rd) (show X.typed.size ≤ 9223372036854775807 by omega)).mono fun e w2 h => h.more hr.mach fun m' w' k hh => ⟨hh.1, e0, g, f, hh.2, e2.kr (k.kr 0), e3.kr (k.kr _)⟩
  | ec =>
    obtain ⟨e0, g, f, e1, e2, e3⟩ := hs
    have hty := typed_size { n := 3, text := X.typed } (show X.typed.size ≤ 2000 by omega)
    have htt : Tt X.c (fun ty => NoteQ X.c X.name (X.is && mtB X.u.pass ty) (BecQ X.u)) g w := e2.tt e3 (mt := fun ty => mtB X.u.pass ty) fun ty w1 hz hb => mt_any _ _ F.pass hz w1 (F.tab.below hb)
    have hrt : X.right = (X.is && mtB X.u.pass (typedS { n := 3, text := X.typed })) := by
      rw [F.ok]
      unfold LcX.free at e0
      cases hi : X.is with
      | false => rfl
      | true =>
        rw [hi] at e0
        have e0' : X.u.pass.toList.isEmpty = false := e0
        rw [e0']
        rfl
    have h := ask4_n hr e1 (fun m' w1 w2 k h => h.kr (k.kr _)) htt hty (rLc X .ec)
    show Calls _ _ _ _ (NextP X.c.p w (Kst m fun m' w' => NoteQ X.c X.name X.right (BecQ X.u) m' w'))
    rw [hrt]
    exact h
  | note =>
    have hs' : NoteQ X.c X.name X.right (BecQ X.u) m w := hs
    cases hrt : X.right with
    | true =>
      rw [hrt] at hs'
      exact note_yes hr hs' (hR .bec) _
    | false =>
      rw [hrt] at hs'
      exact note_no hr hs' hwr (by rw [hpr]; exact (show 5 ≤ 1000000 by omega)) _
  | bec => exact absurd rfl h1
  | wrong =>
    exact fail_n hr hs (rLc X .wrong) rfl (show (1 : Int) ≤ 13 by omega) (by rw [hpr]; exact (show ((13 : Nat) : Int) ≤ 13 by omega))
  | fin => exact absurd rfl h2
end Go.Proofs.YtlhlehdajkoogaaGreatDoor
/- su's calls, by kinds. -/
namespace Go.Proofs.YtlhlehdajkoogaaGreatDoor
open Go.RowKit

namespace SuG
/-- What a late stage says of the asker: is it 0? -/
def late : SuG → Option Bool
  | .bec => some true
  | .ask => some false
  | .say => some false
  | .rd => some false
  | .ec => some false
  | .note => some false
  | .wrong => some false
  | .fin => some false
  | _ => none
theorem late_nxt (N : Nat) (z : Bool) (g : SuG) (h : ∀ b, late g = some b → b = z) : ∀ b, late (nxt N z g) = some b → b = z := by
  cases g with
  | slp a =>
    intro b hb
    have hb' : late (if a < N then .slp (min (a + 256) N) else .clo) = some b := hb
    by_cases hlt : a < N
    · rw [if_pos hlt] at hb'; cases hb'
    · rw [if_neg hlt] at hb'; cases hb'
  | clo => cases z <;> intro b hb <;> cases hb <;> rfl
  | new => intro b hb; cases hb
  | ids => intro b hb; cases hb
  | opn => intro b hb; cases hb
  | bec => exact h
  | ask => exact h
  | say => exact h
  | rd => exact h
  | ec => exact h
  | note => exact h
  | wrong => exact h
  | fin => exact h
theorem nxt_new (N : Nat) (z : Bool) (g : SuG) : nxt N z g ≠ .new := by
  cases g with
  | slp a =>
    show (if a < N then SuG.slp (min (a + 256) N) else .clo) ≠ .new
    by_cases hlt : a < N
    · rw [if_pos hlt]; exact fun h => by cases h
    · rw [if_neg hlt]; exact fun h => by cases h
  | clo => cases z <;> exact fun h => by cases h
  | _ => exact fun h => by cases h
end SuG
/-- A call that the law passes over. -/
def DefOp (z : Int) : Prop := (z == 22) = false ∧ (z == 4) = false ∧ (z == 5) = false ∧ (z == 23) = false ∧ (z == 20) = false
/-- su's calls. -/
inductive SuK (X : SuX) : SuG → Ca → Prop
  | ids {c : Ca} : c.op = 22 → SuK X .ids c
  | slp {c : Ca} (a : Nat) : c.op = 4 → c.fd = 3 → SuK X (.slp a) c
  | rd {c : Ca} : c.op = 4 → c.fd = 0 → SuK X .rd c
  | wr {c : Ca} (g : SuG) : g = .say ∨ g = .wrong → c.op = 5 → c.text.size = 10 → SuK X g c
  | bec {c : Ca} : c.op = 23 → c.owner = X.u.id → c.group = X.u.group → SuK X .bec c
  | fin {c : Ca} : c.op = 20 → c.n = 1 → SuK X .fin c
  | other {c : Ca} (g : SuG) : DefOp c.op → g ≠ .bec → g ≠ .fin → rSu X g = { n := 3 } → SuG.atH X.text.size g = SuG.atT X.text.size g → SuG.askH g = SuG.askT g → SuK X g c
theorem SuP.kind {X : SuX} {g : SuG} {m : Ma} {w : World} (h : SuP X g m w) (hn : g ≠ .new) (hp : m.prog = ⟨#[115, 117]⟩) : SuK X g m.c := by
  cases g with
  | new => exact absurd rfl hn
  | ids => obtain ⟨_, e, _⟩ := h; rw [e]; exact .ids rfl
  | opn =>
    obtain ⟨f, r, _, ⟨b, bt, e, _⟩, _⟩ := h
    rw [e.c]
    exact .other _ ⟨rfl, rfl, rfl, rfl, rfl⟩ (by simp) (by simp) rfl rfl rfl
  | slp a =>
    obtain ⟨f, r, _, ⟨b, e, _⟩, _⟩ := h
    rw [e.c]
    exact .slp a rfl rfl
  | clo =>
    obtain ⟨f, r, _, ⟨b, e, _⟩, _⟩ := h
    rw [e.c]
    exact .other _ ⟨rfl, rfl, rfl, rfl, rfl⟩ (by simp) (by simp) rfl rfl rfl
  | bec =>
    obtain ⟨f, bt, e, _⟩ := h
    rw [e.c]
    exact .bec rfl rfl rfl
  | ask =>
    obtain ⟨g, f, ⟨b, bp, bt, e, _⟩, _⟩ := h
    rw [e.c]
    exact .other _ ⟨rfl, rfl, rfl, rfl, rfl⟩ (by simp) (by simp) rfl rfl rfl
  | say =>
    obtain ⟨g, f, ⟨bt, e, _⟩, _⟩ := h
    rw [e.c]
    exact .wr _ (.inl rfl) rfl rfl
  | rd =>
    obtain ⟨g, f, ⟨_, e, _⟩, _⟩ := h
    rw [e]
    exact .rd rfl rfl
  | ec =>
    obtain ⟨g, f, ty, _, ⟨_, e, _⟩, _⟩ := h
    rw [e]
    exact .other _ ⟨rfl, rfl, rfl, rfl, rfl⟩ (by simp) (by simp) rfl rfl rfl
  | note =>
    obtain ⟨f, ⟨_, e, _⟩, _⟩ := h
    rw [e]
    exact .other _ ⟨rfl, rfl, rfl, rfl, rfl⟩ (by simp) (by simp) rfl rfl rfl
  | wrong =>
    have e := SayS.c h
    rw [e, hp]
    exact .wr _ (.inr rfl) rfl rfl
  | fin =>
    have e := EndS.c h
    rw [e]
    exact .fin rfl rfl
end Go.Proofs.YtlhlehdajkoogaaGreatDoor
/- chopped; login's calls, by kinds. -/
namespace Go.Proofs.YtlhlehdajkoogaaGreatDoor
open Go.RowKit

theorem trim_last (l : List UInt8) (n : Nat) (h : l.length = n + 1) : Lib.trimSuffix l [10] = if l[n]? = some 10 then l.take n else l := by
  have hd : l.drop n = [l[n]'(by omega)] := by
    rw [List.drop_eq_getElem_cons (by omega), List.drop_eq_nil_of_le (by omega)]
  have hs : Lib.hasSuffix l [10] = decide (l[n]? = some 10) := by
    unfold Lib.hasSuffix
    rw [Bool.eq_iff_iff, List.isSuffixOf_iff_suffix, decide_eq_true_iff, List.suffix_iff_eq_drop]
    rw [show l.length - [(10 : UInt8)].length = n by simp; omega, hd, List.getElem?_eq_getElem (by omega)]
    simp [eq_comm]
  unfold Lib.trimSuffix
  rw [hs]
  by_cases hc : l[n]? = some 10
  · rw [if_pos hc, decide_eq_true hc, if_pos rfl]
    congr 1
    simp
    omega
  · rw [if_neg hc, decide_eq_false hc]
    rfl
set_option maxRecDepth 100000 in
set_option maxHeartbeats 2000000 in
theorem chopped_any (t : ByteArray) (ht : t.size ≤ 2000) (w : World) :
    Calls Tryz.prog 20 #[.string t] w fun e w' => e = .returned (.string (typedS { n := 3, text := t })) ∧ w' = w := by
  have hT : typedS { n := 3, text := t } = ⟨(Lib.trimSuffix t.data.toList [10]).toArray⟩ := by unfold typedS; rw [if_pos rfl]
  have hlen : t.data.toList.length = t.size := Array.length_toList
  by_cases h0 : t.size = 0
  · have e : typedS { n := 3, text := t } = t := by
      have hnil : t.data.toList = [] := List.eq_nil_of_length_eq_zero (by rw [hlen]; exact h0)
      rw [hT, hnil]
      apply ByteArray.ext
      apply Array.ext'
      rw [hnil]
      rfl
    rw [e]
    have h1 : ¬ (0 : Int) < t.size := by omega
    clear hT hlen h0 e
    go_enter Tryz.func20, Tryz.ntmps20
    go_wp2
    go_ret
    exact ⟨rfl, rfl⟩
  · obtain ⟨n, hn⟩ : ∃ n, t.size = n + 1 := ⟨t.size - 1, by omega⟩
    have h1 : (0 : Int) < t.size := by omega
    have h2 : (t.size : Int) - 1 = n := by omega
    have h3 : n < t.size := by omega
    have h4 : (n : Int) < t.size := by omega
    have h5 : t.data.toList[n]? = some t[n] := by
      rw [List.getElem?_eq_getElem (by rw [hlen]; omega)]; rfl
    have hw : wrap64 ((t.size : Int) - 1) = n := by unfold wrap64; omega
    have hz : (n : Int) ≤ 2000 := by omega
    rw [hT, trim_last _ n (by rw [hlen]; exact hn), h5]
    by_cases hc : t[n] = 10
    · rw [if_pos (by rw [hc])]
      have hc1 : (t[n].toNat : Int) = 10 := by rw [hc]; rfl
      have e : (⟨(t.data.toList.take n).toArray⟩ : ByteArray) = t.extract 0 n := by
        apply ByteArray.ext
        apply Array.ext'
        rw [ByteArray.data_extract]
        simp
      rw [e]
      clear hT hlen h0 h5 hc e
      go_enter Tryz.func20, Tryz.ntmps20
      go_wp2
      go_ret
      exact ⟨rfl, rfl⟩
    · rw [if_neg (fun h => hc (Option.some.inj h))]
      have hc1 : ¬ (t[n].toNat : Int) = 10 := fun h => hc (by apply UInt8.toNat_inj.1; show t[n].toNat = 10; omega)
      have e : (⟨t.data.toList.toArray⟩ : ByteArray) = t := by
        apply ByteArray.ext
        simp
      rw [e]
      clear hT hlen h0 h5 hc e
      go_enter Tryz.func20, Tryz.ntmps20
      go_wp2
      go_ret
      exact ⟨rfl, rfl⟩
theorem Td.nextK {c : Cx} {l : Nat} {S0 S : Ma → World → Prop} {m : Ma} {A : Array Value} {w w1 : World} {e : Ending} (h : Td c l S0 m A w) (hn : NextP c.p w (Kst m S) e w1) : ∃ m1, e = .returned (.agg m1.c.cells) ∧ m1.told ∧ Td c l S m1 A w1 ∧ Kb w w1 := by
  obtain ⟨m1, he, h1, h2, h3, h4, h5⟩ := hn
  have k := Kb.mo h.run.mach h3
  exact ⟨m1, he, h2, ⟨⟨h.run.lies.kb k, h1, Mo.bel h.run.bel h3 h.run.ge (Nat.le_refl _), h.run.ge, h4.trans h.run.st⟩, h5, k.get h.ans, h.rge⟩, k⟩
/-- A call that the law of login passes over. -/
def DefOp2 (z : Int) : Prop := (z == 4) = false ∧ (z == 5) = false ∧ (z == 26) = false ∧ (z == 23) = false ∧ (z == 20) = false
/-- login's calls. -/
inductive LcK (X : LcX) : LcG → Ca → Prop
  | slp {c : Ca} (a : Nat) : c.op = 4 → c.fd = 3 → LcK X (.slp a) c
  | rd {c : Ca} : c.op = 4 → c.fd = 0 → LcK X .rd c
  | wr {c : Ca} (g : LcG) (n : Nat) : (g = .say ∧ n = 10) ∨ (g = .wrong ∧ n = 13) → c.op = 5 → c.text.size = n → LcK X g c
  | note {c : Ca} : c.op = 26 → c.text = X.name → (c.n = if X.right then 1 else 0) → LcK X .note c
  | bec {c : Ca} : c.op = 23 → c.owner = X.u.id → c.group = X.u.group → LcK X .bec c
  | fin {c : Ca} : c.op = 20 → c.n = 1 → LcK X .fin c
  | other {c : Ca} (g : LcG) : DefOp2 c.op → g ≠ .bec → g ≠ .fin → rLc X g = { n := 3 } → LcG.atH X.text.size g = LcG.atT X.text.size g → LcG.ntH g = LcG.ntT g → LcK X g c
theorem LcP.kind {X : LcX} {g : LcG} {m : Ma} {w : World} (h : LcP X g m w) (hn : g ≠ .new) (hp : m.prog = sLogin) : LcK X g m.c := by
  cases g with
  | new => exact absurd rfl hn
  | opn =>
    obtain ⟨f, ⟨b, bt, e, _⟩, _⟩ := h
    rw [e.c]
    exact .other _ ⟨rfl, rfl, rfl, rfl, rfl⟩ (by simp) (by simp) rfl rfl rfl
  | slp a =>
    obtain ⟨f, ⟨b, e, _⟩, _⟩ := h
    rw [e.c]
    exact .slp a rfl rfl
  | clo =>
    obtain ⟨f, ⟨b, e, _⟩, _⟩ := h
    rw [e.c]
    exact .other _ ⟨rfl, rfl, rfl, rfl, rfl⟩ (by simp) (by simp) rfl rfl rfl
  | ask =>
    obtain ⟨_, g, f, ⟨b, bp, bt, e, _⟩, _⟩ := h
    rw [e.c]
    exact .other _ ⟨rfl, rfl, rfl, rfl, rfl⟩ (by simp) (by simp) rfl rfl rfl
  | say =>
    obtain ⟨_, g, f, ⟨bt, e, _⟩, _⟩ := h
    rw [e.c]
    exact .wr _ 10 (.inl ⟨rfl, rfl⟩) rfl rfl
  | rd =>
    obtain ⟨_, g, f, ⟨_, e, _⟩, _⟩ := h
    rw [e]
    exact .rd rfl rfl
  | ec =>
    obtain ⟨_, g, f, ⟨_, e, _⟩, _⟩ := h
    rw [e]
    exact .other _ ⟨rfl, rfl, rfl, rfl, rfl⟩ (by simp) (by simp) rfl rfl rfl
  | note =>
    obtain ⟨f, ⟨_, e, _⟩, _⟩ := h
    rw [e]
    exact .note rfl rfl rfl
  | bec =>
    obtain ⟨f, bt, e, _⟩ := h
    rw [e.c]
    exact .bec rfl rfl rfl
  | wrong =>
    have e := SayS.c h
    rw [e, hp]
    exact .wr _ 13 (.inr ⟨rfl, rfl⟩) rfl rfl
  | fin =>
    have e := EndS.c h
    rw [e]
    exact .fin rfl rfl
end Go.Proofs.YtlhlehdajkoogaaGreatDoor
/- Clone, Change. -/
namespace Go.Proofs.Pw
open Go.RowKit

theorem cells_one : ∀ (L : List UserS), ∀ u ∈ cellsU L, u.oneCell' = true
  | [], u, h => by cases h
  | x :: L, u, h => by
    rw [cellsU_cons] at h
    rcases List.mem_append.1 h with h | h
    · simp [userC] at h
      rcases h with rfl | rfl | rfl | rfl | rfl | rfl <;> rfl
    · exact cells_one L u h
theorem inU_cells {w : World} {ad : Addr} {cap : Nat} {L : List UserS} (h : InU w (.slice (some ad) L.length cap) L) (j : Nat) (u : Value) (hj : (cellsU L)[j]? = some u) : w.cell? (ad.add j) = some u := by
  obtain ⟨a', cap', hv, hc⟩ := h
  obtain ⟨rfl, rfl⟩ : some ad = a' ∧ cap = cap' := by simp at hv; exact ⟨hv.1, hv.2⟩
  have hlt : j < (cellsU L).length := (List.getElem?_eq_some_iff.1 hj).1
  rw [cellsU_len] at hlt
  have hq : j / 6 < L.length := by omega
  have hr : j % 6 < 6 := Nat.mod_lt _ (by decide)
  obtain ⟨b, off, hb, h⟩ := hc (j / 6) hq
  obtain rfl : ad = ⟨b, off, none⟩ := by simpa using hb
  have h1 := h (j % 6) hr
  rw [← cellsU_at L (j / 6) hq (j % 6) hr, show j / 6 * 6 + j % 6 = j by omega, hj, show off + j / 6 * 6 + j % 6 = off + j by omega] at h1
  have hadd : (⟨b, off, none⟩ : Addr).add j = ⟨b, off + j, none⟩ := by unfold Addr.add; split <;> simp_all
  rw [hadd]; exact h1
set_option maxHeartbeats 1000000 in
set_option maxRecDepth 100000 in
theorem clone_any (a : Addr) (cap : Nat) (L : List UserS) (w : World) (hF : InU w (.slice (some a) L.length cap) L) (hn : L.length ≤ 1000) :
    Calls Tryz.prog 201 #[.slice (some a) L.length cap] w fun e w' => ∃ v, e = .returned v ∧ OwnU w' w.heap.size v L ∧ Below w.heap.size w w' := by
  obtain ⟨i0, hi, hz0, hz1, hz4⟩ := info_parts info33
  have HF := Lib.hid hF
  have HN := Lib.hid hn
  have hne : ∀ W : World, (Sem.run Tryz.prog (binOp BinOp.eql 44 (.slice (some a) L.length cap) (.slice none 0 0)) W) = .ok (.bool false) W := fun W => rfl
  clear hF hn
  go_enter Tryz.func201, Tryz.ntmps201
  go_wp2_with (at_builtin; refine wpList_append_own _ rfl _ _ 44 rfl w.heap.size 47 i0 (.agg (userC zeroU)) 6 80 Tryz.underlying44 hi hz0 hz1 hz4 rfl (by decide) _ _ _ rfl (World.ownsRow_made _ #[] 0 (Nat.le_refl _) (by unfold maxLen; omega) rfl) a L.length cap (cellsU L) rfl (cellsU_len L) (fun j u hj => inU_cells (HF.out.below ((Below.refl _ _).alloc (Nat.le_refl _) _)) j u hj) (cells_one L) (by unfold maxLen; have := HN.out; omega) (by have := HN.out; omega) (by simp) ?_; intro v' w6 hown' hgrow _)
  have HO : Hid (OwnU w6 w.heap.size v' L) := Lib.hid (by unfold OwnU; rw [Nat.zero_add, List.nil_append] at hown'; exact hown')
  have HB := Lib.hid (below_grown ((Below.refl w.heap.size w).alloc (Nat.le_refl _) _) (Nat.le_refl _) hgrow (fun k hk => Nat.le_of_eq (Option.some.inj hk)))
  clear hown' hgrow
  go_wp2
  go_ret
  exact ⟨v', rfl, HO.out, HB.out⟩
def passU (p : ByteArray) (u : UserS) : UserS := ⟨u.name, p, u.id, u.group, u.home, u.shell⟩
theorem cellsU_set (p : ByteArray) : ∀ (L : List UserS) (k : Nat) (hk : k < L.length), cellsU (L.set k (passU p L[k])) = (cellsU L).set (k * 6 + 1) (.string p)
  | [], k, hk => absurd hk (Nat.not_lt_zero k)
  | u :: L, 0, _ => by
    rw [List.set_cons_zero, cellsU_cons, cellsU_cons]
    rfl
  | u :: L, k + 1, hk => by
    rw [List.set_cons_succ, cellsU_cons, cellsU_cons]
    have ih := cellsU_set p L k (by simpa using hk)
    rw [List.getElem_cons_succ, ih, List.set_append_right _ _ (by rw [userC_len]; omega), userC_len, show (k + 1) * 6 + 1 - 6 = k * 6 + 1 by omega]
/-- What Change tells. -/
def ChangeP (x p : ByteArray) (L : List UserS) (w : World) (e : Ending) (w' : World) : Prop :=
  Below w.heap.size w w' ∧ ((∃ k : Nat, ∃ h : k < L.length, isName x L[k] = true ∧ (∀ j (hj : j < k), isName x (L[j]'(by omega)) = false) ∧ ∃ v, e = .returned (.tuple #[v, .bool true]) ∧ OwnU w' w.heap.size v (L.set k (passU p L[k]))) ∨
    ((∀ f ∈ L, isName x f = false) ∧ e = .returned (.tuple #[.slice none 0 0, .bool false])))
set_option maxHeartbeats 2000000 in
set_option maxRecDepth 100000 in
theorem change_any (v : Value) (L : List UserS) (x p : ByteArray) (w : World) (hF : InU w v L) (hn : L.length ≤ 1000) :
    Calls Tryz.prog 175 #[v, .string x, .string p] w (ChangeP x p L w) := by
  obtain ⟨a, cap, rfl, hc⟩ := hF
  have HF : Hid (InU w (.slice a L.length cap) L) := Lib.hid ⟨a, cap, rfl, hc⟩
  clear hc
  have HA := Lib.hid (at_any _ L x w HF.out (by omega))
  have HN := Lib.hid hn
  clear hn
  go_enter Tryz.func175, Tryz.ntmps175
  go_wp2_with fail
  refine HA.out.mono ?_
  rintro e w1 ⟨rfl, hb⟩
  have HB1 := Lib.hid hb
  clear hb
  rcases findU_cases (isName x) L with ⟨h1, h2⟩ | ⟨k, hk, h1, h2, h3⟩
  · rw [h1]
    have H2 := Lib.hid h2
    clear h1 h2
    go_wp2
    exact bodyPost_ret (v := .tuple #[.slice none 0 0, .bool false]) (by simp [results, Tryz.results78, go_sem]) rfl ⟨HB1.out, .inr ⟨H2.out, rfl⟩⟩
  · rw [h3]
    clear h3
    have hk1 : (k : Int) < L.length := by omega
    have hk0 : (0 : Int) ≤ k := by omega
    obtain ⟨b, off, rfl, hu⟩ := HF.out.uc HB1.out hk
    have HKK := Lib.hid (show ∃ h : k < L.length, isName x L[k] = true ∧ ∀ j (hj : j < k), isName x (L[j]'(by omega)) = false from ⟨hk, h1, h2⟩)
    clear h1 h2 hu
    have HCL := Lib.hid (clone_any _ cap L w1 (HF.out.below HB1.out) HN.out)
    go_wp2_with fail
    refine HCL.out.mono ?_
    rintro e w2 ⟨v2, rfl, ho, hb⟩
    have HB2 := Lib.hid (HB1.out.trans (hb.mono HB1.out.size))
    have hcell : ∀ g : Nat, v2.ownBlock = some g → ∀ (j : Nat) (u : Value), (cellsU L)[j]? = some u → w2.cell? ((⟨g, 0, none⟩ : Addr).add j) = some u := fun g hg => ho.cells hg
    rcases ho.2 with ⟨_, h0⟩ | ⟨g, c2, cur, rfl, hg0, hg, hcap, _, hcs, _⟩
    · omega
    · have hst := ho.stored (k * 6 + 1) (.string p)
      have hpos : (cellsU L)[k * 6 + 1]? = some (.string L[k].pass) := by rw [cellsU_at L k hk 1 (by omega)]; rfl
      have hce : w2.cell? ⟨g, k * 6 + 1, none⟩ = some (.string L[k].pass) := by
        have := hcell g rfl (k * 6 + 1) _ hpos
        have hadd : (⟨g, 0, none⟩ : Addr).add (k * 6 + 1) = ⟨g, k * 6 + 1, none⟩ := by unfold Addr.add; split <;> simp_all
        rwa [hadd] at this
      have hfr : w2.frozen? ⟨g, k * 6 + 1, none⟩ = false := frozen_of_row _ _ _ _ _ hg
      have HO : Hid (OwnU (w2.setCell ⟨g, k * 6 + 1, none⟩ (.string p)) w.heap.size (.slice (some ⟨g, 0, none⟩) L.length c2) (L.set k (passU p L[k]))) := Lib.hid (by
        unfold OwnU
        rw [List.length_set, cellsU_set]
        obtain ⟨q1, q2⟩ := hst.1
        refine ⟨q1, ?_⟩
        rcases q2 with ⟨q, _⟩ | ⟨g', cap', cur', q, hB, rest⟩
        · simp at q
        · exact .inr ⟨g', cap', cur', q, Nat.le_trans HB1.out.size hB, rest⟩)
      have HBS := Lib.hid (HB2.out.setCell (p := ⟨g, k * 6 + 1, none⟩) (Nat.le_trans HB1.out.size hg0) (.string p))
      generalize L[k].pass = oldp at *
      clear hst hpos hcell ho hb hg hcap hcs
      go_wp2
      refine bodyPost_ret (v := .tuple #[.slice (some ⟨g, 0, none⟩) L.length c2, .bool true]) (by simp [results, Tryz.results78, go_sem]) rfl ⟨HBS.out, .inl ?_⟩
      obtain ⟨h, h1, h2⟩ := HKK.out
      exact ⟨k, h, h1, h2, _, rfl, HO.out⟩
end Go.Proofs.Pw
/- The reference's Same. -/
namespace Go.Proofs.Pw
open Go.RowKit

theorem bne_dec (a b : Int) : (a != b) = !decide (a = b) := by
  by_cases h : a = b
  · simp [h]
  · rw [decide_eq_false h]; simpa using h
theorem bf_and (f g : UserS) : ((f.name.toList == g.name.toList) && ((f.pass.toList == g.pass.toList) && ((f.id == g.id) && ((f.group == g.group) && ((f.home.toList == g.home.toList) && (f.shell.toList == g.shell.toList)))))) = decide (f = g) := by
  rw [eq_text, eq_text, eq_text, eq_text, Bool.eq_iff_iff]
  obtain ⟨a1, a2, a3, a4, a5, a6⟩ := f
  obtain ⟨b1, b2, b3, b4, b5, b6⟩ := g
  simp
theorem eq_run (f g : UserS) (W : World) : (Op.equalIn 10000 47 (.agg (userC f)) (.agg (userC g))).run Tryz.prog W = .ok (decide (f = g)) W := by
  rw [run_equalIn_agg W 9999 47 _ _ (by simp only [Program.fieldsOf, Tryz.underlying47]) (by kernel_rfl)]
  rw [← bf_and]
  simp [Program.fieldsOf, Tryz.underlying47, Op.eqFields, userC, go_sem]
  by_cases h1 : f.name.toList = g.name.toList
  · by_cases h2 : f.pass.toList = g.pass.toList
    · by_cases h3 : f.id = g.id
      · by_cases h4 : f.group = g.group
        · by_cases h5 : f.home.toList = g.home.toList
          · by_cases h6 : f.shell.toList = g.shell.toList
            · simp [h1, h2, h3, h4, h5, h6]
            · simp [h1, h2, h3, h4, h5, h6]
          · simp [h1, h2, h3, h4, h5]
        · simp [h1, h2, h3, h4]
      · simp [h1, h2, h3]
    · simp [h1, h2]
  · simp [h1]
theorem guard33 : Tryz.prog.eqGuardType Tryz.prog.depth 47 = false := by kernel_rfl
theorem eq_users (f g : UserS) (W : World) {q : Bool} (hq : decide (f = g) = q) : (Op.equalIn 10000 47 (.agg #[.string f.name, .string f.pass, .int .i64 f.id, .int .i64 f.group, .string f.home, .string f.shell]) (.agg #[.string g.name, .string g.pass, .int .i64 g.id, .int .i64 g.group, .string g.home, .string g.shell])).run Tryz.prog W = .ok q W := by
  rw [← hq]; exact eq_run f g W
set_option maxHeartbeats 2000000 in
set_option maxRecDepth 100000 in
theorem same_any (v1 v2 : Value) (A B : List UserS) (w : World) (h1 : InU w v1 A) (h2 : InU w v2 B) (hA : A.length ≤ 140737488355328) (hB : B.length ≤ 140737488355328) :
    Calls Tryz.prog 23 #[v1, v2] w fun e w' => e = .returned (.bool (decide (A = B))) ∧ Below w.heap.size w w' := by
  obtain ⟨a1, c1, rfl, k1⟩ := h1
  obtain ⟨a2, c2, rfl, k2⟩ := h2
  have H1 : Hid (InU w (.slice a1 A.length c1) A) := Lib.hid ⟨a1, c1, rfl, k1⟩
  have H2 : Hid (InU w (.slice a2 B.length c2) B) := Lib.hid ⟨a2, c2, rfl, k2⟩
  clear k1 k2
  by_cases hl : A.length = B.length
  · have hne : ((A.length : Int) != (B.length : Int)) = false := by rw [hl]; simp
    have HL := Lib.hid hl
    have hA1 : (A.length : Int) ≤ 140737488355328 := by omega
    clear hl hA hB
    go_enter Tryz.func23, Tryz.ntmps23
    go_wp2
    go_loopw [5] (fun v5 wr => ∃ k : Nat, k ≤ A.length ∧ v5 = .int .i64 k ∧ Hid (Below w.heap.size w wr ∧ A.take k = B.take k)) (fun v5 _ => A.length - (intOf v5).toNat)
    case atStart => exact ⟨0, Nat.zero_le _, rfl, Lib.hid ⟨Below.refl _ _, rfl⟩⟩
    case round =>
      obtain ⟨k, hk, rfl, HH⟩ := hrel
      by_cases hlt : k < A.length
      · have hlt1 : (k : Int) < A.length := by omega
        have hltB : k < B.length := by rw [← HL.out]; exact hlt
        have hlt2 : (k : Int) < B.length := by omega
        obtain ⟨b1, o1, rfl, hu1⟩ := H1.out.uc HH.out.1 hlt
        obtain ⟨b2, o2, rfl, hu2⟩ := H2.out.uc HH.out.1 hltB
        have HT1 := Lib.hid (List.take_succ_eq_append_getElem hlt)
        have HT2 := Lib.hid (List.take_succ_eq_append_getElem hltB)
        have HNX : Hid (A[k] = B[k] → A.take (k + 1) = B.take (k + 1)) := Lib.hid (fun h => by rw [HT1.out, HT2.out, HH.out.2, h])
        have HNE : Hid (A[k] ≠ B[k] → A ≠ B) := Lib.hid (fun h e => h (by subst e; rfl))
        generalize A[k] = f1 at *
        generalize B[k] = f2 at *
        obtain ⟨g0, g1, g2, g3, g4, g5⟩ := hu1
        obtain ⟨i0, i1, i2, i3, i4, i5⟩ := hu2
        clear hltB
        have hgd := guard33
        by_cases he : f1 = f2
        · have heq : ∀ W, _ := fun W => eq_users f1 f2 W (decide_eq_true he)
          have HN2 := Lib.hid (HNX.out he)
          clear he HNX HNE
          go_upto_region 6 with fail
          go_quiet (fail)
          go_wp2
          go_roundw
          case rel => exact ⟨k + 1, by omega, by go_num, Lib.hid ⟨drewN_below HH.out.1 _, HN2.out⟩⟩
          case measure => simp [intOf]; omega
        · have heq : ∀ W, _ := fun W => eq_users f1 f2 W (decide_eq_false he)
          have HR : Hid (decide (A = B) = false) := Lib.hid (decide_eq_false (HNE.out he))
          clear he HNX HNE
          go_upto_region 6 with fail
          go_quiet (fail)
          go_wp2
          go_ret
          exact ⟨by rw [HR.out]; rfl, drewN_below HH.out.1 _⟩
      · have hlt1 : ¬ (k : Int) < A.length := by omega
        have HR : Hid (decide (A = B) = true) := Lib.hid (decide_eq_true (by
          have h := HH.out.2
          rw [List.take_of_length_le (by omega), List.take_of_length_le (by have := HL.out; omega)] at h
          exact h))
        go_wp2
        go_ret
        exact ⟨by rw [HR.out]; rfl, HH.out.1⟩
  · have hne : ((A.length : Int) != (B.length : Int)) = true := by simp; omega
    have HR : Hid (decide (A = B) = false) := Lib.hid (decide_eq_false fun e => hl (by rw [e]))
    clear hl hA hB
    go_enter Tryz.func23, Tryz.ntmps23
    go_wp2
    go_ret
    exact ⟨by rw [HR.out]; rfl, Below.refl _ _⟩
end Go.Proofs.Pw
/- The document's Find and Of. -/
namespace Go.Proofs.Pw
open Go.RowKit

theorem leave15 {T : Array Value} {W : World} (n0 : Nat) {f : UserS} {b : Bool} (hT4 : T[4]? = some (.pointer (some ⟨n0, 0, none⟩))) (hT5 : T[5]? = some (.bool b))
    (hres : W.heap[n0]? = some (.cells (userC f) 47 (0, 0))) {R : Ending → World → Prop} (hR : R (.returned (.tuple #[.agg (userC f), .bool b])) W) :
    bodyPost Tryz.prog Tryz.f18 R Exit.ret { tmps := T, defers := [] } W := by
  have c0 : W.cell? ⟨n0, 0, none⟩ = some (.string f.name) := heap_cell hres 0
  have c1 : W.cell? ⟨n0, 1, none⟩ = some (.string f.pass) := heap_cell hres 1
  have c2 : W.cell? ⟨n0, 2, none⟩ = some (.int .i64 f.id) := heap_cell hres 2
  have c3 : W.cell? ⟨n0, 3, none⟩ = some (.int .i64 f.group) := heap_cell hres 3
  have c4 : W.cell? ⟨n0, 4, none⟩ = some (.string f.home) := heap_cell hres 4
  have c5 : W.cell? ⟨n0, 5, none⟩ = some (.string f.shell) := heap_cell hres 5
  exact bodyPost_ret (v := .tuple #[.agg (userC f), .bool b]) (by simp [results, Tryz.results18, go_sem, hT4, hT5, c0, c1, c2, c3, c4, c5, userC]) rfl hR
theorem leave17 {T : Array Value} {W : World} (n0 : Nat) {f : UserS} {b : Bool} (hT4 : T[4]? = some (.pointer (some ⟨n0, 0, none⟩))) (hT5 : T[5]? = some (.bool b))
    (hres : W.heap[n0]? = some (.cells (userC f) 47 (0, 0))) {R : Ending → World → Prop} (hR : R (.returned (.tuple #[.agg (userC f), .bool b])) W) :
    bodyPost Tryz.prog Tryz.f62 R Exit.ret { tmps := T, defers := [] } W := by
  have c0 : W.cell? ⟨n0, 0, none⟩ = some (.string f.name) := heap_cell hres 0
  have c1 : W.cell? ⟨n0, 1, none⟩ = some (.string f.pass) := heap_cell hres 1
  have c2 : W.cell? ⟨n0, 2, none⟩ = some (.int .i64 f.id) := heap_cell hres 2
  have c3 : W.cell? ⟨n0, 3, none⟩ = some (.int .i64 f.group) := heap_cell hres 3
  have c4 : W.cell? ⟨n0, 4, none⟩ = some (.string f.home) := heap_cell hres 4
  have c5 : W.cell? ⟨n0, 5, none⟩ = some (.string f.shell) := heap_cell hres 5
  exact bodyPost_ret (v := .tuple #[.agg (userC f), .bool b]) (by simp [results, Tryz.results62, go_sem, hT4, hT5, c0, c1, c2, c3, c4, c5, userC]) rfl hR
set_option maxHeartbeats 2000000 in
set_option maxRecDepth 100000 in
theorem rfind_any (v : Value) (fs : List UserS) (x : ByteArray) (w : World) (hF : InU w v fs) (hn : fs.length ≤ 140737488355328) :
    Calls Tryz.prog 18 #[v, .string x] w (FoundP (isName x) fs w) := by
  obtain ⟨a, cap, rfl, hc⟩ := hF
  have HF : Hid (InU w (.slice a fs.length cap) fs) := Lib.hid ⟨a, cap, rfl, hc⟩
  clear hc
  have hn1 : (fs.length : Int) ≤ 140737488355328 := by omega
  have HN := Lib.hid hn
  clear hn
  go_enter Tryz.func18, Tryz.ntmps18
  go_wp2
  go_loopw [6] (fun v6 wr => ∃ k : Nat, k ≤ fs.length ∧ v6 = .int .i64 k ∧ Hid (Below w.heap.size w wr ∧ wr.heap[w.heap.size]? = some (.cells (userC zeroU) 47 (0, 0)) ∧ ∀ j (hj : j < k) (hj2 : j < fs.length), isName x fs[j] = false)) (fun v6 _ => fs.length - (intOf v6).toNat)
  case atStart => exact ⟨0, Nat.zero_le _, rfl, Lib.hid ⟨(Below.refl w.heap.size w).alloc (Nat.le_refl _) (.cells (userC zeroU) 47), at_new w (.cells (userC zeroU) 47), fun j hj => by omega⟩⟩
  case round =>
    obtain ⟨k, hk, rfl, HH⟩ := hrel
    by_cases hlt : k < fs.length
    · have hlt1 : (k : Int) < fs.length := by omega
      obtain ⟨b, off, rfl, hu⟩ := HF.out.uc HH.out.1 hlt
      have HKK : Hid (∃ h : k < fs.length, fs[k] = fs[k] ∧ (isName x fs[k] = true → FoundP (isName x) fs w (.returned (.tuple #[.agg (userC fs[k]), .bool true])) (sixW wr w.heap.size (.string fs[k].name) (.string fs[k].pass) (.int .i64 fs[k].id) (.int .i64 fs[k].group) (.string fs[k].home) (.string fs[k].shell)))) :=
        Lib.hid ⟨hlt, rfl, fun h => ⟨sixW_below HH.out.1 (Nat.le_refl _) _ _ _ _ _ _, .inl ⟨k, hlt, h, fun j hj => HH.out.2.2 j hj (by omega), rfl⟩⟩⟩
      have HNX : Hid (isName x (fs[k]'hlt) = false → ∀ j (hj : j < k + 1) (hj2 : j < fs.length), isName x fs[j] = false) := Lib.hid fun h j hj hj2 => by
        by_cases he : j = k
        · subst he; exact h
        · exact HH.out.2.2 j (by omega) hj2
      have HKJ : Hid (isName x (fs[k]'hlt) = true → FoundP (isName x) fs w (.returned (.tuple #[.agg (userC (fs[k]'hlt)), .bool true])) (sixW wr w.heap.size (.string (fs[k]'hlt).name) (.string (fs[k]'hlt).pass) (.int .i64 (fs[k]'hlt).id) (.int .i64 (fs[k]'hlt).group) (.string (fs[k]'hlt).home) (.string (fs[k]'hlt).shell))) := Lib.hid HKK.out.2.2
      clear HKK
      generalize fs[k]'hlt = f at *
      obtain ⟨g0, g1, g2, g3, g4, g5⟩ := hu
      obtain ⟨⟨e0, e1, e2, e3, e4, e5⟩, ⟨z0, z1, z2, z3, z4, z5⟩⟩ := six_facts HH.out.2.1
      have he1 : (f.name.toList == x.toList) = isName x f := eq_text _ _
      cases hp : isName x f with
      | true =>
        rw [hp] at he1
        have HX := Lib.hid (HKJ.out hp)
        clear hp HKJ HNX
        go_wp2
        exact leave15 w.heap.size rfl rfl (sixW_at HH.out.2.1 f) HX.out
      | false =>
        rw [hp] at he1
        have HX := Lib.hid (HNX.out hp)
        clear hp HKJ HNX e0 e1 e2 e3 e4 e5 z0 z1 z2 z3 z4 z5
        go_wp2
        go_roundw
        case rel => exact ⟨k + 1, by omega, by go_num, Lib.hid ⟨HH.out.1, HH.out.2.1, HX.out⟩⟩
        case measure => simp [intOf]; omega
    · have hlt1 : ¬ (k : Int) < fs.length := by omega
      have HX : Hid (∀ f ∈ fs, isName x f = false) := Lib.hid fun f hf => by
        obtain ⟨j, hj, rfl⟩ := List.getElem_of_mem hf
        exact HH.out.2.2 j (by omega) hj
      obtain ⟨⟨e0, e1, e2, e3, e4, e5⟩, ⟨z0, z1, z2, z3, z4, z5⟩⟩ := six_facts HH.out.2.1
      go_wp2
      exact leave15 w.heap.size rfl rfl (sixW_at HH.out.2.1 zeroU) ⟨sixW_below HH.out.1 (Nat.le_refl _) _ _ _ _ _ _, .inr ⟨HX.out, rfl⟩⟩
set_option maxHeartbeats 2000000 in
set_option maxRecDepth 100000 in
theorem rof_any (v : Value) (fs : List UserS) (x : Int) (w : World) (hF : InU w v fs) (hn : fs.length ≤ 140737488355328) :
    Calls Tryz.prog 62 #[v, .int .i64 x] w (FoundP (isId x) fs w) := by
  obtain ⟨a, cap, rfl, hc⟩ := hF
  have HF : Hid (InU w (.slice a fs.length cap) fs) := Lib.hid ⟨a, cap, rfl, hc⟩
  clear hc
  have hn1 : (fs.length : Int) ≤ 140737488355328 := by omega
  have HN := Lib.hid hn
  clear hn
  go_enter Tryz.func62, Tryz.ntmps62
  go_wp2
  go_loopw [6] (fun v6 wr => ∃ k : Nat, k ≤ fs.length ∧ v6 = .int .i64 k ∧ Hid (Below w.heap.size w wr ∧ wr.heap[w.heap.size]? = some (.cells (userC zeroU) 47 (0, 0)) ∧ ∀ j (hj : j < k) (hj2 : j < fs.length), isId x fs[j] = false)) (fun v6 _ => fs.length - (intOf v6).toNat)
  case atStart => exact ⟨0, Nat.zero_le _, rfl, Lib.hid ⟨(Below.refl w.heap.size w).alloc (Nat.le_refl _) (.cells (userC zeroU) 47), at_new w (.cells (userC zeroU) 47), fun j hj => by omega⟩⟩
  case round =>
    obtain ⟨k, hk, rfl, HH⟩ := hrel
    by_cases hlt : k < fs.length
    · have hlt1 : (k : Int) < fs.length := by omega
      obtain ⟨b, off, rfl, hu⟩ := HF.out.uc HH.out.1 hlt
      have HKK : Hid (∃ h : k < fs.length, fs[k] = fs[k] ∧ (isId x fs[k] = true → FoundP (isId x) fs w (.returned (.tuple #[.agg (userC fs[k]), .bool true])) (sixW wr w.heap.size (.string fs[k].name) (.string fs[k].pass) (.int .i64 fs[k].id) (.int .i64 fs[k].group) (.string fs[k].home) (.string fs[k].shell)))) :=
        Lib.hid ⟨hlt, rfl, fun h => ⟨sixW_below HH.out.1 (Nat.le_refl _) _ _ _ _ _ _, .inl ⟨k, hlt, h, fun j hj => HH.out.2.2 j hj (by omega), rfl⟩⟩⟩
      have HNX : Hid (isId x (fs[k]'hlt) = false → ∀ j (hj : j < k + 1) (hj2 : j < fs.length), isId x fs[j] = false) := Lib.hid fun h j hj hj2 => by
        by_cases he : j = k
        · subst he; exact h
        · exact HH.out.2.2 j (by omega) hj2
      have HKJ : Hid (isId x (fs[k]'hlt) = true → FoundP (isId x) fs w (.returned (.tuple #[.agg (userC (fs[k]'hlt)), .bool true])) (sixW wr w.heap.size (.string (fs[k]'hlt).name) (.string (fs[k]'hlt).pass) (.int .i64 (fs[k]'hlt).id) (.int .i64 (fs[k]'hlt).group) (.string (fs[k]'hlt).home) (.string (fs[k]'hlt).shell))) := Lib.hid HKK.out.2.2
      clear HKK
      generalize fs[k]'hlt = f at *
      obtain ⟨g0, g1, g2, g3, g4, g5⟩ := hu
      obtain ⟨⟨e0, e1, e2, e3, e4, e5⟩, ⟨z0, z1, z2, z3, z4, z5⟩⟩ := six_facts HH.out.2.1
      have he1 : (f.id == x) = isId x f := by
        unfold isId
        by_cases h : f.id = x
        · rw [decide_eq_true h, h]; simp
        · rw [decide_eq_false h]; simpa using h
      cases hp : isId x f with
      | true =>
        rw [hp] at he1
        have HX := Lib.hid (HKJ.out hp)
        clear hp HKJ HNX
        go_wp2
        exact leave17 w.heap.size rfl rfl (sixW_at HH.out.2.1 f) HX.out
      | false =>
        rw [hp] at he1
        have HX := Lib.hid (HNX.out hp)
        clear hp HKJ HNX e0 e1 e2 e3 e4 e5 z0 z1 z2 z3 z4 z5
        go_wp2
        go_roundw
        case rel => exact ⟨k + 1, by omega, by go_num, Lib.hid ⟨HH.out.1, HH.out.2.1, HX.out⟩⟩
        case measure => simp [intOf]; omega
    · have hlt1 : ¬ (k : Int) < fs.length := by omega
      have HX : Hid (∀ f ∈ fs, isId x f = false) := Lib.hid fun f hf => by
        obtain ⟨j, hj, rfl⟩ := List.getElem_of_mem hf
        exact HH.out.2.2 j (by omega) hj
      obtain ⟨⟨e0, e1, e2, e3, e4, e5⟩, ⟨z0, z1, z2, z3, z4, z5⟩⟩ := six_facts HH.out.2.1
      go_wp2
      exact leave17 w.heap.size rfl rfl (sixW_at HH.out.2.1 zeroU) ⟨sixW_below HH.out.1 (Nat.le_refl _) _ _ _ _ _ _, .inr ⟨HX.out, rfl⟩⟩
end Go.Proofs.Pw
/- The document's Change; stores in an own row of users. -/
namespace Go.Proofs.Pw
open Go.RowKit

theorem add_at (g o : Nat) : (⟨g, 0, none⟩ : Addr).add o = ⟨g, o, none⟩ := by unfold Addr.add; split <;> simp_all
theorem own_pass {w : World} {B : Nat} {a : Option Addr} {c : Nat} {L : List UserS} (ho : OwnU w B (.slice a L.length c) L) {k : Nat} (hk : k < L.length) :
    ∃ g, a = some ⟨g, 0, none⟩ ∧ B ≤ g ∧ w.cell? ⟨g, k * 6 + 1, none⟩ = some (.string L[k].pass) ∧ w.frozen? ⟨g, k * 6 + 1, none⟩ = false ∧
      ∀ p, OwnU (w.setCell ⟨g, k * 6 + 1, none⟩ (.string p)) B (.slice a L.length c) (L.set k (passU p L[k])) := by
  have hpos : (cellsU L)[k * 6 + 1]? = some (.string L[k].pass) := by rw [cellsU_at L k hk 1 (by omega)]; rfl
  have hcell : ∀ g : Nat, (Value.slice a L.length c).ownBlock = some g → ∀ (j : Nat) (u : Value), (cellsU L)[j]? = some u → w.cell? ((⟨g, 0, none⟩ : Addr).add j) = some u := fun g hg => ho.cells hg
  rcases ho.2 with ⟨_, h0⟩ | ⟨g, c2, cur, he, hg0, hg, hcap, _, hcs, _⟩
  · omega
  · obtain ⟨rfl, rfl⟩ : a = some ⟨g, 0, none⟩ ∧ c = c2 := by simp at he; exact he
    refine ⟨g, rfl, hg0, ?_, frozen_of_row _ _ _ _ _ hg, fun p => ?_⟩
    · have := hcell g rfl (k * 6 + 1) _ hpos
      rwa [add_at] at this
    · unfold OwnU
      rw [List.length_set, cellsU_set]
      have ho' : w.ownsRow B 47 6 (.slice (some ⟨g, 0, none⟩) L.length c) L.length (cellsU L) := ho
      exact (ho'.stored (k * 6 + 1) (.string p)).1
def sixL (L : List Value) (o : Nat) (u : UserS) : List Value := (((((L.set o (.string u.name)).set (o + 1) (.string u.pass)).set (o + 2) (.int .i64 u.id)).set (o + 3) (.int .i64 u.group)).set (o + 4) (.string u.home)).set (o + 5) (.string u.shell)
theorem sixL_six (f : UserS) (R : List Value) (u : UserS) : sixL ((userC f).toList ++ R) 0 u = (userC u).toList ++ R := by simp [sixL, userC]
theorem sixL_app : ∀ (P R : List Value) (o : Nat) (u : UserS), sixL (P ++ R) (P.length + o) u = P ++ sixL R o u := by
  intro P R o u
  unfold sixL
  simp only [Nat.add_assoc, List.set_append_right _ _ (Nat.le_add_right _ _), Nat.add_sub_cancel_left]
theorem cellsU_six (u : UserS) : ∀ (L : List UserS) (k : Nat) (_ : k < L.length), cellsU (L.set k u) = sixL (cellsU L) (k * 6) u
  | [], k, hk => absurd hk (Nat.not_lt_zero k)
  | f :: L, 0, _ => by
    rw [List.set_cons_zero, cellsU_cons, cellsU_cons, Nat.zero_mul, sixL_six]
  | f :: L, k + 1, hk => by
    rw [List.set_cons_succ, cellsU_cons, cellsU_cons]
    have ih := cellsU_six u L k (by simpa using hk)
    rw [ih, show (k + 1) * 6 = (userC f).toList.length + k * 6 by rw [userC_len]; omega, sixL_app]
/-- The world behind six stores at a place of a block. -/
def sixAt (w : World) (g o : Nat) (u : UserS) : World := (((((w.setCell ⟨g, o, none⟩ (.string u.name)).setCell ⟨g, o + 1, none⟩ (.string u.pass)).setCell ⟨g, o + 2, none⟩ (.int .i64 u.id)).setCell ⟨g, o + 3, none⟩ (.int .i64 u.group)).setCell ⟨g, o + 4, none⟩ (.string u.home)).setCell ⟨g, o + 5, none⟩ (.string u.shell)
theorem sixAt_below {B : Nat} {w W : World} (h : Below B w W) {g : Nat} (hg : B ≤ g) (o : Nat) (u : UserS) : Below B w (sixAt W g o u) := by
  unfold sixAt
  exact (((((h.setCell hg _).setCell hg _).setCell hg _).setCell hg _).setCell hg _).setCell hg _
/-- A user stored in an own row. -/
theorem own_user {w : World} {B : Nat} {a : Option Addr} {c : Nat} {L : List UserS} (ho : OwnU w B (.slice a L.length c) L) {k : Nat} (hk : k < L.length) :
    ∃ g, a = some ⟨g, 0, none⟩ ∧ B ≤ g ∧ (w.cell? ⟨g, k * 6, none⟩ = some (.string L[k].name) ∧ w.cell? ⟨g, k * 6 + 1, none⟩ = some (.string L[k].pass) ∧ w.cell? ⟨g, k * 6 + 2, none⟩ = some (.int .i64 L[k].id) ∧ w.cell? ⟨g, k * 6 + 3, none⟩ = some (.int .i64 L[k].group) ∧ w.cell? ⟨g, k * 6 + 4, none⟩ = some (.string L[k].home) ∧ w.cell? ⟨g, k * 6 + 5, none⟩ = some (.string L[k].shell)) ∧
      (w.frozen? ⟨g, k * 6, none⟩ = false ∧ w.frozen? ⟨g, k * 6 + 1, none⟩ = false ∧ w.frozen? ⟨g, k * 6 + 2, none⟩ = false ∧ w.frozen? ⟨g, k * 6 + 3, none⟩ = false ∧ w.frozen? ⟨g, k * 6 + 4, none⟩ = false ∧ w.frozen? ⟨g, k * 6 + 5, none⟩ = false) ∧
      ∀ u, OwnU (sixAt w g (k * 6) u) B (.slice a L.length c) (L.set k u) := by
  have hcell : ∀ g : Nat, (Value.slice a L.length c).ownBlock = some g → ∀ (j : Nat) (u : Value), (cellsU L)[j]? = some u → w.cell? ((⟨g, 0, none⟩ : Addr).add j) = some u := fun g hg => ho.cells hg
  have hlen := cellsU_len L
  rcases ho.2 with ⟨_, h0⟩ | ⟨g, c2, cur, he, hg0, hg, hcap, _, hcs, _⟩
  · omega
  · obtain ⟨rfl, rfl⟩ : a = some ⟨g, 0, none⟩ ∧ c = c2 := by simp at he; exact he
    have hc : ∀ i, i < 6 → w.cell? ⟨g, k * 6 + i, none⟩ = (userC L[k])[i]? := by
      intro i hi
      have h1 : (userC L[k])[i]? = some ((userC L[k])[i]'(by simp [userC]; omega)) := Array.getElem?_eq_getElem (by simp [userC]; omega)
      rw [h1]
      have := hcell g rfl (k * 6 + i) _ (by rw [cellsU_at L k hk i hi]; exact h1)
      rwa [add_at] at this
    have hf : ∀ i, w.frozen? ⟨g, i, none⟩ = false := fun i => frozen_of_row _ _ _ _ _ hg
    refine ⟨g, rfl, hg0, ⟨hc 0 (by omega), hc 1 (by omega), hc 2 (by omega), hc 3 (by omega), hc 4 (by omega), hc 5 (by omega)⟩, ⟨hf _, hf _, hf _, hf _, hf _, hf _⟩, fun u => ?_⟩
    unfold OwnU
    rw [List.length_set, cellsU_six u L k hk]
    have ho' : w.ownsRow B 47 6 (.slice (some ⟨g, 0, none⟩) L.length c) L.length (cellsU L) := ho
    have s1 := (ho'.stored (k * 6) (.string u.name)).1
    have s2 := (s1.stored (k * 6 + 1) (.string u.pass)).1
    have s3 := (s2.stored (k * 6 + 2) (.int .i64 u.id)).1
    have s4 := (s3.stored (k * 6 + 3) (.int .i64 u.group)).1
    have s5 := (s4.stored (k * 6 + 4) (.string u.home)).1
    exact (s5.stored (k * 6 + 5) (.string u.shell)).1
end Go.Proofs.Pw
/- The document's Name and number. -/
namespace Go.Proofs.Pw
open Go.RowKit

theorem get_at (s : ByteArray) (i : Nat) (h : i < s.size) : s.data.toList[i]? = some s[i] := by
  rw [List.getElem?_eq_getElem (by rw [sz]; exact h)]; rfl
/-- A byte at a place, as the document asks for it. -/
def nmAt (k : Nat) (c : UInt8) : Bool := isLow c || (decide (k ≠ 0) && isDig c)
def NameAt (s : ByteArray) (k : Nat) : Prop := ∀ j (h : j < s.size), j < k → nmAt j s[j] = true
theorem name_all {s : ByteArray} (h0 : 1 ≤ s.size) (h8 : s.size ≤ 8) (h : NameAt s s.size) : nameB s.data.toList = true := by
  unfold nameB
  have h1 := h 0 (by omega) (by omega)
  have hh : headLow s.data.toList = true := by
    rw [head_data (by omega)]
    simpa [nmAt] using h1
  have ha : s.data.toList.all isAln = true := by
    refine List.all_eq_true.2 fun x hx => ?_
    obtain ⟨j, hj, rfl⟩ := List.getElem_of_mem hx
    rw [sz] at hj
    have h2 := h j hj (by omega)
    have h3 : s.data.toList[j]'(by rw [sz]; exact hj) = s[j] := rfl
    rw [h3]
    unfold nmAt at h2
    unfold isAln
    cases hl : isLow s[j] with
    | true => rfl
    | false => rw [hl] at h2; simp at h2; simp [h2.2]
  rw [hh, ha, sz]
  simpa using h8
theorem name_not {s : ByteArray} (h : s.size < 1 ∨ 8 < s.size ∨ ∃ k, ∃ h : k < s.size, nmAt k s[k] = false) : nameB s.data.toList = false := by
  cases hn : nameB s.data.toList with
  | false => rfl
  | true =>
    exfalso
    unfold nameB at hn
    simp only [Bool.and_eq_true, decide_eq_true_eq, sz] at hn
    obtain ⟨⟨h1, h2⟩, h3⟩ := hn
    rcases h with h | h | ⟨k, hk, h⟩
    · have : s.data.toList = [] := List.length_eq_zero_iff.1 (by rw [sz]; omega)
      rw [this] at h2; simp [headLow] at h2
    · omega
    · have hm : s[k] ∈ s.data.toList := List.mem_of_getElem? (get_at s k hk)
      have ha := List.all_eq_true.1 h3 _ hm
      unfold isAln at ha
      unfold nmAt at h
      by_cases hk0 : k = 0
      · subst hk0
        rw [head_data (by omega)] at h2
        rw [h2] at h; simp at h
      · cases hl : isLow s[k] with
        | true => rw [hl] at h; simp at h
        | false => rw [hl] at ha h; simp [hk0] at h ha; rw [h] at ha; cases ha
set_option maxHeartbeats 2000000 in
set_option maxRecDepth 100000 in
theorem rname_any (s : ByteArray) (w : World) (hs : s.size ≤ 140737488351232) : Calls Tryz.prog 106 #[.string s] w fun e w' => e = .returned (.bool (nameB s.data.toList)) ∧ w' = w := by
  by_cases h0 : s.size < 1
  · have h1 : (s.size : Int) < 1 := by omega
    rw [name_not (.inl h0)]
    clear h0 hs
    go_enter Tryz.func106, Tryz.ntmps106
    go_wp2
    go_ret
    exact ⟨rfl, rfl⟩
  · have h1 : ¬ (s.size : Int) < 1 := by omega
    by_cases h8 : 8 < s.size
    · have h2 : (8 : Int) < s.size := by omega
      rw [name_not (.inr (.inl h8))]
      clear h0 h8 hs
      go_enter Tryz.func106, Tryz.ntmps106
      go_wp2
      go_ret
      exact ⟨rfl, rfl⟩
    · have h2 : ¬ (8 : Int) < s.size := by omega
      have hs8 : (s.size : Int) ≤ 8 := by omega
      have HL := Lib.hid (And.intro h0 h8)
      clear h0 h8 hs
      go_enter Tryz.func106, Tryz.ntmps106
      go_wp2
      go_loopw [3, 4] (fun v3 v4 wr => ∃ k : Nat, k ≤ s.size ∧ v3 = .int .i64 k ∧ wr = w ∧ Hid (NameAt s k)) (fun v3 v4 _ => s.size - (intOf v3).toNat)
      case atStart => exact ⟨0, Nat.zero_le _, rfl, rfl, Lib.hid fun j _ h => by omega⟩
      case round =>
        obtain ⟨k, hk, rfl, rfl, HH⟩ := hrel
        by_cases hlt : k < s.size
        · have hlt1 : (k : Int) < s.size := by omega
          have HNX : Hid (nmAt k s[k] = true → NameAt s (k + 1)) := Lib.hid fun h j hj hjk => by
            by_cases he : j = k
            · subst he; exact h
            · exact HH.out j hj (by omega)
          have HNN : Hid (nmAt k s[k] = false → nameB s.data.toList = false) := Lib.hid fun h => name_not (.inr (.inr ⟨k, hlt, h⟩))
          have hc : (nmAt k s[k] = true ∧ ((97 : Int) ≤ (s[k].toNat : Int) ∧ (s[k].toNat : Int) ≤ 122)) ∨ (nmAt k s[k] = true ∧ ((97 : Int) ≤ (s[k].toNat : Int) → ¬ (s[k].toNat : Int) ≤ 122) ∧ k ≠ 0 ∧ ¬ (s[k].toNat : Int) < 48 ∧ ¬ (57 : Int) < (s[k].toNat : Int)) ∨
              (nmAt k s[k] = false ∧ ((97 : Int) ≤ (s[k].toNat : Int) → ¬ (s[k].toNat : Int) ≤ 122) ∧ (k ≠ 0 → ¬ (s[k].toNat : Int) < 48 → (57 : Int) < (s[k].toNat : Int))) := by
            unfold nmAt isLow isDig
            by_cases a1 : 97 ≤ s[k].toNat <;> by_cases a2 : s[k].toNat ≤ 122 <;> by_cases a3 : k = 0 <;> by_cases a4 : 48 ≤ s[k].toNat <;> by_cases a5 : s[k].toNat ≤ 57 <;> simp [a1, a2, a3, a4, a5] <;> omega
          generalize nmAt k s[k] = b at *
          rcases hc with ⟨hb, d1, d2⟩ | ⟨hb, d1, d3, d4, d5⟩ | ⟨hb, d1, d3⟩
          · subst hb
            have HX := Lib.hid (HNX.out rfl)
            clear HNX HNN
            go_wp2
            go_roundw
            case rel => exact ⟨k + 1, by omega, by go_num, trivial, HX⟩
            case measure => simp [intOf]; omega
          · subst hb
            have HX := Lib.hid (HNX.out rfl)
            have hk0 : ((k : Int) == 0) = false := by simp; omega
            have HK := Lib.hid d3
            clear HNX HNN d3
            by_cases e1 : (97 : Int) ≤ (s[k].toNat : Int)
            · exfalso; omega
            · clear d1
              go_wp2
              go_roundw
              case rel => exact ⟨k + 1, by omega, by go_num, trivial, HX⟩
              case measure => simp [intOf]; omega
          · subst hb
            have HX := Lib.hid (HNN.out rfl)
            clear HNX HNN
            by_cases hk0 : k = 0
            · subst hk0
              clear d3
              by_cases e1 : (97 : Int) ≤ (s[0].toNat : Int)
              · have d2 := d1 e1
                clear d1
                go_wp2
                go_ret
                exact ⟨by rw [HX.out]; rfl, rfl⟩
              · clear d1
                go_wp2
                go_ret
                exact ⟨by rw [HX.out]; rfl, rfl⟩
            · have hk1 : ((k : Int) == 0) = false := by simp; omega
              have d4 := d3 hk0
              clear d3 hk0
              by_cases e1 : (97 : Int) ≤ (s[k].toNat : Int)
              · have d2 := d1 e1
                have e3 : ¬ (s[k].toNat : Int) < 48 := by omega
                have e4 := d4 e3
                clear d1 d4
                go_wp2
                go_ret
                exact ⟨by rw [HX.out]; rfl, rfl⟩
              · clear d1
                by_cases e3 : (s[k].toNat : Int) < 48
                · clear d4
                  go_wp2
                  go_ret
                  exact ⟨by rw [HX.out]; rfl, rfl⟩
                · have e4 := d4 e3
                  clear d4
                  go_wp2
                  go_ret
                  exact ⟨by rw [HX.out]; rfl, rfl⟩
        · have hlt1 : ¬ (k : Int) < s.size := by omega
          have hkk : k = s.size := by omega
          have HX := Lib.hid (name_all (by have := HL.out; omega) (by have := HL.out; omega) (hkk ▸ HH.out))
          clear hkk hlt hk
          go_wp2
          go_ret
          exact ⟨by rw [HX.out]; rfl, rfl⟩
/-- The number of a word; -1: it is none. -/
def numZ (l : Bytes) : Int := if 1 ≤ l.length ∧ l.length ≤ 5 ∧ l.all isDig = true then (readD l : Int) else -1
theorem readD_snoc (l : Bytes) (c : UInt8) : readD (l ++ [c]) = 10 * readD l + (c.toNat - 48) := by unfold readD; rw [List.foldl_append]; rfl
theorem take_snoc (s : ByteArray) (k : Nat) (h : k < s.size) : s.data.toList.take (k + 1) = s.data.toList.take k ++ [s[k]] := by
  rw [List.take_succ_eq_append_getElem (by rw [sz]; exact h)]; rfl
/-- What has been read of a number. -/
def NumAt (s : ByteArray) (k n : Nat) : Prop := n = readD (s.data.toList.take k) ∧ n < 10 ^ k ∧ ∀ j (h : j < s.size), j < k → isDig s[j] = true
theorem num_step {s : ByteArray} {k n : Nat} (h : NumAt s k n) (hk : k < s.size) (hd : isDig s[k] = true) : NumAt s (k + 1) (10 * n + (s[k].toNat - 48)) := by
  obtain ⟨h1, h2, h3⟩ := h
  refine ⟨by rw [take_snoc s k hk, readD_snoc, h1], ?_, fun j hj hjk => ?_⟩
  · unfold isDig at hd
    simp only [Bool.and_eq_true, decide_eq_true_eq] at hd
    rw [Nat.pow_succ]; omega
  · by_cases he : j = k
    · subst he; exact hd
    · exact h3 j hj (by omega)
theorem num_end {s : ByteArray} {n : Nat} (h : NumAt s s.size n) (h1 : 1 ≤ s.size) (h5 : s.size ≤ 5) : numZ s.data.toList = n := by
  unfold numZ
  have ha : s.data.toList.all isDig = true := by
    refine List.all_eq_true.2 fun x hx => ?_
    obtain ⟨j, hj, rfl⟩ := List.getElem_of_mem hx
    rw [sz] at hj
    exact h.2.2 j hj (by omega)
  rw [if_pos ⟨by rw [sz]; exact h1, by rw [sz]; exact h5, ha⟩, h.1, List.take_of_length_le (by rw [sz]; exact Nat.le_refl _)]
theorem num_none {s : ByteArray} (h : s.size < 1 ∨ 5 < s.size ∨ ∃ k, ∃ h : k < s.size, isDig s[k] = false) : numZ s.data.toList = -1 := by
  unfold numZ
  rw [if_neg]
  rintro ⟨h1, h2, h3⟩
  rw [sz] at h1 h2
  rcases h with h | h | ⟨k, hk, h⟩
  · omega
  · omega
  · have hm : s[k] ∈ s.data.toList := List.mem_of_getElem? (get_at s k hk)
    rw [List.all_eq_true.1 h3 _ hm] at h
    cases h
theorem num_facts {n : Nat} {c : UInt8} (hn : n < 100000) (h1 : 48 ≤ c.toNat) (h2 : c.toNat ≤ 57) : wrap64 (10 * (n : Int)) = 10 * (n : Int) ∧ IntKind.u8.wrap ((c.toNat : Int) - 48) = (c.toNat : Int) - 48 ∧ wrap64 ((c.toNat : Int) - 48) = (c.toNat : Int) - 48 ∧ wrap64 (10 * (n : Int) + ((c.toNat : Int) - 48)) = 10 * (n : Int) + ((c.toNat : Int) - 48) ∧ 10 * (n : Int) + ((c.toNat : Int) - 48) = ((10 * n + (c.toNat - 48) : Nat) : Int) := by
  refine ⟨by unfold wrap64; omega, by rw [IntKind.wrap_u8]; omega, by unfold wrap64; omega, by unfold wrap64; omega, by omega⟩
set_option maxHeartbeats 2000000 in
set_option maxRecDepth 100000 in
theorem rnum_any (s : ByteArray) (w : World) : Calls Tryz.prog 68 #[.string s] w fun e w' => e = .returned (.int .i64 (numZ s.data.toList)) ∧ w' = w := by
  by_cases h0 : s.size < 1
  · have h1 : (s.size : Int) < 1 := by omega
    rw [num_none (.inl h0)]
    clear h0
    go_enter Tryz.func68, Tryz.ntmps68
    go_wp2
    go_ret
    exact ⟨rfl, rfl⟩
  · have h1 : ¬ (s.size : Int) < 1 := by omega
    by_cases h8 : 5 < s.size
    · have h2 : (5 : Int) < s.size := by omega
      rw [num_none (.inr (.inl h8))]
      clear h0 h8
      go_enter Tryz.func68, Tryz.ntmps68
      go_wp2
      go_ret
      exact ⟨rfl, rfl⟩
    · have h2 : ¬ (5 : Int) < s.size := by omega
      have hs5 : (s.size : Int) ≤ 5 := by omega
      have HL := Lib.hid (And.intro h0 h8)
      clear h0 h8
      go_enter Tryz.func68, Tryz.ntmps68
      go_wp2
      go_loopw [3, 4] (fun v3 v4 wr => ∃ k n : Nat, k ≤ s.size ∧ v3 = .int .i64 n ∧ v4 = .int .i64 k ∧ wr = w ∧ Hid (NumAt s k n)) (fun v3 v4 _ => s.size - (intOf v4).toNat)
      case atStart => exact ⟨0, 0, Nat.zero_le _, rfl, rfl, rfl, Lib.hid ⟨rfl, by decide, fun j _ h => by omega⟩⟩
      case round =>
        obtain ⟨k, n, hk, rfl, rfl, rfl, HH⟩ := hrel
        by_cases hlt : k < s.size
        · have hlt1 : (k : Int) < s.size := by omega
          cases hd : isDig s[k] with
          | true =>
            have hd2 := hd
            unfold isDig at hd2
            simp only [Bool.and_eq_true, decide_eq_true_eq] at hd2
            have HX := Lib.hid (num_step HH.out hlt hd)
            have hn : n < 100000 := by
              have := HH.out.2.1
              have h10 : 10 ^ k ≤ 10 ^ 5 := Nat.pow_le_pow_right (by decide) (by have := HL.out; omega)
              omega
            obtain ⟨q1, q2, q3, q4, q5⟩ := num_facts hn hd2.1 hd2.2
            have e1 : ¬ (s[k].toNat : Int) < 48 := by omega
            have e2 : ¬ (57 : Int) < (s[k].toNat : Int) := by omega
            have HQ5 := Lib.hid q5
            clear hd hd2 hn q5
            go_wp2
            go_roundw
            case rel => exact ⟨k + 1, _, by omega, by rw [q4, HQ5.out], by go_num, trivial, HX⟩
            case measure => clear q1 q2 q3 q4; simp [intOf]; omega
          | false =>
            have HX := Lib.hid (num_none (.inr (.inr ⟨k, hlt, hd⟩)))
            by_cases e1 : (s[k].toNat : Int) < 48
            · clear hd
              go_wp2
              go_ret
              exact ⟨by rw [HX.out]; rfl, rfl⟩
            · have e2 : (57 : Int) < (s[k].toNat : Int) := by
                by_cases e : s[k].toNat ≤ 57
                · exfalso
                  unfold isDig at hd
                  simp [e] at hd
                  omega
                · omega
              clear hd
              go_wp2
              go_ret
              exact ⟨by rw [HX.out]; rfl, rfl⟩
        · have hlt1 : ¬ (k : Int) < s.size := by omega
          have hkk : k = s.size := by omega
          have HX := Lib.hid (num_end (hkk ▸ HH.out) (by have := HL.out; omega) (by have := HL.out; omega))
          clear hkk hlt hk
          go_wp2
          go_ret
          exact ⟨by rw [HX.out]; rfl, rfl⟩
end Go.Proofs.Pw
/- The document's Right of a password's field. -/
namespace Go.Proofs.Pw.Mx
open Go.RowKit

theorem rdigit_any (c : UInt8) (w : World) : Calls Tryz.prog 39 #[.int .u8 (c.toNat : Int)] w fun e w' => e = .returned (.int .i64 (if isHex c then (val c : Int) else -1)) ∧ w' = w := by
  by_cases hx : isHex c = true
  · rw [if_pos hx]
    rcases hex_kind hx with ⟨h1, h2, h3⟩ | ⟨h1, h2, h3⟩
    · have d1 : (48 : Int) ≤ c.toNat := by omega
      have d2 : (c.toNat : Int) ≤ 57 := by omega
      have h4 : (val c : Int) = (c.toNat : Int) - 48 := by omega
      rw [h4]
      clear hx h1 h2 h3 h4
      go_enter Tryz.func39, Tryz.ntmps39
      go_wp2
      go_ret
      exact ⟨rfl, rfl⟩
    · have d1 : (97 : Int) ≤ c.toNat := by omega
      have d2 : (c.toNat : Int) ≤ 102 := by omega
      have h4 : (val c : Int) = (c.toNat : Int) - 97 + 10 := by omega
      rw [h4]
      clear hx h1 h2 h3 h4
      go_enter Tryz.func39, Tryz.ntmps39
      go_wp2
      go_ret
      exact ⟨rfl, rfl⟩
  · rw [if_neg hx]
    have hx2 := hx
    unfold isHex at hx2
    simp at hx2
    by_cases h1 : c.toNat < 48
    · have d1 : (c.toNat : Int) < 48 := by omega
      clear hx hx2 h1
      go_enter Tryz.func39, Tryz.ntmps39
      go_wp2
      go_ret
      exact ⟨rfl, rfl⟩
    · by_cases h2 : c.toNat < 97
      · have d1 : (57 : Int) < c.toNat := by have := hx2.1 (by omega); omega
        have d2 : (c.toNat : Int) < 97 := by omega
        clear hx hx2 h1 h2
        go_enter Tryz.func39, Tryz.ntmps39
        go_wp2
        go_ret
        exact ⟨rfl, rfl⟩
      · have d1 : (102 : Int) < c.toNat := by have := hx2.2 (by omega); omega
        clear hx hx2 h1 h2
        go_enter Tryz.func39, Tryz.ntmps39
        go_wp2
        go_ret
        exact ⟨rfl, rfl⟩

theorem isField_iff (l : Bytes) : isField l ↔ l.length = 21 ∧ l[4]? = some 36 ∧ ∀ i c, i < 21 → i ≠ 4 → l[i]? = some c → isHex c = true := by
  constructor
  · rintro ⟨h, t, rfl, h1, h2, h3, h4⟩
    refine ⟨by simp [h1, h2], by rw [List.getElem?_append_right (by omega), h1]; rfl, fun i c hi hn hc => ?_⟩
    by_cases hlt : i < 4
    · rw [List.getElem?_append_left (by omega)] at hc
      exact List.all_eq_true.1 h3 _ (List.mem_of_getElem? hc)
    · rw [List.getElem?_append_right (by omega), h1] at hc
      obtain ⟨m, rfl⟩ : ∃ m, i = m + 5 := ⟨i - 5, by omega⟩
      rw [show m + 5 - 4 = m + 1 by omega, List.getElem?_cons_succ] at hc
      exact List.all_eq_true.1 h4 _ (List.mem_of_getElem? hc)
  · rintro ⟨h1, h2, h3⟩
    have h4 : 4 < l.length := by omega
    have he : l = l.take 4 ++ l[4] :: l.drop 5 := by
      conv => lhs; rw [← List.take_append_drop 4 l]
      rw [List.drop_eq_getElem_cons h4]
    have h5 : l[4] = 36 := by rw [List.getElem?_eq_getElem h4] at h2; exact Option.some.inj h2
    rw [h5] at he
    refine ⟨l.take 4, l.drop 5, he, by rw [List.length_take]; omega, by rw [List.length_drop]; omega, ?_, ?_⟩
    · refine List.all_eq_true.2 fun x hx => ?_
      obtain ⟨i, hi, hg⟩ := List.getElem_of_mem hx
      rw [List.getElem_take] at hg
      have hi4 : i < 4 := by rw [List.length_take] at hi; omega
      exact h3 i x (by omega) (by omega) (by rw [List.getElem?_eq_getElem (by omega), hg])
    · refine List.all_eq_true.2 fun x hx => ?_
      obtain ⟨i, hi, hg⟩ := List.getElem_of_mem hx
      rw [List.getElem_drop] at hg
      have hi4 : i < 16 := by rw [List.length_drop] at hi; omega
      exact h3 (5 + i) x (by omega) (by omega) (by rw [List.getElem?_eq_getElem (by omega), hg])
theorem get_data (s : ByteArray) (i : Nat) (h : i < s.size) : s.data.toList[i]? = some s[i] := by
  rw [List.getElem?_eq_getElem (by rw [sz]; exact h)]; rfl

def IsPost (f : ByteArray) (w : World) (e : Ending) (w' : World) : Prop := ∃ r : Bool, e = .returned (.bool r) ∧ (r = true ↔ isField f.data.toList) ∧ w' = w
set_option maxHeartbeats 1000000 in
theorem ris_any (f : ByteArray) (w : World) (hf : f.size ≤ 140737488351232) :
    Calls Tryz.prog 38 #[.string f] w (IsPost f w) := by
  have hI := Lib.hid (isField_iff f.data.toList)
  by_cases hl : f.size = 21
  · have h4 : (4 : Int) < f.size := by omega
    have h4n : 4 < f.size := by omega
    have HL := Lib.hid hl
    have H4 := Lib.hid (get_data f 4 h4n)
    have hz : (f.size : Int) = 21 := by omega
    clear hl
    by_cases hc : f[4] = 36
    · have hc1 : (f[4].toNat : Int) = 36 := by rw [hc]; rfl
      have HC := Lib.hid hc
      clear hc
      go_enter Tryz.func38, Tryz.ntmps38
      go_wp2
      go_loopw [3] (fun i wr => ∃ k : Nat, k ≤ 21 ∧ i = .int .i64 k ∧ wr = w ∧ Hid (∀ j c, j < k → j ≠ 4 → f.data.toList[j]? = some c → isHex c = true)) (fun i _ => 21 - (intOf i).toNat)
      case atStart => exact ⟨0, by omega, rfl, rfl, Lib.hid fun j c h => by omega⟩
      case round =>
        obtain ⟨k, hk, rfl, rfl, HK⟩ := hrel
        by_cases hlt : k < 21
        · have hlt1 : (k : Int) < 21 := by omega
          have hks : k < f.size := by have := HL.out; omega
          have hks1 : (k : Int) < f.size := by omega
          by_cases hk4 : k = 4
          · have hk41 : (k : Int) = 4 := by omega
            have HK4 := Lib.hid hk4
            clear hk4
            go_wp2
            go_roundw
            case rel => exact ⟨5, by omega, rfl, trivial, Lib.hid fun j c hj hn hc => HK.out j c (by have := HK4.out; omega) hn hc⟩
            case measure => have := HK4.out; simp [intOf]; omega
          · have hk41 : ¬ (k : Int) = 4 := by omega
            have HK4 := Lib.hid hk4
            clear hk4
            have HG := Lib.hid (get_data f k hks)
            by_cases hx : isHex f[k] = true
            · have hv : ¬ ((val f[k] : Nat) : Int) < 0 := by omega
              go_wp2_with (go_at_call 39; refine (rdigit_any _ _).mono ?_; rintro e w2 ⟨he, rfl⟩; rw [if_pos hx] at he; subst he)
              go_roundw
              case rel => exact ⟨k + 1, by omega, by go_num, trivial, Lib.hid fun j c hj hn hc => by
                by_cases hjk : j = k
                · subst hjk
                  rw [HG.out] at hc
                  rw [← Option.some.inj hc]; exact hx
                · exact HK.out j c (by omega) hn hc⟩
              case measure => simp [intOf]; omega
            · go_wp2_with (go_at_call 39; refine (rdigit_any _ _).mono ?_; rintro e w2 ⟨he, rfl⟩; rw [if_neg hx] at he; subst he)
              go_ret
              exact ⟨false, rfl, ⟨fun h => Bool.noConfusion h, fun h => absurd ((hI.out.1 h).2.2 k _ hlt HK4.out HG.out) hx⟩, rfl⟩
        · have hlt1 : ¬ (k : Int) < 21 := by omega
          go_wp2
          go_ret
          refine ⟨true, rfl, ⟨fun _ => hI.out.2 ⟨by rw [sz]; exact HL.out, by rw [H4.out, HC.out], fun j c hj => HK.out j c (by omega)⟩, fun _ => rfl⟩, rfl⟩
    · have hc1 : ¬ (f[4].toNat : Int) = 36 := fun h => hc (by apply UInt8.toNat_inj.1; show f[4].toNat = 36; omega)
      have HC := Lib.hid hc
      clear hc
      go_enter Tryz.func38, Tryz.ntmps38
      go_wp2
      go_ret
      refine ⟨false, rfl, ⟨fun h => Bool.noConfusion h, fun h => ?_⟩, rfl⟩
      have := (hI.out.1 h).2.1
      rw [H4.out] at this
      exact absurd (Option.some.inj this) HC.out
  · have hz : ¬ (f.size : Int) = 21 := by omega
    have HL := Lib.hid hl
    clear hl
    go_enter Tryz.func38, Tryz.ntmps38
    go_wp2
    go_ret
    exact ⟨false, rfl, ⟨fun h => Bool.noConfusion h, fun h => absurd (by rw [← sz]; exact (hI.out.1 h).1) HL.out⟩, rfl⟩
def BoolPost (P : Prop) (w : World) (e : Ending) (w' : World) : Prop := ∃ r : Bool, e = .returned (.bool r) ∧ (r = true ↔ P) ∧ Below w.heap.size w w'
theorem rright_any (f : ByteArray) (w : World) (hf : f.size ≤ 140737488351232) : Calls Tryz.prog 107 #[.string f] w (BoolPost (RightP f) w) := by
  by_cases h0 : f.data.toList = []
  · have h1 := (emp_iff f).2 h0
    have H0 := Lib.hid h0
    clear h0
    go_enter Tryz.func107, Tryz.ntmps107
    go_wp2
    go_ret
    exact ⟨true, rfl, ⟨fun _ => .inl H0.out, fun _ => rfl⟩, Below.refl _ _⟩
  · have h1 : f.toList.isEmpty = false := emp_no h0
    have H0 := Lib.hid h0
    clear h0
    by_cases h4 : f.data.toList = [42]
    · have h5 : (f.toList == [42]) = true := by rw [toList_data, beq_iff_eq]; exact h4
      have H4 := Lib.hid h4
      clear h4 h1
      have h1 : f.toList.isEmpty = false := emp_no H0.out
      go_enter Tryz.func107, Tryz.ntmps107
      go_wp2
      go_ret
      exact ⟨true, rfl, ⟨fun _ => .inr (.inl H4.out), fun _ => rfl⟩, Below.refl _ _⟩
    · have h5 : (f.toList == [42]) = false := by
        cases hh : f.toList == [42] with
        | false => rfl
        | true => rw [toList_data, beq_iff_eq] at hh; exact absurd hh h4
      have H4 := Lib.hid h4
      clear h4
      go_enter Tryz.func107, Tryz.ntmps107
      go_wp2_with (go_at_call 38; refine (ris_any f _ hf).mono ?_; rintro e w' ⟨r, rfl, hr, rfl⟩)
      go_ret
      exact ⟨r, rfl, hr.trans ⟨fun h => .inr (.inr h), fun h => by
        rcases h with h | h | h
        · exact absurd h H0.out
        · exact absurd h H4.out
        · exact h⟩, Below.refl _ _⟩

end Go.Proofs.Pw.Mx
/- The document's Split of a path. -/
namespace Go.Proofs.Pw.Pp
open Go.RowKit

/-- A slice of strings, as it reads. -/
def Sl (w : World) (v : Value) (l : List ByteArray) : Prop :=
  ∃ a cap, v = .slice a l.length cap ∧ ∀ j (h : j < l.length), ∃ b off, a = some ⟨b, off, none⟩ ∧ w.cell? ⟨b, off + j, none⟩ = some (.string l[j])
theorem Sl.of_own {w : World} {base : Nat} {v : Value} {l : List ByteArray} (h : w.ownsRow base 9 1 v l.length (l.map .string)) : Sl w v l := by
  obtain ⟨_, ⟨rfl, h0⟩ | ⟨g, cap, cur, rfl, hb, hh, hn, hc, hs, ht⟩⟩ := h
  · exact ⟨none, 0, by rw [h0], fun j hj => by omega⟩
  · refine ⟨_, cap, rfl, fun j hj => ⟨g, 0, rfl, ?_⟩⟩
    have h1 : (l.map Value.string)[j]? = some (.string l[j]) := by simp [hj]
    rw [← ht, List.getElem?_take] at h1
    rw [if_pos (by omega)] at h1
    simpa [World.cell?, hh] using h1

def PartsAt (s : ByteArray) (k f : Nat) (l : List ByteArray) : Prop :=
  f ≤ k ∧ parts s.data.toList = l.map (fun x => x.data.toList) ++ partsA (s.data.toList.drop k) ((s.data.toList.take k).drop f).reverse
theorem PartsAt.start (s : ByteArray) : PartsAt s 0 0 [] := ⟨Nat.le_refl _, by simp [parts]⟩
theorem PartsAt.piece {s : ByteArray} {k f : Nat} (hf : f ≤ k) (hk : k ≤ s.size) : ((s.data.toList.take k).drop f = [] ↔ f = k) := by
  rw [List.drop_eq_nil_iff, List.length_take, sz]; omega
theorem PartsAt.go {s : ByteArray} {k f : Nat} {l : List ByteArray} (h : PartsAt s k f l) (hk : k < s.size) (hc : s[k] ≠ 47) : PartsAt s (k + 1) f l := by
  obtain ⟨h1, h2⟩ := h
  refine ⟨by omega, ?_⟩
  have hkl : k < s.data.toList.length := by rw [sz]; exact hk
  have hg : s.data.toList[k] = s[k] := by rw [toList_get, data_get s k hk]
  have hfl : f ≤ (s.data.toList.take k).length := by rw [List.length_take, sz]; omega
  rw [h2, List.drop_eq_getElem_cons hkl, hg, List.take_succ_eq_append_getElem hkl, hg, List.drop_append_of_le_length hfl]
  simp [partsA, hc]
theorem PartsAt.skip {s : ByteArray} {k : Nat} {l : List ByteArray} (h : PartsAt s k k l) (hk : k < s.size) (hc : s[k] = 47) : PartsAt s (k + 1) (k + 1) l := by
  obtain ⟨h1, h2⟩ := h
  refine ⟨by omega, ?_⟩
  have hkl : k < s.data.toList.length := by rw [sz]; exact hk
  have hg : s.data.toList[k] = s[k] := by rw [toList_get, data_get s k hk]
  have e1 : (s.data.toList.take k).drop k = [] := (PartsAt.piece (Nat.le_refl _) (by omega)).2 rfl
  have e2 : (s.data.toList.take (k + 1)).drop (k + 1) = [] := (PartsAt.piece (Nat.le_refl _) (by omega)).2 rfl
  rw [h2, List.drop_eq_getElem_cons hkl, hg, hc, e1, e2]
  simp [partsA]
theorem PartsAt.add {s : ByteArray} {k f : Nat} {l : List ByteArray} (h : PartsAt s k f l) (hk : k < s.size) (hc : s[k] = 47) (hf : f < k) : PartsAt s (k + 1) (k + 1) (l ++ [s.extract f k]) := by
  obtain ⟨h1, h2⟩ := h
  refine ⟨by omega, ?_⟩
  have hkl : k < s.data.toList.length := by rw [sz]; exact hk
  have hg : s.data.toList[k] = s[k] := by rw [toList_get, data_get s k hk]
  have e1 : ¬ (s.data.toList.take k).drop f = [] := fun e => by have := (PartsAt.piece h1 (by omega)).1 e; omega
  have e2 : (s.data.toList.take (k + 1)).drop (k + 1) = [] := (PartsAt.piece (Nat.le_refl _) (by omega)).2 rfl
  rw [h2, List.drop_eq_getElem_cons hkl, hg, hc, e2, List.map_append]
  simp only [partsA, if_true, List.reverse_eq_nil_iff, e1, if_false, List.map_cons, List.map_nil, List.reverse_nil, List.reverse_reverse, List.append_assoc, List.cons_append, List.nil_append]
  rw [ex_data]
theorem PartsAt.all {s : ByteArray} {l : List ByteArray} (h : PartsAt s s.size s.size l) : parts s.data.toList = l.map (fun x => x.data.toList) := by
  have e : (s.data.toList.take s.size).drop s.size = [] := (PartsAt.piece (Nat.le_refl _) (Nat.le_refl _)).2 rfl
  rw [h.2, e, List.drop_of_length_le (by rw [sz]; exact Nat.le_refl _)]
  simp [partsA]
theorem PartsAt.end {s : ByteArray} {f : Nat} {l : List ByteArray} (h : PartsAt s s.size f l) (hf : f < s.size) : parts s.data.toList = (l ++ [s.extract f s.size]).map (fun x => x.data.toList) := by
  have e : ¬ (s.data.toList.take s.size).drop f = [] := fun e => by have := (PartsAt.piece h.1 (Nat.le_refl _)).1 e; omega
  rw [h.2, List.drop_of_length_le (by rw [sz]; exact Nat.le_refl _)]
  simp only [partsA, List.reverse_eq_nil_iff, e, if_false, List.map_append, List.map_cons, List.map_nil, List.reverse_reverse]
  rw [ex_data]

/-- A new slice of strings. -/
def NewStrs (w : World) (l : List ByteArray) (e : Ending) (w' : World) : Prop :=
  ∃ v, e = .returned v ∧ w'.ownsRow w.heap.size 9 1 v l.length (l.map .string) ∧ Below w.heap.size w w'
def partsPost (s : ByteArray) (w : World) (e : Ending) (w' : World) : Prop := ∃ l, parts s.data.toList = l.map (fun x => x.data.toList) ∧ NewStrs w l e w'

set_option maxHeartbeats 2000000 in
set_option maxRecDepth 100000 in
theorem parts_any (s : ByteArray) (w : World) (hs : s.size ≤ 1048576) : Calls Tryz.prog 181 #[.string s] w (partsPost s w) := by
  obtain ⟨i0, hi, hz0, hz1, hz2⟩ := info_parts info9
  have hs1 : (s.size : Int) ≤ 1048576 := by omega
  go_enter Tryz.func181, Tryz.ntmps181
  go_wp2
  go_loopw [3, 4, 5] (fun o f i wr => ∃ (k f' : Nat) (l : List ByteArray), i = .int .i64 k ∧ f = .int .i64 f' ∧ l.length ≤ k ∧ Below w.heap.size w wr ∧ wr.ownsRow w.heap.size 9 1 o l.length (l.map .string) ∧ ((k ≤ s.size ∧ f' ≤ k ∧ PartsAt s k f' l) ∨ (k = s.size + 1 ∧ f' ≤ k ∧ parts s.data.toList = l.map (fun x => x.data.toList)))) (fun _ _ i _ => s.size + 1 - (intOf i).toNat)
  case atStart => exact ⟨0, 0, [], rfl, rfl, Nat.zero_le _, Below.refl _ _, ⟨rfl, .inl ⟨rfl, rfl⟩⟩, .inl ⟨Nat.zero_le _, Nat.le_refl _, PartsAt.start s⟩⟩
  case round =>
    obtain ⟨k, f, l, rfl, rfl, hl, hb, ho, hr⟩ := hrel
    have HB := Lib.hid hb
    have HO := Lib.hid ho
    clear hb ho
    rcases hr with ⟨hk, hf, hp⟩ | ⟨hk, hf, hp⟩
    · have HP := Lib.hid hp
      clear hp
      by_cases hlt : k < s.size
      · by_cases hc : s[k] = 47
        · have hcb : ((s[k].toNat : Int) == 47) = true := by rw [hc]; rfl
          have HC := Lib.hid hc
          clear hc
          by_cases hfk : f < k
          · have hfk1 : (f : Int) < k := by omega
            go_wp2_with (at_builtin; refine wpList_append_own _ rfl _ _ 22 rfl w.heap.size 9 i0 (.string ByteArray.empty) 1 16 Tryz.underlying22 hi hz0 hz1 hz2 rfl (by decide) _ _ _ rfl (HO.out.alloc _) ⟨wr.heap.size, 0, none⟩ 1 1 [.string (s.extract f k)] rfl rfl (cell_one_new _ _ _) (by simp [Value.oneCell']) (by unfold maxLen; omega) (by omega) (by have := HB.out.size; simp; omega) ?_; intro v' w1 hown' hgrow _)
            have HB1 := Lib.hid (app_below HB.out HO.out _ hgrow)
            have HO1 := Lib.hid hown'
            clear hgrow hown'
            go_wp2
            go_roundw
            case rel => exact ⟨k + 1, k + 1, l ++ [s.extract f k], by go_num, by go_num, by simp; omega, HB1.out, by simpa using HO1.out, .inl ⟨by omega, Nat.le_refl _, HP.out.add hlt HC.out hfk⟩⟩
            case measure => simp [intOf]; omega
          · obtain rfl : f = k := by omega
            go_wp2
            go_roundw
            case rel => exact ⟨f + 1, f + 1, l, by go_num, by go_num, by omega, HB.out, HO.out, .inl ⟨by omega, Nat.le_refl _, HP.out.skip hlt HC.out⟩⟩
            case measure => simp [intOf]; omega
        · have hcb : ((s[k].toNat : Int) == 47) = false := by
            simp; exact fun h => hc (UInt8.toNat_inj.1 (by have e : (47 : UInt8).toNat = 47 := rfl; omega))
          have HC := Lib.hid hc
          clear hc
          go_wp2
          go_roundw
          case rel => exact ⟨k + 1, f, l, by go_num, rfl, by omega, HB.out, HO.out, .inl ⟨by omega, by omega, HP.out.go hlt HC.out⟩⟩
          case measure => simp [intOf]; omega
      · obtain rfl : k = s.size := by omega
        by_cases hfk : f < s.size
        · have hfk1 : (f : Int) < s.size := by omega
          go_wp2_with (at_builtin; refine wpList_append_own _ rfl _ _ 22 rfl w.heap.size 9 i0 (.string ByteArray.empty) 1 16 Tryz.underlying22 hi hz0 hz1 hz2 rfl (by decide) _ _ _ rfl (HO.out.alloc _) ⟨wr.heap.size, 0, none⟩ 1 1 [.string (s.extract f s.size)] rfl rfl (cell_one_new _ _ _) (by simp [Value.oneCell']) (by unfold maxLen; omega) (by omega) (by have := HB.out.size; simp; omega) ?_; intro v' w1 hown' hgrow _)
          have HB1 := Lib.hid (app_below HB.out HO.out _ hgrow)
          have HO1 := Lib.hid hown'
          clear hgrow hown'
          go_wp2
          go_roundw
          case rel => exact ⟨s.size + 1, s.size + 1, l ++ [s.extract f s.size], by go_num, by go_num, by simp; omega, HB1.out, by simpa using HO1.out, .inr ⟨rfl, Nat.le_refl _, HP.out.end hfk⟩⟩
          case measure => simp [intOf]
        · obtain rfl : f = s.size := by omega
          go_wp2
          go_roundw
          case rel => exact ⟨s.size + 1, s.size + 1, l, by go_num, by go_num, by omega, HB.out, HO.out, .inr ⟨rfl, Nat.le_refl _, HP.out.all⟩⟩
          case measure => simp [intOf]
    · subst hk
      have HP := Lib.hid hp
      clear hp
      go_wp2
      go_ret
      exact ⟨l, HP.out, _, rfl, HO.out, HB.out⟩
theorem belowN {n : Nat} {w W : World} (h : Below n w W) (k : Nat) : Below n w (W.drewN k) := h.trans ⟨rfl, rfl, rfl, Nat.le_refl _, fun _ _ => rfl⟩

theorem at_new (w : World) (o : Obj) : (w.alloc o).heap[w.heap.size]? = some o := by
  show (w.heap.push o)[w.heap.size]? = some o
  simp
theorem own_new (w : World) (cs : Array Value) (base n B : Nat) (hB : w.heap.size = B) (hb : base ≤ w.heap.size) (hn : cs.size = n) (hm : n ≤ maxLen) :
    (w.alloc (.cells cs 9)).ownsRow base 9 1 (.slice (some ⟨B, 0, none⟩) n n) n cs.toList :=
  hB ▸ ⟨by simp [hn], .inr ⟨w.heap.size, n, cs, rfl, hb, at_new _ _, Nat.le_refl _, hm, by omega, by rw [List.take_of_length_le (by simp [hn])]⟩⟩
theorem own_drew {w : World} {base n : Nat} {v : Value} {xs : List Value} (h : w.ownsRow base 9 1 v n xs) : w.drew.ownsRow base 9 1 v n xs := own_same h fun _ _ _ h => h
theorem sl_n {w : World} {base n : Nat} {v : Value} {xs : List Value} {l : List ByteArray} (h : w.ownsRow base 9 1 v n xs) (hn : l.length = n) (hx : xs = l.map .string) : Sl w v l := by
  subst hn; subst hx; exact Sl.of_own h
theorem partsA_len : ∀ (l acc : Bytes), (partsA l acc).length ≤ l.length + 1
  | [], acc => by by_cases e : acc = [] <;> simp [partsA, e]
  | c :: l, acc => by
    by_cases hc : c = 47
    · have := partsA_len l []
      by_cases e : acc = []
      · simp only [partsA, hc, e, if_true, List.length_cons]; omega
      · simp only [partsA, hc, e, if_true, if_false, List.length_cons]; omega
    · have := partsA_len l (c :: acc)
      simp only [partsA, hc, if_false, List.length_cons]; omega

theorem run_app_row {P : Program} (w : World) (t ty : TypeId) (base : Nat) (e : TypeId) (i : TypeInfo) (z : Value) (bytes : Nat) (ht : P.underlying t = some (.slice e)) (hi : P.info? e = some i) (hz : i.zero = some z)
    (hsize : i.size = 1) (hby : i.bytes = bytes) (hzs : z.cells.size = 1)
    (v : Value) (n : Nat) (xs : List Value) (hown : w.ownsRow base e 1 v n xs)
    (bu : Nat) (u : Value) (m : Nat) (news : List Value) (hu : w.ownsRow bu e 1 u m news) (h1 : ∀ u ∈ news, u.oneCell' = true)
    (h63 : n + m ≤ maxLen) (hbytes : (n + m) * bytes ≤ 140737488355328) (hbase : base ≤ w.heap.size) :
    ∃ v' w', (Builtin.append_ #[t, t] ty #[v, u]).run P w = .ok v' w' ∧ w'.ownsRow base e 1 v' (n + m) (xs ++ news) ∧ w.grownBy w' v.ownBlock := by
  rcases hu.2 with ⟨rfl, h0⟩ | ⟨g, cap, cur, rfl, hb, hh, hn, hc, hs, htk⟩
  · subst h0
    have hnil : news = [] := List.eq_nil_of_length_eq_zero (by rw [hu.1])
    subst hnil
    exact ⟨v, w, run_append_owned_none (P := P) w base t ty e i 1 ht hi v n xs hown, by simpa using hown, World.grownBy.refl _ _⟩
  · obtain ⟨v', w', hr, h2, h3, _, _⟩ := run_append_own_at (P := P) w base t ty e i z 1 bytes ht hi hz hsize hby hzs (by decide) v n xs hown ⟨g, 0, none⟩ m cap news hu.1 (hu.cells rfl) h1 h63 hbytes hbase
    exact ⟨v', w', hr, h2, h3⟩

theorem step_app_row {P : Program} {w : World} {ops : Array Oper} {o : Oper} {a : Act} {K : Act → World → Prop} {Q : Exit → Act → World → Prop} {E : Prop} (hgd : o.guard = none) (s x : Operand) (t : TypeId)
    (ho : o.op = .call { callee := .builtin .append, args := #[s, x], argTypes := #[t, t] })
    (base : Nat) (e : TypeId) (i : TypeInfo) (z : Value) (bytes : Nat) (ht : P.underlying t = some (.slice e)) (hi : P.info? e = some i) (hz : i.zero = some z)
    (hsize : i.size = 1) (hby : i.bytes = bytes) (hzs : z.cells.size = 1)
    (v : Value) (n : Nat) (xs : List Value) (hs : a.eval s = v) (hown : w.ownsRow base e 1 v n xs)
    (bu : Nat) (u : Value) (m : Nat) (news : List Value) (hx : a.eval x = u) (hu : w.ownsRow bu e 1 u m news) (h1 : ∀ u ∈ news, u.oneCell' = true)
    (h63 : n + m ≤ maxLen) (hbytes : (n + m) * bytes ≤ 140737488355328) (hbase : base ≤ w.heap.size)
    (h : ∀ v' w', w'.ownsRow base e 1 v' (n + m) (xs ++ news) → w.grownBy w' v.ownBlock → Below base w w' → K (a.put o.dst v') w') :
    if Region.wanted o (yielded ops a.tmps) = true then Oper.wp P o a w K Q else E := by
  have hw : Region.wanted o (yielded ops a.tmps) = true := by simp [Region.wanted, hgd]
  rw [if_pos hw]
  obtain ⟨v', w', hr, h2, h3⟩ := run_app_row (P := P) w t o.type base e i z bytes ht hi hz hsize hby hzs v n xs hown bu u m news hu h1 h63 hbytes hbase
  unfold Oper.wp execOp
  simp only [ho, resolve, invoke, builtin, Sem.run_bind, Sem.run_pure, Result.andThen_ok, List.map_toArray, List.map_cons, List.map_nil, hs, hx, hr]
  exact h v' w' h2 h3 ((Below.refl _ _).grown h3 hbase (own_ge hown))
theorem suffix_last (d : ByteArray) (h0 : ¬ d.data.toList = []) : Lib.hasSuffix d.data.toList [47] = decide (d.data[d.size - 1]! = 47) := by
  have hz : 0 < d.size := by rw [← sz]; exact List.length_pos_iff.2 h0
  have hlast : d.data.toList.getLast h0 = d.data[d.size - 1]! := by
    rw [List.getLast_eq_getElem, toList_get]; simp
  rw [Bool.eq_iff_iff, decide_eq_true_eq, ← hlast]
  show List.isSuffixOf [47] d.data.toList = true ↔ _
  rw [List.isSuffixOf_iff_suffix]
  constructor
  · rintro ⟨t, ht⟩
    simp only [← ht, List.getLast_append, List.getLast_singleton]
    simp
  · intro h
    exact ⟨d.data.toList.dropLast, by rw [← h]; exact List.dropLast_concat_getLast h0⟩
abbrev Z25 : Obj := .cells #[.bool false, .slice none 0 0, .bool false] 156
theorem rsplit_zero {s : ByteArray} {w W : World} {err : Int} (hb : Below w.heap.size w W) (hs : splitS s.data.toList = (false, false, [], err)) : splitPost s w (.returned (.tuple #[.agg #[.bool false, .slice none 0 0, .bool false], .int .i64 err])) W :=
  ⟨false, false, .slice none 0 0, [], err, rfl, ⟨rfl, .inl ⟨rfl, rfl⟩⟩, hb, hs⟩

theorem leave11 {T : Array Value} {W : World} (n0 : Nat) {A D : Bool} {V : Value} {E : Int} (hT2 : T[2]? = some (.pointer (some ⟨n0, 0, none⟩))) (hT3 : T[3]? = some (.int .i64 E))
    (hres : W.heap[n0]? = some (.cells #[.bool A, V, .bool D] 156 (0, 0))) {R : Ending → World → Prop} (hV : ∃ a n c, V = .slice a n c)
    (hR : R (.returned (.tuple #[.agg #[.bool A, V, .bool D], .int .i64 E])) W) : bodyPost Tryz.prog Tryz.f151 R .ret { tmps := T, defers := [] } W := by
  obtain ⟨a, n, c, rfl⟩ := hV
  have c0 : W.cell? ⟨n0, 0, none⟩ = some (.bool A) := heap_cell hres 0
  have c1 : W.cell? ⟨n0, 1, none⟩ = some (.slice a n c) := heap_cell hres 1
  have c2 : W.cell? ⟨n0, 2, none⟩ = some (.bool D) := heap_cell hres 2
  exact bodyPost_ret (by simp [results, Tryz.results151, go_sem, hT2, hT3, c0, c1, c2]) rfl hR
/-- The zero value, stored and returned. -/
theorem leave_zero {T : Array Value} {s : ByteArray} {w W : World} {E : Int} (hT2 : T[2]? = some (.pointer (some ⟨w.heap.size, 0, none⟩))) (hT3 : T[3]? = some (.int .i64 E))
    (h : W.heap[w.heap.size]? = some Z25) (hb : Below w.heap.size w W) (hs : splitS s.data.toList = (false, false, [], E)) :
    bodyPost Tryz.prog Tryz.f151 (splitPost s w) .ret { tmps := T, defers := [] }
      (((W.setCell ⟨w.heap.size, 0, none⟩ (.bool false)).setCell ⟨w.heap.size, 1, none⟩ (.slice none 0 0)).setCell ⟨w.heap.size, 2, none⟩ (.bool false)) :=
  leave11 w.heap.size (A := false) (D := false) (V := .slice none 0 0) hT2 hT3 (set_same (set_same (set_same h _) _) _) ⟨none, 0, 0, rfl⟩
    (rsplit_zero (((hb.setCell (Nat.le_refl _) _).setCell (Nat.le_refl _) _).setCell (Nat.le_refl _) _) hs)

/-- The path that is being made: its struct lies in the first block behind w1, the names behind that. -/
structure PI (w1 : World) (A D : Bool) (v : Value) (xs : List ByteArray) (W : World) : Prop where
  b : Below w1.heap.size w1 W
  p : W.heap[w1.heap.size]? = some (.cells #[.bool A, v, .bool D] 156 (0, 0))
  n : W.ownsRow (w1.heap.size + 1) 9 1 v xs.length (xs.map .string)
theorem PI.lt {w1 W : World} {A D : Bool} {v : Value} {xs : List ByteArray} (h : PI w1 A D v xs W) : w1.heap.size < W.heap.size := by
  rcases Nat.lt_or_ge w1.heap.size W.heap.size with h1 | h1
  · exact h1
  · have := h.p; rw [Array.getElem?_eq_none h1] at this; cases this
theorem PI.drewN {w1 W : World} {A D : Bool} {v : Value} {xs : List ByteArray} (h : PI w1 A D v xs W) (z : Nat) : PI w1 A D v xs (W.drewN z) :=
  ⟨belowN h.b z, h.p, own_same h.n fun _ _ _ h => h⟩
theorem PI.start (w1 : World) (z : Nat) (A D : Bool) : PI w1 A D (.slice none 0 0) []
    (((((w1.drewN z).alloc (.cells #[.bool false, .slice none 0 0, .bool false] 156)).setCell ⟨w1.heap.size, 0, none⟩ (.bool A)).setCell ⟨w1.heap.size, 1, none⟩ (.slice none 0 0)).setCell ⟨w1.heap.size, 2, none⟩ (.bool D)) where
  b := ((((belowN (Below.refl _ _) z).alloc (Nat.le_refl _) _).setCell (Nat.le_refl _) _).setCell (Nat.le_refl _) _).setCell (Nat.le_refl _) _
  p := set_same (set_same (set_same (at_new (w1.drewN z) Z25) _) _) _
  n := ⟨rfl, .inl ⟨rfl, rfl⟩⟩
theorem PI.setD {w1 W : World} {A D : Bool} {v : Value} {xs : List ByteArray} (h : PI w1 A D v xs W) (D' : Bool) : PI w1 A D' v xs (W.setCell ⟨w1.heap.size, 2, none⟩ (.bool D')) where
  b := h.b.setCell (Nat.le_refl _) _
  p := set_same h.p _
  n := own_same h.n fun g o hg hh => set_other hh _ (by omega)

theorem eq47 (x : UInt8) : ((x.toNat : Int) == 47) = decide (x = 47) := by
  by_cases h : x = 47
  · subst h; rfl
  · have : ¬ (x.toNat : Int) = 47 := fun e => h (by apply UInt8.toNat_inj.1; show x.toNat = 47; omega)
    simp [h, this]
theorem pre_first (s : ByteArray) (h : 0 < s.size) : Lib.hasPrefix s.data.toList [47] = ((s[0].toNat : Int) == 47) := by
  obtain ⟨⟨L⟩⟩ := s
  cases L with
  | nil => cases h
  | cons x r =>
    rw [eq47]
    show ((47 == x) && true) = decide (x = 47)
    by_cases e : x = 47
    · subst e; rfl
    · have : (47 == x) = false := by simpa using fun h => e h.symm
      simp [e, this]
theorem own_set {w : World} {n i : Nat} {v u : Value} {m : Nat} {xs : List Value} (h : w.ownsRow (n + 1) 9 1 v m xs) : (w.setCell ⟨n, i, none⟩ u).ownsRow (n + 1) 9 1 v m xs :=
  own_same h fun _ _ _ hh => set_other hh _ (by omega)
theorem own_form {w : World} {base n : Nat} {v : Value} {xs : List Value} (h : w.ownsRow base 9 1 v n xs) : ∃ a c, v = .slice a n c := by
  rcases h.2 with ⟨rfl, h0⟩ | ⟨g, cap, cur, rfl, _⟩
  · subst h0; exact ⟨_, _, rfl⟩
  · exact ⟨_, _, rfl⟩
theorem blk5 {n : Nat} {wr w5 : World} {X : Obj} {o : Obj} (hb : Below (n + 1) (wr.alloc X).drew w5) (hn : n < wr.heap.size) (h : wr.heap[n]? = some o) : w5.heap[n]? = some o := by
  rw [hb.block n (by omega)]
  show (wr.alloc X).heap[n]? = _
  rw [Below.heap_alloc _ _ _ hn]; exact h

set_option maxHeartbeats 4000000 in
set_option maxRecDepth 100000 in
theorem rsplit_any (s : ByteArray) (w : World) (hs : s.size ≤ 1048576) : Calls Tryz.prog 151 #[.string s] w (splitPost s w) := by
  by_cases h0 : s.data.toList = []
  · have h1 : s.toList = [] := by rw [toList_data]; exact h0
    have HF : Hid (splitS s.data.toList = (false, false, [], 3)) := Lib.hid (by rw [splitS, if_pos h0])
    clear h0
    go_enter Tryz.func151, Tryz.ntmps151
    go_wp2
    exact bodyPost_ret (v := .tuple #[.agg #[.bool false, .slice none 0 0, .bool false], .int .i64 3]) (by simp [results, Tryz.results151, go_sem]) rfl (rsplit_zero ((Below.refl _ _).alloc (Nat.le_refl _) _) HF.out)
  have h1 : s.toList.isEmpty = false := by rw [toList_data]; cases hh : s.data.toList with | nil => exact absurd hh h0 | cons => rfl
  have HN := Lib.hid h0
  clear h0
  go_enter Tryz.func151, Tryz.ntmps151
  go_wp2_with fail
  refine (parts_any s _ hs).mono ?_
  rintro e w1 ⟨l, hp, v, rfl, ho, hb⟩
  have HP := Lib.hid hp
  have HO := Lib.hid ho
  obtain ⟨a, cap, rfl, hcells⟩ := Sl.of_own ho
  have hz : (w.alloc Z25).heap.size = w.heap.size + 1 := by simp
  have hsz1 : w.heap.size + 1 ≤ w1.heap.size := by have := hb.size; rw [hz] at this; exact this
  have hcell : w1.heap[w.heap.size]? = some Z25 := by rw [hb.block w.heap.size (by rw [hz]; omega)]; exact at_new _ _
  have HC := Lib.hid hcell
  have HB := Lib.hid (((Below.refl _ _).alloc (Nat.le_refl _) Z25).trans (hb.mono (by rw [hz]; omega)))
  have HS := Lib.hid hcells
  have hs1 : (s.size : Int) ≤ 1048576 := by omega
  have hll : l.length ≤ 1048577 := by
    have h := congrArg List.length hp
    rw [List.length_map] at h
    have h2 := partsA_len s.data.toList []
    unfold parts at h
    rw [sz] at h2; omega
  have hll1 : (l.length : Int) ≤ 1048577 := by omega
  clear hp ho hb hcell hcells hz
  go_wp2
  go_loopw [5, 6] (fun u i wr => ∃ (k q : Nat) (B : Bool), k ≤ l.length ∧ i = .int .i64 k ∧ u = .bool B ∧ (B = true ↔ (128 < s.size ∨ ∃ x ∈ l.take k, 14 < x.size)) ∧ wr = w1.drewN q) (fun u i _ => l.length - (intOf i).toNat)
  case atStart => exact ⟨0, 0, decide ((128 : Int) < s.size), Nat.zero_le _, rfl, rfl, by simp; omega, rfl⟩
  case round =>
    obtain ⟨k, q, B, hk, rfl, rfl, hB, rfl⟩ := hrel
    have HBB := Lib.hid hB
    clear hB
    by_cases hlt : k < l.length
    · have hlt1 : (k : Int) < l.length := by omega
      obtain ⟨b, off, rfl, hc⟩ := HS.out k hlt
      have HX := Lib.hid (show l.take (k + 1) = l.take k ++ [l[k]] by simp)
      generalize l[k] = x at hc HX
      cases B with
      | true =>
        go_wp2
        go_roundw
        case rel => exact ⟨k + 1, q, true, by omega, by go_num, rfl, ⟨fun _ => by
          rcases HBB.out.1 rfl with h | ⟨y, hy, h⟩
          · exact .inl h
          · exact .inr ⟨y, by rw [HX.out]; exact List.mem_append_left _ hy, h⟩, fun _ => rfl⟩, rfl⟩
        case measure => simp [intOf]; omega
      | false =>
        go_wp2
        go_roundw
        case rel =>
          refine ⟨k + 1, q, decide ((14 : Int) < x.size), by omega, by go_num, rfl, ?_, rfl⟩
          have hn : ¬ (128 < s.size ∨ ∃ y ∈ l.take k, 14 < y.size) := fun h => by have := HBB.out.2 h; cases this
          rw [HX.out]
          simp only [decide_eq_true_eq, List.mem_append, List.mem_singleton]
          constructor
          · intro h; exact .inr ⟨x, .inr rfl, by omega⟩
          · rintro (h | ⟨y, hy | rfl, h⟩)
            · exact absurd (.inl h) hn
            · exact absurd (.inr ⟨y, hy, h⟩) hn
            · omega
        case measure => simp [intOf]; omega
    · have hlt1 : ¬ (k : Int) < l.length := by omega
      obtain rfl : k = l.length := by omega
      cases B with
      | true =>
        have HF := Lib.hid (split_long HN.out (by
          rcases HBB.out.1 rfl with h | ⟨y, hy, h⟩
          · exact .inl (by rw [sz]; exact h)
          · refine .inr ⟨y.data.toList, ?_, by rw [sz]; exact h⟩
            rw [HP.out]
            exact List.mem_map_of_mem (List.mem_of_mem_take hy)))
        have hc0 : w1.cell? ⟨w.heap.size, 0, none⟩ = some (.bool false) := heap_cell HC.out 0
        have hc1 : w1.cell? ⟨w.heap.size, 1, none⟩ = some (.slice none 0 0) := heap_cell HC.out 1
        have hc2 : w1.cell? ⟨w.heap.size, 2, none⟩ = some (.bool false) := heap_cell HC.out 2
        have hf0 : w1.frozen? ⟨w.heap.size, 0, none⟩ = false := heap_free HC.out 0
        have hf1 : w1.frozen? ⟨w.heap.size, 1, none⟩ = false := heap_free HC.out 1
        have hf2 : w1.frozen? ⟨w.heap.size, 2, none⟩ = false := heap_free HC.out 2
        go_wp2
        exact leave_zero rfl rfl (show (w1.drewN q).heap[w.heap.size]? = some Z25 from HC.out) (belowN HB.out q) HF.out
      | false =>
        have hnl : ¬ (128 < s.size ∨ ∃ y ∈ l, 14 < y.size) := fun h => by
          have := HBB.out.2 (by rw [List.take_length]; exact h)
          cases this
        have hsh : Short l := fun y hy => by
          have : ¬ 14 < y.size := fun h => hnl (.inr ⟨y, hy, h⟩)
          omega
        have hs8 : s.size ≤ 128 := by
          have : ¬ 128 < s.size := fun h => hnl (.inl h)
          omega
        have HSH := Lib.hid hsh
        clear hnl hsh
        go_wp2
        go_loopw [7] (fun i wr => ∃ (k z : Nat), k ≤ s.size ∧ i = .int .i64 k ∧ plainB (s.data.toList.take k) = true ∧ wr = w1.drewN z) (fun i _ => s.size - (intOf i).toNat)
        case atStart => exact ⟨0, q, Nat.zero_le _, rfl, rfl, rfl⟩
        case round =>
          obtain ⟨k, z, hk, rfl, hpl, rfl⟩ := hrel
          have HPL := Lib.hid hpl
          clear hpl
          by_cases hlt : k < s.size
          · have hlt1 : (k : Int) < s.size := by omega
            by_cases hok : okc s[k] = true
            · have hb1 : ¬ ((s[k].toNat : Int) < 32) := by simp [okc] at hok; omega
              have hb2 : ((s[k].toNat : Int) == 127) = false := by simp [okc] at hok; simp; omega
              have HK := Lib.hid hok
              clear hok
              go_wp2
              go_roundw
              case rel => exact ⟨k + 1, z, by omega, by go_num, by rw [plain_take s k hlt, HPL.out, HK.out]; rfl, rfl⟩
              case measure => simp [intOf]; omega
            · have HF := Lib.hid (split_bad HN.out hs8 HP.out.symm HSH.out (plain_bad s k hlt (by simpa using hok)))
              have hc0 : w1.cell? ⟨w.heap.size, 0, none⟩ = some (.bool false) := heap_cell HC.out 0
              have hc1 : w1.cell? ⟨w.heap.size, 1, none⟩ = some (.slice none 0 0) := heap_cell HC.out 1
              have hc2 : w1.cell? ⟨w.heap.size, 2, none⟩ = some (.bool false) := heap_cell HC.out 2
              have hf0 : w1.frozen? ⟨w.heap.size, 0, none⟩ = false := heap_free HC.out 0
              have hf1 : w1.frozen? ⟨w.heap.size, 1, none⟩ = false := heap_free HC.out 1
              have hf2 : w1.frozen? ⟨w.heap.size, 2, none⟩ = false := heap_free HC.out 2
              by_cases h32 : (s[k].toNat : Int) < 32
              · clear hok
                go_wp2
                exact leave_zero rfl rfl (show (w1.drewN z).heap[w.heap.size]? = some Z25 from HC.out) (belowN HB.out z) HF.out
              · have hb2 : ((s[k].toNat : Int) == 127) = true := by
                  simp [okc] at hok
                  have : s[k].toNat = 127 := by
                    by_cases h : s[k].toNat = 127
                    · exact h
                    · exact absurd h (by simpa using hok (by omega))
                  simp [this]
                clear hok
                go_wp2
                exact leave_zero rfl rfl (show (w1.drewN z).heap[w.heap.size]? = some Z25 from HC.out) (belowN HB.out z) HF.out
          · have hlt1 : ¬ (k : Int) < s.size := by omega
            have hlen0 : 0 < s.size := by
              rcases Nat.eq_zero_or_pos s.size with h | h
              · exact absurd (List.eq_nil_of_length_eq_zero (by rw [sz]; exact h)) HN.out
              · exact h
            have hpa : plainB s.data.toList = true := by rw [← plain_all s k (by omega)]; exact HPL.out
            have HOK := Lib.hid (split_ok HN.out hs8 HP.out.symm HSH.out hpa)
            clear hpa
            have i1 : ((s.size : Int) - 1).toNat = s.size - 1 := by omega
            have i2 : (0 : Int) < s.size := by omega
            have i3 : s.size - 1 < s.size := by omega
            have i4 : IntKind.i64.wrap ((s.size : Int) - 1) = (s.size : Int) - 1 := by rw [IntKind.wrap_i64]; omega
            have i5 : (1 : Int) ≤ s.size := by omega
            have i6 : (s.size : Int) - 1 < s.size := by omega
            have g0 : ∀ i, ((w1.drewN i).alloc (.cells #[.bool false, .slice none 0 0, .bool false] 156)).cell? ⟨w1.heap.size, 0, none⟩ = some (.bool false) := fun i => heap_cell (at_new (w1.drewN i) Z25) 0
            have g1 : ∀ i, ((w1.drewN i).alloc (.cells #[.bool false, .slice none 0 0, .bool false] 156)).cell? ⟨w1.heap.size, 1, none⟩ = some (.slice none 0 0) := fun i => heap_cell (at_new (w1.drewN i) Z25) 1
            have g2 : ∀ i, ((w1.drewN i).alloc (.cells #[.bool false, .slice none 0 0, .bool false] 156)).cell? ⟨w1.heap.size, 2, none⟩ = some (.bool false) := fun i => heap_cell (at_new (w1.drewN i) Z25) 2
            have f0 : ∀ i, ((w1.drewN i).alloc (.cells #[.bool false, .slice none 0 0, .bool false] 156)).frozen? ⟨w1.heap.size, 0, none⟩ = false := fun i => heap_free (at_new (w1.drewN i) Z25) 0
            have f1 : ∀ i, ((w1.drewN i).alloc (.cells #[.bool false, .slice none 0 0, .bool false] 156)).frozen? ⟨w1.heap.size, 1, none⟩ = false := fun i => heap_free (at_new (w1.drewN i) Z25) 1
            have f2 : ∀ i, ((w1.drewN i).alloc (.cells #[.bool false, .slice none 0 0, .bool false] 156)).frozen? ⟨w1.heap.size, 2, none⟩ = false := fun i => heap_free (at_new (w1.drewN i) Z25) 2
            go_wp2_with fail
            go_region
            have HPI := Lib.hid (PI.start w1 (z + 1) ((s[0].toNat : Int) == 47) ((s[s.size - 1].toNat : Int) == 47))
            generalize (((((w1.drewN (z + 1)).alloc (.cells #[.bool false, .slice none 0 0, .bool false] 156)).setCell ⟨w1.heap.size, 0, none⟩ (.bool ((s[0].toNat : Int) == 47))).setCell ⟨w1.heap.size, 1, none⟩ (.slice none 0 0)).setCell ⟨w1.heap.size, 2, none⟩ (.bool ((s[s.size - 1].toNat : Int) == 47))) = W2 at *
            clear g0 g1 g2 f0 f1 f2
            generalize hA : ((s[0].toNat : Int) == 47) = A at *
            generalize hD : ((s[s.size - 1].toNat : Int) == 47) = D at *
            have HA := Lib.hid hA
            have HD := Lib.hid hD
            clear hA hD
            go_upto_if 65 with fail
            go_cut [9] from 53 to 82 (fun u wx => ∃ D' : Bool, D' = (D || (((lastOf l).data.toList == [46]) || ((lastOf l).data.toList == [46, 46]))) ∧ PI w1 A D' (.slice none 0 0) [] wx)
            case first =>
              by_cases hl0 : l = []
              · have hl1 : ¬ ((0 : Int) < l.length) := by rw [hl0]; decide
                have HL0 := Lib.hid hl0
                clear hl0
                go_wp2_with fail
                go_meet
                exact ⟨D, by rw [HL0.out]; simp [lastOf], HPI.out⟩
              · have hl2 : 0 < l.length := List.length_pos_iff.2 hl0
                have hl1 : (0 : Int) < l.length := by omega
                obtain ⟨b, off, rfl, hc⟩ := HS.out (l.length - 1) (by omega)
                have hbl := World.block_lt_of_cell? w1 ⟨b, off + (l.length - 1), none⟩ hc
                have hcw : W2.cell? ⟨b, off + (l.length - 1), none⟩ = some (.string l[l.length - 1]) := by rw [HPI.out.b.cell (p := ⟨b, off + (l.length - 1), none⟩) hbl]; exact hc
                have HL := Lib.hid (show lastOf l = l[l.length - 1] by simp [lastOf, List.getLast?_eq_getElem?, List.getElem?_eq_getElem (show l.length - 1 < l.length by omega)])
                clear hc
                generalize l[l.length - 1] = x at hcw HL
                have i1 : ((l.length : Int) - 1).toNat = l.length - 1 := by omega
                have i4 : IntKind.i64.wrap ((l.length : Int) - 1) = (l.length : Int) - 1 := by rw [IntKind.wrap_i64]; omega
                have i5 : (1 : Int) ≤ l.length := by omega
                have i6 : (l.length : Int) - 1 < l.length := by omega
                have p2 : W2.cell? ⟨w1.heap.size, 2, none⟩ = some (.bool D) := heap_cell HPI.out.p 2
                have q2 : W2.frozen? ⟨w1.heap.size, 2, none⟩ = false := heap_free HPI.out.p 2
                have HX := Lib.hid (toList_data x)
                go_wp2_with fail
                all_goals go_meet
                all_goals refine ⟨_, ?_, HPI.out.setD _⟩
                all_goals (rw [HL.out]; simp only [HX.out] at *; cases D <;> simp_all)
            case rest =>
              obtain ⟨D', hD', hpi⟩ := hcut
              have HD' := Lib.hid hD'
              have HPJ := Lib.hid hpi
              clear hD' hpi
              go_wp2
              go_loopw [10] (fun i wr => ∃ (k : Nat) (v : Value), k ≤ l.length ∧ i = .int .i64 k ∧ PI w1 A D' v (kept (l.take k)) wr) (fun i _ => l.length - (intOf i).toNat)
              case atStart => exact ⟨0, _, Nat.zero_le _, rfl, HPJ.out⟩
              case round =>
                obtain ⟨k2, v2, hk2, rfl, hpk⟩ := hrel
                obtain ⟨a2, c2, rfl, -⟩ := Sl.of_own hpk.n
                have HPK := Lib.hid hpk
                clear hpk
                generalize hkn : (kept (l.take k2)).length = n2 at *
                by_cases hlt2 : k2 < l.length
                · have hlt3 : (k2 : Int) < l.length := by omega
                  obtain ⟨b, off, rfl, hc⟩ := HS.out k2 hlt2
                  have hbl := World.block_lt_of_cell? w1 ⟨b, off + k2, none⟩ hc
                  have hcw : wr.cell? ⟨b, off + k2, none⟩ = some (.string l[k2]) := by rw [HPK.out.b.cell (p := ⟨b, off + k2, none⟩) hbl]; exact hc
                  have HX := Lib.hid (show l.take (k2 + 1) = l.take k2 ++ [l[k2]] by simp)
                  clear hc
                  generalize l[k2] = x at hcw HX
                  by_cases hdot : x.data.toList = [46]
                  · have e1 : x.toList = [46] := by rw [toList_data]; exact hdot
                    have HK := Lib.hid (kept_no (l.take k2) x hdot)
                    clear hdot
                    go_wp2
                    go_roundw
                    case rel => exact ⟨k2 + 1, _, by omega, by go_num, by rw [HX.out, HK.out]; exact HPK.out⟩
                    case measure => simp [intOf]; omega
                  · have e1 : (x.toList == [46]) = false := by rw [toList_data]; simpa using hdot
                    have HK := Lib.hid (kept_yes (l.take k2) x hdot)
                    clear hdot
                    obtain ⟨i0, hi, hz0, hz1, hz4⟩ : ∃ i0, Tryz.prog.info? 9 = some i0 ∧ i0.zero = some (.string ByteArray.empty) ∧ i0.size = 1 ∧ i0.bytes = 16 := by
                      have h := info9
                      cases hh : Tryz.prog.info? 9 with
                      | none => rw [hh] at h; cases h
                      | some i => rw [hh] at h; simp at h; exact ⟨i, rfl, h.1, h.2.1, h.2.2⟩
                    have hplt := HPK.out.lt
                    have hn2 : n2 ≤ 1048577 := by
                      rw [← hkn]
                      have h1 : (kept (l.take k2)).length ≤ (l.take k2).length := List.length_filter_le _ _
                      have h2 : (l.take k2).length ≤ l.length := by rw [List.length_take]; omega
                      omega
                    have e1' : wr.drew.cell? ⟨w1.heap.size, 1, none⟩ = some (.slice a2 n2 c2) := heap_cell (w := wr.drew) HPK.out.p 1
                    have e2' : ∀ X, (wr.alloc X).drew.cell? ⟨w1.heap.size, 1, none⟩ = some (.slice a2 n2 c2) := fun X => heap_cell (w := (wr.alloc X).drew) (by show (wr.alloc X).heap[w1.heap.size]? = _; rw [Below.heap_alloc _ _ _ hplt]; exact HPK.out.p) 1
                    have e3' : wr.drew.cell? ⟨b, off + k2, none⟩ = some (.string x) := hcw
                    have hn9 := HPK.out.n
                    rw [hkn] at hn9
                    have HN9 := Lib.hid hn9
                    clear hn9
                    have HP9 := Lib.hid HPK.out.p
                    have HB9 := Lib.hid HPK.out.b
                    go_wp2_with fail
                    go_region_law (refine step_app_row rfl (.tmp 95) (.tmp 100) 22 rfl (w1.heap.size + 1) 9 i0 (.string ByteArray.empty) 16 Tryz.underlying22 hi hz0 hz1 hz4 rfl (.slice a2 n2 c2) n2 ((kept (l.take k2)).map .string) (by simp [Act.eval, Act.put]) (own_drew (HN9.out.alloc _)) 0 (.slice (some ⟨wr.heap.size, 0, none⟩) 1 1) 1 [.string x] (by simp [Act.eval, Act.put]) (own_drew (own_new wr #[.string x] 0 1 _ rfl (Nat.zero_le _) rfl (by unfold maxLen; omega))) (by simp [Value.oneCell']) (by unfold maxLen; omega) (by omega) (by show w1.heap.size + 1 ≤ (wr.alloc _).heap.size; rw [World.size_alloc]; omega) ?_; intro v5 w5 hown5 hgrow5 hbel5; obtain ⟨a5, c5, rfl⟩ := own_form hown5; have hp5 := blk5 hbel5 hplt HP9.out; have hc5 : w5.cell? ⟨w1.heap.size, 1, none⟩ = some (.slice a2 n2 c2) := heap_cell hp5 1; have hf5 : w5.frozen? ⟨w1.heap.size, 1, none⟩ = false := heap_free hp5 1)
                    all_goals
                      have hPI : PI w1 A D' (.slice a5 (n2 + 1) c5) (kept (l.take k2) ++ [x]) (w5.setCell ⟨w1.heap.size, 1, none⟩ (.slice a5 (n2 + 1) c5)) := {
                        b := (((HB9.out.alloc HB9.out.size _).drew).trans (hbel5.mono (by omega))).setCell (Nat.le_refl _) _
                        p := set_same hp5 _
                        n := by
                          have hl : (kept (l.take k2) ++ [x]).length = n2 + 1 := by rw [List.length_append, hkn]; rfl
                          have hm : (kept (l.take k2) ++ [x]).map Value.string = (kept (l.take k2)).map .string ++ [.string x] := by rw [List.map_append]; rfl
                          rw [hl, hm]; exact own_set hown5 }
                      have HF9 := Lib.hid hPI
                      clear hPI hown5 hgrow5 hbel5 hp5 hc5 hf5
                      go_wp2
                      go_roundw
                      case rel => exact ⟨k2 + 1, _, by omega, by go_num, by rw [HX.out, HK.out]; exact HF9.out⟩
                      case measure => simp [intOf]; omega
                · have hlt3 : ¬ (k2 : Int) < l.length := by omega
                  have r0 : wr.cell? ⟨w1.heap.size, 0, none⟩ = some (.bool A) := heap_cell HPK.out.p 0
                  have r1 : wr.cell? ⟨w1.heap.size, 1, none⟩ = some (.slice a2 n2 c2) := heap_cell HPK.out.p 1
                  have r2 : wr.cell? ⟨w1.heap.size, 2, none⟩ = some (.bool D') := heap_cell HPK.out.p 2
                  have hzw : wr.heap[w.heap.size]? = some Z25 := by rw [HPK.out.b.block w.heap.size (by omega)]; exact HC.out
                  have hc0 : wr.cell? ⟨w.heap.size, 0, none⟩ = some (.bool false) := heap_cell hzw 0
                  have hc1 : wr.cell? ⟨w.heap.size, 1, none⟩ = some (.slice none 0 0) := heap_cell hzw 1
                  have hc2 : wr.cell? ⟨w.heap.size, 2, none⟩ = some (.bool false) := heap_cell hzw 2
                  have hf0 : wr.frozen? ⟨w.heap.size, 0, none⟩ = false := heap_free hzw 0
                  have hf1 : wr.frozen? ⟨w.heap.size, 1, none⟩ = false := heap_free hzw 1
                  have hf2 : wr.frozen? ⟨w.heap.size, 2, none⟩ = false := heap_free hzw 2
                  have HZ := Lib.hid hzw
                  clear hzw
                  go_wp2_with fail
                  exact leave11 w.heap.size rfl rfl (set_same (set_same (set_same HZ.out _) _) _) ⟨a2, n2, c2, rfl⟩ (by
                    have hkl : l.take k2 = l := List.take_of_length_le (by omega)
                    have hn := HPK.out.n
                    rw [hkl] at hn hkn
                    refine ⟨A, D', _, kept l, 0, rfl, ?_, ?_, ?_⟩
                    · rw [hkn] at hn ⊢
                      exact own_base (own_set (own_set (own_set (own_base (b' := w.heap.size + 1) hn (by omega))))) (by omega)
                    · exact (((HB.out.trans (HPK.out.b.mono (by omega))).setCell (Nat.le_refl _) _).setCell (Nat.le_refl _) _).setCell (Nat.le_refl _) _
                    · rw [HOK.out, HD'.out, ← HA.out, ← HD.out, pre_first s (by omega), suffix_last s HN.out, eq47, eq47, data_get s _ (by omega)])
end Go.Proofs.Pw.Pp
/- The document's place, may. -/
namespace Go.Proofs.Pw
open Go.RowKit

theorem rpass_any (f : ByteArray) (w : World) (hf : f.size ≤ 140737488351232) :
    Calls Tryz.prog 107 #[.string f] w fun e w' => e = .returned (.bool (passB f.data.toList)) ∧ Below w.heap.size w w' := by
  refine (Mx.rright_any f w hf).mono ?_
  rintro e w' ⟨r, rfl, hr, hb⟩
  refine ⟨?_, hb⟩
  have : r = passB f.data.toList := by rw [Bool.eq_iff_iff, hr, passB_of]
  rw [this]
def NoCol (s : ByteArray) (k : Nat) : Prop := ∀ j (h : j < s.size), j < k → s[j] ≠ 58
theorem nocol_all {s : ByteArray} (h : NoCol s s.size) : s.data.toList.contains 58 = false := by
  cases hc : s.data.toList.contains 58 with
  | false => rfl
  | true =>
    exfalso
    have hm : (58 : UInt8) ∈ s.data.toList := List.contains_iff_mem.1 hc
    obtain ⟨j, hj, he⟩ := List.getElem_of_mem hm
    rw [sz] at hj
    exact h j hj (by omega) he
theorem nocol_not {s : ByteArray} {k : Nat} (hk : k < s.size) (h : s[k] = 58) : s.data.toList.contains 58 = true := by
  refine List.contains_iff_mem.2 ?_
  rw [← h]
  exact List.mem_of_getElem? (get_at s k hk)
theorem own_form9 {w : World} {base n : Nat} {v : Value} {xs : List Value} (h : w.ownsRow base 9 1 v n xs) : ∃ a m c, v = .slice a m c := own_form h
set_option maxHeartbeats 2000000 in
set_option maxRecDepth 100000 in
theorem rplace_any (s : ByteArray) (w : World) (hs : s.size ≤ 1048576) :
    Calls Tryz.prog 108 #[.string s] w fun e w' => e = .returned (.bool (placeB s.data.toList)) ∧ Below w.heap.size w w' := by
  have hs1 : (s.size : Int) ≤ 1048576 := by omega
  go_enter Tryz.func108, Tryz.ntmps108
  go_wp2_with fail
  refine (Pp.rsplit_any s _ hs).mono ?_
  rintro e w1 ⟨abs, dir, v, l, err, rfl, hown, hb, hsp⟩
  obtain ⟨sa, sn, sc, rfl⟩ := own_form hown
  have HSP : Hid (placeB s.data.toList = (decide (err = 0) && abs && !s.data.toList.contains 58)) := Lib.hid (by unfold placeB; rw [hsp])
  have hb2 : Below w1.heap.size w1 (w1.alloc (.cells #[.bool abs, .slice sa sn sc, .bool dir] 156)) := (Below.refl _ _).alloc (Nat.le_refl _) _
  have hc0 : (w1.alloc (.cells #[.bool abs, .slice sa sn sc, .bool dir] 156)).cell? ⟨w1.heap.size, 0, none⟩ = some (.bool abs) := by rw [heap_cell (at_new w1 _) 0]; rfl
  have HB := Lib.hid (hb.trans (hb2.mono hb.size))
  have HC0 := Lib.hid hc0
  clear hown hb hsp hb2 hc0 hs
  go_upto_region 2 with fail
  generalize w1.alloc (.cells #[.bool abs, .slice sa sn sc, .bool dir] 156) = w2 at *
  generalize w1.heap.size = n0 at *
  go_wp2
  go_loopw [5] (fun v5 wr => ∃ k : Nat, k ≤ s.size ∧ v5 = .int .i64 k ∧ wr = w2 ∧ Hid (NoCol s k)) (fun v5 _ => s.size - (intOf v5).toNat)
  case atStart => exact ⟨0, Nat.zero_le _, rfl, rfl, Lib.hid fun j _ h => by omega⟩
  case round =>
    obtain ⟨k, hk, rfl, rfl, HH⟩ := hrel
    by_cases hlt : k < s.size
    · have hlt1 : (k : Int) < s.size := by omega
      by_cases hc : s[k] = 58
      · have hc1 : ((s[k].toNat : Int) == 58) = true := by rw [hc]; rfl
        have HX : Hid (placeB s.data.toList = false) := Lib.hid (by rw [HSP.out, nocol_not hlt hc]; simp)
        clear hc
        go_wp2
        go_ret
        exact ⟨by rw [HX.out]; rfl, HB.out⟩
      · have hc1 : ((s[k].toNat : Int) == 58) = false := by
          simp; exact fun h => hc (UInt8.toNat_inj.1 (by have e : (58 : UInt8).toNat = 58 := rfl; omega))
        have HX : Hid (NoCol s (k + 1)) := Lib.hid fun j hj hjk => by
          by_cases he : j = k
          · subst he; exact hc
          · exact HH.out j hj (by omega)
        clear hc
        go_wp2
        go_roundw
        case rel => exact ⟨k + 1, by omega, by go_num, trivial, HX⟩
        case measure => simp [intOf]; omega
    · have hlt1 : ¬ (k : Int) < s.size := by omega
      have hkk : k = s.size := by omega
      have HX : Hid (placeB s.data.toList = (decide (err = 0) && abs)) := Lib.hid (by rw [HSP.out, nocol_all (hkk ▸ HH.out)]; simp)
      clear hkk hlt hk
      have c0 := HC0.out
      by_cases he : err = 0
      · subst he
        go_wp2
        go_ret
        exact ⟨by rw [HX.out]; cases abs <;> rfl, HB.out⟩
      · have he1 : (err == 0) = false := by simpa using he
        have HX2 : Hid (placeB s.data.toList = false) := Lib.hid (by rw [HX.out, decide_eq_false he]; simp)
        clear he
        go_wp2
        go_ret
        exact ⟨by rw [HX2.out]; rfl, HB.out⟩
/-- A user's texts are small enough for the document's Split. -/
structure SzV (u : UserS) : Prop where
  name : u.name.size ≤ 140737488351232
  pass : u.pass.size ≤ 140737488351232
  home : u.home.size ≤ 1048576
  shell : u.shell.size ≤ 1048576
set_option maxHeartbeats 4000000 in
set_option maxRecDepth 100000 in
theorem rmay_any (u : UserS) (w : World) (hu : SzV u) :
    Calls Tryz.prog 66 #[.agg (userC u)] w fun e w' => e = .returned (.bool (mayB u)) ∧ Below w.heap.size w w' := by
  have HU := Lib.hid hu
  clear hu
  have HM : Hid (mayB u = (nameB u.name.data.toList && passB u.pass.data.toList && (decide (0 ≤ u.id) && decide (u.id ≤ 65535)) && (decide (0 ≤ u.group) && decide (u.group ≤ 65535)) && placeB u.home.data.toList && placeB u.shell.data.toList)) := Lib.hid rfl
  have hb0 : Below w.heap.size w (w.alloc (.cells (userC u) 47)) := (Below.refl _ _).alloc (Nat.le_refl _) _
  have hu0 : UC (w.alloc (.cells (userC u) 47)) w.heap.size 0 u := box_six (u := 47) (Below.refl _ _)
  unfold userC at *
  go_enter Tryz.func66, Tryz.ntmps66
  go_upto_region 1 with fail
  generalize w.alloc (.cells #[.string u.name, .string u.pass, .int .i64 u.id, .int .i64 u.group, .string u.home, .string u.shell] 47) = w0 at *
  have HB0 := Lib.hid hb0
  have HC0 := Lib.hid hu0
  obtain ⟨c0, c1, c2, c3, c4, c5⟩ := hu0.at0
  clear hu0 hb0
  go_wp2_with fail
  refine (rname_any u.name _ HU.out.name).mono ?_
  rintro e w1 ⟨rfl, rfl⟩
  go_wp2_with fail
  refine (rpass_any u.pass _ HU.out.pass).mono ?_
  rintro e w2 ⟨rfl, hb⟩
  have HB2 := Lib.hid (HB0.out.trans (hb.mono HB0.out.size))
  have HC2 := Lib.hid (HC0.out.below hb)
  clear hb c0 c1 c2 c3 c4 c5 HC0 HB0
  obtain ⟨c0, c1, c2, c3, c4, c5⟩ := HC2.out.at0
  go_wp2_with fail
  refine (rplace_any u.home _ HU.out.home).mono ?_
  rintro e w3 ⟨rfl, hb⟩
  have HB3 := Lib.hid (HB2.out.trans (hb.mono HB2.out.size))
  have HC3 := Lib.hid (HC2.out.below hb)
  clear hb c0 c1 c2 c3 c4 c5 HC2 HB2
  obtain ⟨c0, c1, c2, c3, c4, c5⟩ := HC3.out.at0
  go_wp2_with fail
  refine (rplace_any u.shell _ HU.out.shell).mono ?_
  rintro e w4 ⟨rfl, hb⟩
  have HB4 := Lib.hid (HB3.out.trans (hb.mono HB3.out.size))
  have HC4 := Lib.hid (HC3.out.below hb)
  clear hb c0 c1 c2 c3 c4 c5 HC3 HB3
  obtain ⟨c0, c1, c2, c3, c4, c5⟩ := HC4.out.at0
  clear HU
  generalize nameB u.name.data.toList = q1 at *
  generalize passB u.pass.data.toList = q2 at *
  generalize placeB u.home.data.toList = q3 at *
  generalize placeB u.shell.data.toList = q4 at *
  by_cases h1 : (0 : Int) ≤ u.id <;> by_cases h2 : u.id ≤ 65535 <;> by_cases h3 : (0 : Int) ≤ u.group <;> by_cases h4 : u.group ≤ 65535
  all_goals first | rw [decide_eq_true h1] at HM | rw [decide_eq_false h1] at HM
  all_goals first | rw [decide_eq_true h2] at HM | rw [decide_eq_false h2] at HM
  all_goals first | rw [decide_eq_true h3] at HM | rw [decide_eq_false h3] at HM
  all_goals first | rw [decide_eq_true h4] at HM | rw [decide_eq_false h4] at HM
  all_goals first | (exfalso; omega) | skip
  all_goals (cases q1 <;> cases q2 <;> cases q3 <;> cases q4)
  all_goals (go_wp2; go_ret; refine ⟨?_, HB4.out⟩; rw [HM.out])
  all_goals first
    | rfl
    | (show Ending.returned (.bool (decide (u.group ≤ 65535))) = _; rw [show decide (u.group ≤ 65535) = true by simp; omega]; rfl)
    | (show Ending.returned (.bool (decide (u.group ≤ 65535))) = _; rw [show decide (u.group ≤ 65535) = false by simp; omega]; rfl)
end Go.Proofs.Pw
/- shown. -/
namespace Go.Proofs.Pw
open Go.RowKit

def rootU : UserS := ⟨⟨#[114, 111, 111, 116]⟩, ⟨#[]⟩, 0, 0, ⟨#[47]⟩, ⟨#[47, 98, 105, 110, 47, 115, 104]⟩⟩
def rootT : ByteArray := ⟨#[114, 111, 111, 116, 58, 58, 48, 58, 48, 58, 47, 58, 47, 98, 105, 110, 47, 115, 104, 10]⟩
def rootS : ByteArray := ⟨#[114, 111, 111, 116, 58, 58, 48, 58, 48, 58, 47, 58, 47, 98, 105, 110, 47, 115, 104]⟩
theorem root_may : mayB rootU = true := by decide +kernel
theorem root_right : RightU [rootU] := ⟨by simp, (fun u hu => by simp at hu; rw [hu]; exact root_may), by simp [namesU]⟩
theorem root_line : lineB rootU = rootS.data.toList := by
  unfold lineB
  rw [show rootU.id.toNat = 0 from rfl, show rootU.group.toNat = 0 from rfl, decD_le (by omega)]
  rfl
theorem root_print : printB [rootU] = rootT.data.toList := by
  rw [printB_cons, printB_nil, root_line]
  rfl
theorem root_parse : parseR rootT.data.toList = ([rootU], 0, 0) := by
  refine parse_ok (by decide) ?_
  rw [← root_print]
  exact parse_of root_right 1
theorem root_last : parseR rootS.data.toList = ([], 1, 17) := parse_err (by decide) (parseL_last (by decide) (by decide))
theorem OwnU.first {w : World} {B : Nat} {v : Value} {u : UserS} {L : List UserS} (h : OwnU w B v (u :: L)) : ∃ g c, v = .slice (some ⟨g, 0, none⟩) (u :: L).length c ∧ UC w g 0 u := by
  have hI := own_inU h
  obtain ⟨_, ⟨_, h0⟩ | ⟨g, cap, cur, rfl, rest⟩⟩ := h
  · simp at h0
  · refine ⟨g, cap, rfl, ?_⟩
    obtain ⟨b, off, hb, hu⟩ := hI.uc (Below.refl _ _) (k := 0) (by simp)
    simp at hb
    obtain ⟨rfl, rfl⟩ := hb
    simpa using hu
end Go.Proofs.Pw
/- What Parse answers, plain. -/
namespace Go.Proofs.Pw
open Go.RowKit

theorem parseL_err : ∀ (k : Nat) (t : Bytes) (L : List UserS) (n m : Nat) (e : Int), t.length ≤ k → parseL L n t = .error (m, e) → n ≤ m ∧ (e = 17 ∨ e = 5 ∨ e = 12)
  | k, t, L, n, m, e, hk, h => by
    by_cases ht : t = []
    · subst ht; rw [parseL_nil] at h; cases h
    · rw [parseL, dif_neg ht] at h
      cases hr : readO (lineOf t) with
      | none => rw [hr] at h; cases h; exact ⟨Nat.le_refl _, .inl rfl⟩
      | some u =>
        rw [hr] at h
        simp only at h
        split at h
        · cases h; exact ⟨Nat.le_refl _, .inl rfl⟩
        · split at h
          · cases h; exact ⟨Nat.le_refl _, .inr (.inl rfl)⟩
          · split at h
            · cases h; exact ⟨Nat.le_refl _, .inr (.inr rfl)⟩
            · have hlt := restOf_lt ht
              match k, hk with
              | 0, hk => exact absurd (List.length_eq_zero_iff.1 (by omega)) ht
              | k + 1, hk =>
                obtain ⟨h1, h2⟩ := parseL_err k _ _ _ _ _ (by omega) h
                exact ⟨by omega, h2⟩
theorem parse_cases (t : Bytes) : (4096 < t.length ∧ parseR t = ([], 0, 10)) ∨ (∃ n e, 1 ≤ n ∧ (e = 17 ∨ e = 5 ∨ e = 12) ∧ parseR t = ([], n, e)) ∨ (∃ L, t.length ≤ 4096 ∧ parseL [] 1 t = .ok L ∧ parseR t = (L, 0, 0)) := by
  by_cases h : 4096 < t.length
  · exact .inl ⟨h, parse_long h⟩
  · cases hp : parseL [] 1 t with
    | ok L => exact .inr (.inr ⟨L, by omega, rfl, parse_ok h hp⟩)
    | error p =>
      obtain ⟨n, e⟩ := p
      obtain ⟨h1, h2⟩ := parseL_err t.length t [] 1 n e (Nat.le_refl _) hp
      exact .inr (.inl ⟨n, e, h1, h2, parse_err h hp⟩)
theorem may_sz {u : UserS} (h : mayB u = true) : SzU u := by
  have hl := line_len h
  unfold lineB at hl
  simp only [List.length_append, List.length_cons] at hl
  have h1 := sz u.name
  have h2 := sz u.pass
  have h3 := sz u.home
  have h4 := sz u.shell
  exact ⟨by omega, by omega, by omega, by omega⟩
theorem print_of {s : ByteArray} {L : List UserS} (h : RightU L) (hp : printB L = s.data.toList) : printS L = s := by
  unfold printS
  rw [if_pos ((rightB_iff L).2 h), hp]
/-- The text twice. -/
theorem twice_cases {s : ByteArray} {L : List UserS} (h : parseL [] 1 s.data.toList = .ok L) : (s.size = 0 ∧ parseR (s ++ s).data.toList = ([], 0, 0)) ∨ (s.size ≠ 0 ∧ 4096 < 2 * s.size ∧ parseR (s ++ s).data.toList = ([], 0, 10)) ∨ (s.size ≠ 0 ∧ 2 * s.size ≤ 4096 ∧ parseR (s ++ s).data.toList = ([], L.length + 1, 5)) := by
  have e : (s ++ s).data.toList = s.data.toList ++ s.data.toList := by rw [ByteArray.data_append, Array.toList_append]
  have hl : (s.data.toList ++ s.data.toList).length = 2 * s.size := by rw [List.length_append, sz]; omega
  rw [e]
  by_cases h0 : s.size = 0
  · have hn : s.data.toList = [] := List.length_eq_zero_iff.1 (by rw [sz]; exact h0)
    exact .inl ⟨h0, by rw [hn]; exact parse_ok (by simp) (parseL_nil _ _)⟩
  · by_cases h1 : 4096 < 2 * s.size
    · exact .inr (.inl ⟨h0, h1, parse_long (by rw [hl]; exact h1)⟩)
    · refine .inr (.inr ⟨h0, by omega, parse_err (by rw [hl]; exact h1) (parse_twice h fun hh => h0 ?_)⟩)
      rw [← sz, hh]; rfl
end Go.Proofs.Pw
/- A list's beginning. -/
namespace Go.Proofs.Pw
open Go.RowKit

theorem InU.take {w : World} {a : Option Addr} {c : Nat} {L : List UserS} (h : InU w (.slice a L.length c) L) (k : Nat) : InU w (.slice a (L.take k).length c) (L.take k) := by
  obtain ⟨a', c', hv, hc⟩ := h
  obtain ⟨rfl, rfl⟩ : a = a' ∧ c = c' := by simp at hv; exact ⟨hv.1, hv.2⟩
  refine ⟨a, c, rfl, fun j hj => ?_⟩
  have hj2 : j < L.length := by rw [List.length_take] at hj; omega
  obtain ⟨b, off, hb, h⟩ := hc j hj2
  exact ⟨b, off, hb, fun i hi => by rw [h i hi, List.getElem_take]⟩
theorem findU_snoc (p : UserS → Bool) (f : UserS) : ∀ (l : List UserS) (i : Nat), findU p (l ++ [f]) i = if findU p l i < 0 then (if p f = true then ((i + l.length : Nat) : Int) else -1) else findU p l i
  | [], i => by simp [findU]
  | g :: l, i => by
    rw [List.cons_append, findU, findU]
    by_cases hp : p g = true
    · rw [if_pos hp, if_pos hp, if_neg (by omega)]
    · rw [if_neg hp, if_neg hp]
      have := findU_snoc p f l (i + 1)
      have e : ((i : Int) + 1) = ((i + 1 : Nat) : Int) := by omega
      rw [e, this, List.length_cons]
      rw [show i + 1 + l.length = i + (l.length + 1) by omega]
theorem findU_take {p : UserS → Bool} {L : List UserS} {k : Nat} (hk : k < L.length) : findU p (L.take (k + 1)) 0 = if findU p (L.take k) 0 < 0 then (if p L[k] = true then (k : Int) else -1) else findU p (L.take k) 0 := by
  rw [List.take_succ_eq_append_getElem hk]
  have h := findU_snoc p L[k] (L.take k) 0
  rw [show ((0 : Nat) : Int) = 0 from rfl] at h
  rw [h, List.length_take, Nat.min_eq_left (by omega), Nat.zero_add]
theorem findU_lt (p : UserS → Bool) (L : List UserS) : findU p L 0 = -1 ∨ (0 ≤ findU p L 0 ∧ findU p L 0 < L.length) := by
  rcases findU_cases p L with ⟨h, _⟩ | ⟨k, hk, _, _, h⟩
  · exact .inl h
  · rw [h]; exact .inr ⟨by omega, by omega⟩
theorem findU_none' {p : UserS → Bool} {L : List UserS} (h : ∀ f ∈ L, p f = false) : findU p L 0 = -1 := findU_none L 0 h
theorem findU_first {p : UserS → Bool} {L : List UserS} {k : Nat} (hk : k < L.length) (h1 : p L[k] = true) (h2 : ∀ j (hj : j < k), p (L[j]'(by omega)) = false) : findU p L 0 = k := by
  rcases findU_cases p L with ⟨_, h⟩ | ⟨j, hj, h3, h4, h5⟩
  · rw [h _ (List.getElem_mem hk)] at h1; cases h1
  · rw [h5]
    rcases Nat.lt_trichotomy j k with hl | hl | hl
    · rw [h2 j hl] at h3; cases h3
    · rw [hl]
    · rw [h4 k hl] at h1; cases h1
/-- What was found, as the law asks of it. -/
def FoundQ (p : UserS → Bool) (L : List UserS) (u : UserS) (ok : Bool) : Prop := (ok = true ∧ ∃ k : Nat, ∃ h : k < L.length, L[k] = u ∧ findU p L 0 = k) ∨ (ok = false ∧ findU p L 0 = -1)
theorem found_form {p : UserS → Bool} {L : List UserS} {w w' : World} {e : Ending} (h : FoundP p L w e w') : ∃ (u : UserS) (ok : Bool), e = .returned (.tuple #[.agg (userC u), .bool ok]) ∧ Below w.heap.size w w' ∧ FoundQ p L u ok := by
  obtain ⟨hb, ⟨k, hk, h1, h2, rfl⟩ | ⟨h1, rfl⟩⟩ := h
  · exact ⟨_, true, rfl, hb, .inl ⟨rfl, k, hk, rfl, findU_first hk h1 h2⟩⟩
  · exact ⟨_, false, rfl, hb, .inr ⟨rfl, findU_none' h1⟩⟩
end Go.Proofs.Pw
/- The document's Right. -/
namespace Go.Proofs.Pw
open Go.RowKit

set_option maxHeartbeats 4000000 in
set_option maxRecDepth 100000 in
theorem rright_any (v : Value) (L : List UserS) (w : World) (hF : InU w v L) (hn : L.length ≤ 140737488355328) (hS : ∀ u ∈ L, SzV u) :
    Calls Tryz.prog 36 #[v] w fun e w' => e = .returned (.bool (rightB L)) ∧ Below w.heap.size w w' := by
  obtain ⟨a, cap, rfl, hc⟩ := hF
  have HF : Hid (InU w (.slice a L.length cap) L) := Lib.hid ⟨a, cap, rfl, hc⟩
  clear hc
  by_cases h8 : 8 < L.length
  · have h81 : (8 : Int) < L.length := by omega
    have HR : Hid (rightB L = false) := Lib.hid (by unfold rightB; rw [decide_eq_false (by omega)]; rfl)
    have hn1 : (L.length : Int) ≤ 140737488355328 := by omega
    clear hn hS h8
    go_enter Tryz.func36, Tryz.ntmps36
    go_wp2
    go_ret
    exact ⟨by rw [HR.out]; rfl, Below.refl _ _⟩
  · have h81 : ¬ (8 : Int) < L.length := by omega
    have hn1 : (L.length : Int) ≤ 8 := by omega
    have HS := Lib.hid hS
    have HL8 := Lib.hid h8
    clear hn hS h8
    go_enter Tryz.func36, Tryz.ntmps36
    go_wp2
    go_loopw [3, 4, 5] (fun v3 v4 v5 wr => ∃ k : Nat, k ≤ L.length ∧ v3 = .int .i64 k ∧ Hid (Below w.heap.size w wr ∧ SeenR L k)) (fun v3 v4 v5 _ => L.length - (intOf v3).toNat)
    case atStart => exact ⟨0, Nat.zero_le _, rfl, Lib.hid ⟨Below.refl _ _, fun j hj h => absurd h (Nat.not_lt_zero j)⟩⟩
    case round =>
      obtain ⟨k, hk, rfl, HH⟩ := hrel
      by_cases hlt : k < L.length
      · have hlt1 : (k : Int) < L.length := by omega
        obtain ⟨b, off, rfl, hu⟩ := HF.out.uc HH.out.1 hlt
        have HM := Lib.hid (fun W => rmay_any (L[k]'hlt) W (HS.out _ (List.getElem_mem hlt)))
        have HNR := Lib.hid (fun (hm : mayB (L[k]'hlt) = false) => not_right hlt (.inr (.inl hm)))
        have HNX := Lib.hid (fun hm hf => seen_next hlt HH.out.2 (by have := HL8.out; omega) hm hf)
        have HFF : Hid ((∀ j (hj : j < L.length), j < k → isName (L[k]'hlt).name (L[j]'hj) = false) → findU (isName (L[k]'hlt).name) L 0 = k) :=
          Lib.hid fun h => findU_first hlt (by simp [isName]) (fun j hj => h j (by omega) hj)
        have HFN : Hid (∀ j (hj : j < L.length), j < k → isName (L[k]'hlt).name (L[j]'hj) = true → rightB L = false) := Lib.hid fun j hj hjk hp => by
          refine not_right hlt (.inr (.inr fun he => ?_))
          rcases findU_cases (isName (L[k]'hlt).name) L with ⟨h1, _⟩ | ⟨q, hq, h1, h2, h3⟩
          · omega
          · have e : q = k := by omega
            subst e
            have := h2 j hjk
            rw [hp] at this
            cases this
        generalize L[k]'hlt = f at *
        obtain ⟨g0, g1, g2, g3, g4, g5⟩ := hu
        go_wp2_with fail
        refine (HM.out _).mono ?_
        rintro e w1 ⟨rfl, hb⟩
        have HB1 := Lib.hid (HH.out.1.trans (hb.mono HH.out.1.size))
        have HU1 : Hid (UC w1 b (off + k * 6) f) := Lib.hid (UC.below (w := wr) ⟨g0, g1, g2, g3, g4, g5⟩ hb)
        clear hb g0 g1 g2 g3 g4 g5 HM
        cases hm : mayB f with
        | false =>
          have HR := Lib.hid (HNR.out hm)
          clear hm HNR HNX HFF HFN
          go_wp2
          go_ret
          exact ⟨by rw [HR.out]; rfl, HB1.out⟩
        | true =>
          have HNX1 := Lib.hid (HNX.out hm)
          clear hm HNR HNX
          go_wp2
          go_loopw [5] (fun v5 w2 => ∃ q : Nat, q ≤ k ∧ v5 = .int .i64 q ∧ Hid (Below w.heap.size w w2 ∧ UC w2 b (off + k * 6) f ∧ ∀ j (hj : j < L.length), j < q → isName f.name (L[j]'hj) = false)) (fun v5 _ => k - (intOf v5).toNat)
          case atStart => exact ⟨0, Nat.zero_le _, rfl, Lib.hid ⟨HB1.out, HU1.out, fun j hj h => absurd h (Nat.not_lt_zero j)⟩⟩
          case round =>
            obtain ⟨q, hq, rfl, HQ⟩ := hrel
            by_cases hqk : q < k
            · have hqk1 : (q : Int) < k := by omega
              have hql : q < L.length := by omega
              have hql1 : (q : Int) < L.length := by omega
              obtain ⟨b2, off2, hab, hu2⟩ := HF.out.uc HQ.out.1 hql
              simp only [Option.some.injEq, Addr.mk.injEq, and_true] at hab
              obtain ⟨rfl, rfl⟩ := hab
              have HFN1 := Lib.hid (HFN.out q hql hqk)
              have HNQ : Hid (isName f.name (L[q]'hql) = false → ∀ j (hj : j < L.length), j < q + 1 → isName f.name (L[j]'hj) = false) := Lib.hid fun h j hj hjq => by
                by_cases he : j = q
                · subst he; exact h
                · exact HQ.out.2.2 j hj (by omega)
              generalize L[q]'hql = g at *
              obtain ⟨g0, g1, g2, g3, g4, g5⟩ := hu2
              obtain ⟨f0, f1, f2, f3, f4, f5⟩ := HQ.out.2.1
              have he1 : (g.name.toList == f.name.toList) = isName f.name g := eq_text _ _
              clear g1 g2 g3 g4 g5 f1 f2 f3 f4 f5
              cases hp : isName f.name g with
              | true =>
                rw [hp] at he1
                have HR := Lib.hid (HFN1.out hp)
                clear hp
                go_upto_region 12 with fail
                go_quiet (fail)
                go_wp2
                go_ret
                exact ⟨by rw [HR.out]; rfl, drewN_below HQ.out.1 _⟩
              | false =>
                rw [hp] at he1
                have HX := Lib.hid (HNQ.out hp)
                clear hp
                go_upto_region 12 with fail
                go_quiet (fail)
                go_wp2
                go_roundw
                case rel => exact ⟨q + 1, by omega, by go_num, Lib.hid ⟨drewN_below HQ.out.1 _, HQ.out.2.1.below (drewN_below (Below.refl _ _) _), HX.out⟩⟩
                case measure => simp [intOf]; omega
            · have hqk1 : ¬ (q : Int) < k := by omega
              have HSN := Lib.hid (HNX1.out (HFF.out fun j hj hjk => HQ.out.2.2 j hj (by omega)))
              go_wp2
              go_roundw
              case rel => exact ⟨k + 1, by omega, by go_num, Lib.hid ⟨HQ.out.1, HSN.out⟩⟩
              case measure => simp [intOf]; omega
      · have hlt1 : ¬ (k : Int) < L.length := by omega
        have e : k = L.length := by omega
        have HR : Hid (rightB L = true) := Lib.hid (seen_all (by have := HH.out.2; rw [e] at this; exact this))
        go_wp2
        go_ret
        exact ⟨by rw [HR.out]; rfl, HH.out.1⟩
end Go.Proofs.Pw
/- The document's digits, number and Name. -/
namespace Go.Proofs.Pw
open Go.RowKit

theorem conv_one (W : World) (c : UInt8) : (convert 59 9 (.slice (some ⟨W.heap.size, 0, none⟩) 1 1)).run Tryz.prog (W.alloc (Obj.cells #[.int .u8 (c.toNat : Int)] 5)) = .ok (.string ⟨#[c]⟩) (W.alloc (Obj.cells #[.int .u8 (c.toNat : Int)] 5)) :=
  run_convert_bytes_back (P := Tryz.prog) (W.alloc (Obj.cells #[.int .u8 (c.toNat : Int)] 5)) 59 9 5 ⟨W.heap.size, 0, none⟩ 1 [c] Tryz.underlying59 Tryz.underlying5 Tryz.underlying9 (fun j hj => by
    obtain rfl : j = 0 := by simp at hj; exact hj
    exact cell_one_new W (.int .u8 (c.toNat : Int)) 5 0 _ rfl)
/-- What is left of a number, and its last digits. -/
def DigAt (N m : Nat) (S : ByteArray) : Prop := decD N = (if m ≤ 9 then [] else decD (m / 10)) ++ S.data.toList
theorem dig_start (N : Nat) : DigAt N N ⟨#[dch (N % 10)]⟩ := by
  unfold DigAt
  by_cases h : N ≤ 9
  · rw [if_pos h, decD_le h, Nat.mod_eq_of_lt (by omega)]; rfl
  · rw [if_neg h, decD_gt h]
theorem dig_step {N m : Nat} {S : ByteArray} (h : DigAt N m S) (hm : ¬ m ≤ 9) : DigAt N (m / 10) (⟨#[dch (m / 10 % 10)]⟩ ++ S) := by
  unfold DigAt at *
  rw [h, if_neg hm, ByteArray.data_append, Array.toList_append]
  by_cases h9 : m / 10 ≤ 9
  · rw [if_pos h9, decD_le h9, Nat.mod_eq_of_lt (by omega)]; rfl
  · rw [if_neg h9]
    conv => lhs; rw [decD_gt h9]
    simp
theorem dec_small {N : Nat} (h : N ≤ 65535) : (decD N).length ≤ 5 := (decD_facts 4 N (by omega)).2.1
def digS (N : Nat) : ByteArray := ⟨(decD N).toArray⟩
theorem dig_end {N m : Nat} {S : ByteArray} (h : DigAt N m S) (hm : m ≤ 9) : S = digS N := by
  unfold DigAt at h
  rw [if_pos hm, List.nil_append] at h
  exact ba_eq (by rw [← h]; rfl)
theorem dig_size {N m : Nat} {S : ByteArray} (h : DigAt N m S) (hN : N ≤ 65535) : S.size ≤ 5 := by
  have h1 := congrArg List.length h
  rw [List.length_append, sz] at h1
  have := dec_small hN
  omega
theorem dig_facts (m : Nat) : (m : Int).tmod 10 = ((m % 10 : Nat) : Int) ∧ IntKind.u8.wrap (48 + ((m % 10 : Nat) : Int)) = ((dch (m % 10)).toNat : Int) ∧ wrap64 (48 + ((m % 10 : Nat) : Int)) = 48 + ((m % 10 : Nat) : Int) := by
  have hmod : (m : Int).tmod 10 = ((m % 10 : Nat) : Int) := by rw [Int.tmod_eq_emod_of_nonneg (by omega)]; rfl
  have hlt : m % 10 < 10 := Nat.mod_lt _ (by omega)
  have hd : ((dch (m % 10)).toNat : Int) = 48 + ((m % 10 : Nat) : Int) := by rw [dch_nat hlt]; omega
  refine ⟨hmod, by rw [hd, IntKind.wrap_u8]; omega, by unfold wrap64; omega⟩
theorem div_facts {m : Nat} (h : m ≤ 65535) : (m : Int).tdiv 10 = ((m / 10 : Nat) : Int) ∧ wrap64 ((m / 10 : Nat) : Int) = ((m / 10 : Nat) : Int) ∧ m / 10 ≤ 65535 := by
  refine ⟨by rw [Int.tdiv_eq_ediv_of_nonneg (by omega)]; rfl, by unfold wrap64; omega, by omega⟩
set_option maxHeartbeats 2000000 in
set_option maxRecDepth 100000 in
theorem rdigits_any (N : Nat) (w : World) (hN : N ≤ 65535) : Calls Tryz.prog 67 #[.int .i64 N] w fun e w' => e = .returned (.string (digS N)) ∧ Below w.heap.size w w' := by
  have HN := Lib.hid hN
  have hN1 : (N : Int) ≤ 65535 := by omega
  have HS := Lib.hid (dig_start N)
  clear hN
  obtain ⟨hmod, hw8, hw64⟩ := dig_facts N
  generalize dch (N % 10) = c0 at *
  generalize N % 10 = m0 at *
  have hcv := conv_one w c0
  go_enter Tryz.func67, Tryz.ntmps67
  go_wp2
  go_loopw [0, 3] (fun v0 v3 wr => ∃ (m : Nat) (S : ByteArray), v0 = .int .i64 m ∧ v3 = .string S ∧ m ≤ 65535 ∧ Hid (Below w.heap.size w wr ∧ DigAt N m S)) (fun v0 v3 _ => (intOf v0).toNat)
  case atStart => exact ⟨N, ⟨#[c0]⟩, rfl, rfl, HN.out, Lib.hid ⟨(Below.refl _ _).alloc (Nat.le_refl _) _, HS.out⟩⟩
  case round =>
    clear hmod hw8 hw64 hcv
    obtain ⟨m, S, rfl, rfl, hm, HH⟩ := hrel
    by_cases h9 : m ≤ 9
    · have h91 : ¬ (9 : Int) < m := by omega
      have hS := dig_end HH.out.2 h9
      clear h9 hm
      go_wp2
      go_ret
      exact ⟨rfl, HH.out.1⟩
    · have h91 : (9 : Int) < m := by omega
      have HM := Lib.hid hm
      have HS2 := Lib.hid (dig_step HH.out.2 h9)
      have HLQ : Hid (m / 10 < m) := Lib.hid (by omega)
      have hsz : (S.size : Int) ≤ 5 := by have := dig_size HH.out.2 HN.out; omega
      have hm2 := hm
      clear h9
      obtain ⟨hdiv, hw64q, hq⟩ := div_facts hm
      obtain ⟨hmod2, hw82, hw642⟩ := dig_facts (m / 10)
      have HQ := Lib.hid hq
      clear hm hm2 hq
      generalize dch (m / 10 % 10) = c2 at *
      generalize m / 10 % 10 = m2 at *
      generalize m / 10 = q at *
      have hcv2 := conv_one wr c2
      go_wp2
      go_roundw
      case rel => exact ⟨q, _, by rw [hw64q], rfl, HQ.out, Lib.hid ⟨HH.out.1.alloc HH.out.1.size _, HS2.out⟩⟩
      case measure =>
        have hz : (intOf (.int .i64 (wrap64 (q : Int)))).toNat < (intOf (.int .i64 (m : Int))).toNat := by
          rw [hw64q]
          show (q : Int).toNat < (m : Int).toNat
          rw [Int.toNat_natCast, Int.toNat_natCast]
          exact HLQ.out
        exact hz
end Go.Proofs.Pw
/- The document's line. -/
namespace Go.Proofs.Pw
open Go.RowKit

theorem line_cat (u : UserS) : u.name ++ ⟨#[58]⟩ ++ u.pass ++ ⟨#[58]⟩ ++ digS u.id.toNat ++ ⟨#[58]⟩ ++ digS u.group.toNat ++ ⟨#[58]⟩ ++ u.home ++ ⟨#[58]⟩ ++ u.shell = (⟨(lineB u).toArray⟩ : ByteArray) := by
  refine ba_eq ?_
  unfold lineB digS
  simp
set_option maxHeartbeats 8000000 in
set_option maxRecDepth 100000 in
theorem rline_any (u : UserS) (w : World) (h0 : 0 ≤ u.id) (h1 : u.id ≤ 65535) (h2 : 0 ≤ u.group) (h3 : u.group ≤ 65535) (n0 : u.name.size ≤ 1000) (n1 : u.pass.size ≤ 1000) (n2 : u.home.size ≤ 1000) (n3 : u.shell.size ≤ 1000) :
    Calls Tryz.prog 37 #[.agg (userC u)] w fun e w' => e = .returned (.string ⟨(lineB u).toArray⟩) ∧ Below w.heap.size w w' := by
  have hb0 : Below w.heap.size w (w.alloc (.cells (userC u) 47)) := (Below.refl _ _).alloc (Nat.le_refl _) _
  have hu0 : UC (w.alloc (.cells (userC u) 47)) w.heap.size 0 u := box_six (u := 47) (Below.refl _ _)
  have KP : ∀ W', Below (w.alloc (.cells (userC u) 47)).heap.size (w.alloc (.cells (userC u) 47)) W' → (Below (w.alloc (.cells (userC u) 47)).heap.size (w.alloc (.cells (userC u) 47)) W' ∧ W'.cell? ⟨w.heap.size, 0, none⟩ = some (.string u.name) ∧ W'.cell? ⟨w.heap.size, 1, none⟩ = some (.string u.pass) ∧ W'.cell? ⟨w.heap.size, 2, none⟩ = some (.int .i64 u.id) ∧ W'.cell? ⟨w.heap.size, 3, none⟩ = some (.int .i64 u.group) ∧ W'.cell? ⟨w.heap.size, 4, none⟩ = some (.string u.home) ∧ W'.cell? ⟨w.heap.size, 5, none⟩ = some (.string u.shell)) := fun W' hW' => by
    have h := hu0.below hW'
    exact ⟨hW', h.g0, h.g1, h.g2, h.g3, h.g4, h.g5⟩
  obtain ⟨N1, hN1⟩ : ∃ N : Nat, u.id = N := ⟨u.id.toNat, by omega⟩
  obtain ⟨N2, hN2⟩ : ∃ N : Nat, u.group = N := ⟨u.group.toNat, by omega⟩
  have HI : ∀ W', (Calls Tryz.prog 67 #[.int .i64 u.id] W' fun e w' => e = .returned (.string (digS u.id.toNat)) ∧ Below W'.heap.size W' w') ∧ (Calls Tryz.prog 67 #[.int .i64 u.group] W' fun e w' => e = .returned (.string (digS u.group.toNat)) ∧ Below W'.heap.size W' w') := fun W' => by
    rw [hN1, hN2, Int.toNat_natCast, Int.toNat_natCast]
    exact ⟨rdigits_any _ _ (by omega), rdigits_any _ _ (by omega)⟩
  have d1 : (digS u.id.toNat).size ≤ 5 := by
    rw [← sz]; exact dec_small (by omega)
  have d2 : (digS u.group.toNat).size ≤ 5 := by
    rw [← sz]; exact dec_small (by omega)
  have HCAT := Lib.hid (line_cat u)
  have HB0 := Lib.hid hb0
  have HLE := Lib.hid hb0.size
  obtain ⟨c0, c1, c2, c3, c4, c5⟩ := hu0.at0
  clear hu0 hb0 hN1 hN2 h0 h1 h2 h3
  generalize digS u.id.toNat = D1 at *
  generalize digS u.group.toNat = D2 at *
  have m0 : (u.name.size : Int) ≤ 1000 := by omega
  have m1 : (u.pass.size : Int) ≤ 1000 := by omega
  have m2 : (u.home.size : Int) ≤ 1000 := by omega
  have m3 : (u.shell.size : Int) ≤ 1000 := by omega
  have m4 : (D1.size : Int) ≤ 5 := by omega
  have m5 : (D2.size : Int) ≤ 5 := by omega
  have z1 : ¬ 9223372036854775807 < u.name.size + 1 := by omega
  have z2 : ¬ 9223372036854775807 < u.name.size + 1 + u.pass.size := by omega
  have z3 : ¬ 9223372036854775807 < u.name.size + 1 + u.pass.size + 1 := by omega
  have z4 : ¬ 9223372036854775807 < u.name.size + 1 + u.pass.size + 1 + D1.size := by omega
  have z5 : ¬ 9223372036854775807 < u.name.size + 1 + u.pass.size + 1 + D1.size + 1 := by omega
  have z6 : ¬ 9223372036854775807 < u.name.size + 1 + u.pass.size + 1 + D1.size + 1 + D2.size := by omega
  have z7 : ¬ 9223372036854775807 < u.name.size + 1 + u.pass.size + 1 + D1.size + 1 + D2.size + 1 := by omega
  have z8 : ¬ 9223372036854775807 < u.name.size + 1 + u.pass.size + 1 + D1.size + 1 + D2.size + 1 + u.home.size := by omega
  have z9 : ¬ 9223372036854775807 < u.name.size + 1 + u.pass.size + 1 + D1.size + 1 + D2.size + 1 + u.home.size + 1 := by omega
  have z10 : ¬ 9223372036854775807 < u.name.size + 1 + u.pass.size + 1 + D1.size + 1 + D2.size + 1 + u.home.size + 1 + u.shell.size := by omega
  clear m0 m1 m2 m3 m4 m5 n0 n1 n2 n3 d1 d2
  rw [← HCAT.out]
  clear HCAT
  unfold userC at *
  go_enter Tryz.func37, Tryz.ntmps37
  go_upto_region 1 with fail
  generalize w.alloc (.cells #[.string u.name, .string u.pass, .int .i64 u.id, .int .i64 u.group, .string u.home, .string u.shell] 47) = W0 at *
  generalize hn0 : w.heap.size = n0 at *
  refine wp_region_held_drew (S := (fun W' => Below W0.heap.size W0 W' ∧ W'.cell? ⟨n0, 0, none⟩ = some (.string u.name) ∧ W'.cell? ⟨n0, 1, none⟩ = some (.string u.pass) ∧ W'.cell? ⟨n0, 2, none⟩ = some (.int .i64 u.id) ∧ W'.cell? ⟨n0, 3, none⟩ = some (.int .i64 u.group) ∧ W'.cell? ⟨n0, 4, none⟩ = some (.string u.home) ∧ W'.cell? ⟨n0, 5, none⟩ = some (.string u.shell))) (by kernel_rfl) (KP _ (Below.refl _ _).drew) (fun hHeld => ?_)
  refine wpAnyH_take (i := 0) (v := ?_) rfl (by kernel_rfl) (by kernel_rfl) (by kernel_rfl) (fun _ _ _ h => h) (Or.inl ⟨by rfl, ?_⟩) (by assumption) ?_
  rotate_left
  · (intro W hSw; (try dsimp only at hSw); go_simp; try with_reducible rfl)
  try simp only [List.getElem_toArray, List.getElem_cons_zero, List.getElem_cons_succ, Act.put, List.setIfInBounds_toArray, List.set_cons_zero, List.set_cons_succ]
  refine wpAnyH_take (i := 1) (v := ?_) rfl (by kernel_rfl) (by kernel_rfl) (by kernel_rfl) (fun _ _ _ h => h) (Or.inl ⟨by rfl, ?_⟩) (by assumption) ?_
  rotate_left
  · (intro W hSw; (try dsimp only at hSw); go_simp; try with_reducible rfl)
  try simp only [List.getElem_toArray, List.getElem_cons_zero, List.getElem_cons_succ, Act.put, List.setIfInBounds_toArray, List.set_cons_zero, List.set_cons_succ]
  refine wpAnyH_take (i := 2) (v := ?_) rfl (by kernel_rfl) (by kernel_rfl) (by kernel_rfl) (fun _ _ _ h => h) (Or.inl ⟨by rfl, ?_⟩) (by assumption) ?_
  rotate_left
  · (intro W hSw; (try dsimp only at hSw); go_simp; try with_reducible rfl)
  try simp only [List.getElem_toArray, List.getElem_cons_zero, List.getElem_cons_succ, Act.put, List.setIfInBounds_toArray, List.set_cons_zero, List.set_cons_succ]
  refine wpAnyH_take (i := 3) (v := ?_) rfl (by kernel_rfl) (by kernel_rfl) (by kernel_rfl) (fun _ _ _ h => h) (Or.inl ⟨by rfl, ?_⟩) (by assumption) ?_
  rotate_left
  · (intro W hSw; (try dsimp only at hSw); go_simp; try with_reducible rfl)
  try simp only [List.getElem_toArray, List.getElem_cons_zero, List.getElem_cons_succ, Act.put, List.setIfInBounds_toArray, List.set_cons_zero, List.set_cons_succ]
  refine wpAnyH_take (i := 4) (v := ?_) rfl (by kernel_rfl) (by kernel_rfl) (by kernel_rfl) (fun _ _ _ h => h) (Or.inl ⟨by rfl, ?_⟩) (by assumption) ?_
  rotate_left
  · (intro W hSw; (try dsimp only at hSw); go_simp; try with_reducible rfl)
  try simp only [List.getElem_toArray, List.getElem_cons_zero, List.getElem_cons_succ, Act.put, List.setIfInBounds_toArray, List.set_cons_zero, List.set_cons_succ]
  refine wpAnyH_take (i := 5) (v := ?_) rfl (by kernel_rfl) (by kernel_rfl) (by kernel_rfl) (fun _ _ _ h => h) (Or.inl ⟨by rfl, ?_⟩) (by assumption) ?_
  rotate_left
  · (intro W hSw; (try dsimp only at hSw); go_simp; try with_reducible rfl)
  try simp only [List.getElem_toArray, List.getElem_cons_zero, List.getElem_cons_succ, Act.put, List.setIfInBounds_toArray, List.set_cons_zero, List.set_cons_succ]
  refine wpAnyH_take (i := 6) (v := ?_) rfl (by kernel_rfl) (by kernel_rfl) (by kernel_rfl) (fun _ _ _ h => h) (Or.inl ⟨by rfl, ?_⟩) (by assumption) ?_
  rotate_left
  · (intro W hSw; (try dsimp only at hSw); go_simp; try with_reducible rfl)
  try simp only [List.getElem_toArray, List.getElem_cons_zero, List.getElem_cons_succ, Act.put, List.setIfInBounds_toArray, List.set_cons_zero, List.set_cons_succ]
  refine wpAnyH_take (i := 7) (v := ?_) rfl (by kernel_rfl) (by kernel_rfl) (by kernel_rfl) (fun _ _ _ h => h) (Or.inl ⟨by rfl, ?_⟩) (by assumption) ?_
  rotate_left
  · (intro W hSw; (try dsimp only at hSw); go_simp; try with_reducible rfl)
  try simp only [List.getElem_toArray, List.getElem_cons_zero, List.getElem_cons_succ, Act.put, List.setIfInBounds_toArray, List.set_cons_zero, List.set_cons_succ]
  refine wpAnyH_take (i := 8) (v := ?_) rfl (by kernel_rfl) (by kernel_rfl) (by kernel_rfl) (fun _ _ _ h => h) (Or.inl ⟨by rfl, ?_⟩) (by assumption) ?_
  rotate_left
  · (intro W hSw; (try dsimp only at hSw); go_simp; try with_reducible rfl)
  try simp only [List.getElem_toArray, List.getElem_cons_zero, List.getElem_cons_succ, Act.put, List.setIfInBounds_toArray, List.set_cons_zero, List.set_cons_succ]
  refine wpAnyH_take (i := 12) (v := ?_) rfl (by kernel_rfl) (by kernel_rfl) (by kernel_rfl) (fun _ _ _ h => h) (Or.inl ⟨by rfl, ?_⟩) (by assumption) ?_
  rotate_left
  · (intro W hSw; (try dsimp only at hSw); go_simp; try with_reducible rfl)
  try simp only [List.getElem_toArray, List.getElem_cons_zero, List.getElem_cons_succ, Act.put, List.setIfInBounds_toArray, List.set_cons_zero, List.set_cons_succ]
  refine wpAnyH_take (i := 13) (v := ?_) rfl (by kernel_rfl) (by kernel_rfl) (by kernel_rfl) (fun _ _ _ h => h) (Or.inl ⟨by rfl, ?_⟩) (by assumption) ?_
  rotate_left
  · (intro W hSw; (try dsimp only at hSw); go_simp; try with_reducible rfl)
  try simp only [List.getElem_toArray, List.getElem_cons_zero, List.getElem_cons_succ, Act.put, List.setIfInBounds_toArray, List.set_cons_zero, List.set_cons_succ]
  refine wpAnyH_take (i := 17) (v := ?_) rfl (by kernel_rfl) (by kernel_rfl) (by kernel_rfl) (fun _ _ _ h => h) (Or.inl ⟨by rfl, ?_⟩) (by assumption) ?_
  rotate_left
  · (intro W hSw; (try dsimp only at hSw); go_simp; try with_reducible rfl)
  try simp only [List.getElem_toArray, List.getElem_cons_zero, List.getElem_cons_succ, Act.put, List.setIfInBounds_toArray, List.set_cons_zero, List.set_cons_succ]
  refine wpAnyH_take (i := 18) (v := ?_) rfl (by kernel_rfl) (by kernel_rfl) (by kernel_rfl) (fun _ _ _ h => h) (Or.inl ⟨by rfl, ?_⟩) (by assumption) ?_
  rotate_left
  · (intro W hSw; (try dsimp only at hSw); go_simp; try with_reducible rfl)
  try simp only [List.getElem_toArray, List.getElem_cons_zero, List.getElem_cons_succ, Act.put, List.setIfInBounds_toArray, List.set_cons_zero, List.set_cons_succ]
  refine wpAnyH_take (i := 21) (v := ?_) rfl (by kernel_rfl) (by kernel_rfl) (by kernel_rfl) (fun _ _ _ h => h) (Or.inl ⟨by rfl, ?_⟩) (by assumption) ?_
  rotate_left
  · (intro W hSw; (try dsimp only at hSw); go_simp; try with_reducible rfl)
  try simp only [List.getElem_toArray, List.getElem_cons_zero, List.getElem_cons_succ, Act.put, List.setIfInBounds_toArray, List.set_cons_zero, List.set_cons_succ]
  refine wpAnyH_take (i := 22) (v := ?_) rfl (by kernel_rfl) (by kernel_rfl) (by kernel_rfl) (fun _ _ _ h => h) (Or.inl ⟨by rfl, ?_⟩) (by assumption) ?_
  rotate_left
  · (intro W hSw; (try dsimp only at hSw); go_simp; try with_reducible rfl)
  try simp only [List.getElem_toArray, List.getElem_cons_zero, List.getElem_cons_succ, Act.put, List.setIfInBounds_toArray, List.set_cons_zero, List.set_cons_succ]
  refine wpAnyH_ready (rs := [9]) (by kernel_rfl) (by simp) ?_
  refine AllReadyH.cons rfl (fun K hK => ?_) AllReadyH.nil
  simp only [List.getElem_toArray, List.getElem_cons_zero, List.getElem_cons_succ]
  go_simp
  go_at_call 67
  refine ((HI _).1).mono ?_
  rintro e w1 ⟨rfl, hb⟩
  have hbzw1 : Below W0.heap.size W0 w1 := hHeld.1.trans (hb.mono hHeld.1.size)
  clear hb
  refine hK.out _ _ ?_ (fun hHeld => ?_)
  · (try dsimp only); exact KP _ hbzw1
  clear hK K
  try simp only [List.getElem_toArray, List.getElem_cons_zero, List.getElem_cons_succ, Act.put, List.setIfInBounds_toArray, List.set_cons_zero, List.set_cons_succ]
  refine wpAnyH_take (i := 10) (v := ?_) rfl (by kernel_rfl) (by kernel_rfl) (by kernel_rfl) (fun _ _ _ h => h) (Or.inl ⟨by rfl, ?_⟩) (by assumption) ?_
  rotate_left
  · (intro W hSw; (try dsimp only at hSw); go_simp; try with_reducible rfl)
  try simp only [List.getElem_toArray, List.getElem_cons_zero, List.getElem_cons_succ, Act.put, List.setIfInBounds_toArray, List.set_cons_zero, List.set_cons_succ]
  refine wpAnyH_take (i := 11) (v := ?_) rfl (by kernel_rfl) (by kernel_rfl) (by kernel_rfl) (fun _ _ _ h => h) (Or.inl ⟨by rfl, ?_⟩) (by assumption) ?_
  rotate_left
  · (intro W hSw; (try dsimp only at hSw); go_simp; try with_reducible rfl)
  try simp only [List.getElem_toArray, List.getElem_cons_zero, List.getElem_cons_succ, Act.put, List.setIfInBounds_toArray, List.set_cons_zero, List.set_cons_succ]
  refine wpAnyH_ready (rs := [14]) (by kernel_rfl) (by simp) ?_
  refine AllReadyH.cons rfl (fun K hK => ?_) AllReadyH.nil
  simp only [List.getElem_toArray, List.getElem_cons_zero, List.getElem_cons_succ]
  go_simp
  go_at_call 67
  refine ((HI _).2).mono ?_
  rintro e w2 ⟨rfl, hb⟩
  have hbzw2 : Below W0.heap.size W0 w2 := hHeld.1.trans (hb.mono hHeld.1.size)
  clear hb
  refine hK.out _ _ ?_ (fun hHeld => ?_)
  · (try dsimp only); exact KP _ hbzw2
  clear hK K
  try simp only [List.getElem_toArray, List.getElem_cons_zero, List.getElem_cons_succ, Act.put, List.setIfInBounds_toArray, List.set_cons_zero, List.set_cons_succ]
  refine wpAnyH_take (i := 15) (v := ?_) rfl (by kernel_rfl) (by kernel_rfl) (by kernel_rfl) (fun _ _ _ h => h) (Or.inl ⟨by rfl, ?_⟩) (by assumption) ?_
  rotate_left
  · (intro W hSw; (try dsimp only at hSw); go_simp; try with_reducible rfl)
  try simp only [List.getElem_toArray, List.getElem_cons_zero, List.getElem_cons_succ, Act.put, List.setIfInBounds_toArray, List.set_cons_zero, List.set_cons_succ]
  refine wpAnyH_take (i := 16) (v := ?_) rfl (by kernel_rfl) (by kernel_rfl) (by kernel_rfl) (fun _ _ _ h => h) (Or.inl ⟨by rfl, ?_⟩) (by assumption) ?_
  rotate_left
  · (intro W hSw; (try dsimp only at hSw); go_simp; try with_reducible rfl)
  try simp only [List.getElem_toArray, List.getElem_cons_zero, List.getElem_cons_succ, Act.put, List.setIfInBounds_toArray, List.set_cons_zero, List.set_cons_succ]
  refine wpAnyH_take (i := 19) (v := ?_) rfl (by kernel_rfl) (by kernel_rfl) (by kernel_rfl) (fun _ _ _ h => h) (Or.inl ⟨by rfl, ?_⟩) (by assumption) ?_
  rotate_left
  · (intro W hSw; (try dsimp only at hSw); go_simp; try with_reducible rfl)
  try simp only [List.getElem_toArray, List.getElem_cons_zero, List.getElem_cons_succ, Act.put, List.setIfInBounds_toArray, List.set_cons_zero, List.set_cons_succ]
  refine wpAnyH_take (i := 20) (v := ?_) rfl (by kernel_rfl) (by kernel_rfl) (by kernel_rfl) (fun _ _ _ h => h) (Or.inl ⟨by rfl, ?_⟩) (by assumption) ?_
  rotate_left
  · (intro W hSw; (try dsimp only at hSw); go_simp; try with_reducible rfl)
  try simp only [List.getElem_toArray, List.getElem_cons_zero, List.getElem_cons_succ, Act.put, List.setIfInBounds_toArray, List.set_cons_zero, List.set_cons_succ]
  refine wpAnyH_take (i := 23) (v := ?_) rfl (by kernel_rfl) (by kernel_rfl) (by kernel_rfl) (fun _ _ _ h => h) (Or.inl ⟨by rfl, ?_⟩) (by assumption) ?_
  rotate_left
  · (intro W hSw; (try dsimp only at hSw); go_simp; try with_reducible rfl)
  try simp only [List.getElem_toArray, List.getElem_cons_zero, List.getElem_cons_succ, Act.put, List.setIfInBounds_toArray, List.set_cons_zero, List.set_cons_succ]
  refine wpAnyH_take (i := 24) (v := ?_) rfl (by kernel_rfl) (by kernel_rfl) (by kernel_rfl) (fun _ _ _ h => h) (Or.inl ⟨by rfl, ?_⟩) (by assumption) ?_
  rotate_left
  · (intro W hSw; (try dsimp only at hSw); go_simp; try with_reducible rfl)
  try simp only [List.getElem_toArray, List.getElem_cons_zero, List.getElem_cons_succ, Act.put, List.setIfInBounds_toArray, List.set_cons_zero, List.set_cons_succ]
  refine wpAnyH_done (by kernel_rfl) ?_ _
  have HB := Lib.hid (HB0.out.trans (hbzw2.mono HLE.out))
  clear hbzw1 hbzw2 hHeld KP HI
  go_wp2
  go_ret
  exact ⟨rfl, by rw [hn0]; exact HB.out⟩
end Go.Proofs.Pw
/- The document's Print. -/
namespace Go.Proofs.Pw
open Go.RowKit

theorem print_cat {L : List UserS} {k : Nat} (hk : k < L.length) : (⟨(printB (L.take k)).toArray⟩ : ByteArray) ++ ⟨(lineB L[k]).toArray⟩ ++ ⟨#[10]⟩ = ⟨(printB (L.take (k + 1))).toArray⟩ := by
  refine ba_eq ?_
  rw [print_take hk]
  simp
theorem line_parts {u : UserS} (h : (lineB u).length ≤ 300) : u.name.size ≤ 1000 ∧ u.pass.size ≤ 1000 ∧ u.home.size ≤ 1000 ∧ u.shell.size ≤ 1000 := by
  unfold lineB at h
  simp only [List.length_append, List.length_cons, sz] at h
  omega
set_option maxHeartbeats 4000000 in
set_option maxRecDepth 100000 in
theorem rprint_any (v : Value) (L : List UserS) (w : World) (hF : InU w v L) (hn : L.length ≤ 140737488355328) (hS : ∀ u ∈ L, SzV u) :
    Calls Tryz.prog 17 #[v] w fun e w' => e = .returned (.string (printS L)) ∧ Below w.heap.size w w' := by
  have HR := Lib.hid (rright_any v L w hF hn hS)
  obtain ⟨a, cap, rfl, hc⟩ := hF
  have HF : Hid (InU w (.slice a L.length cap) L) := Lib.hid ⟨a, cap, rfl, hc⟩
  clear hc hS
  have hn1 : (L.length : Int) ≤ 140737488355328 := by omega
  clear hn
  cases hr : rightB L with
  | false =>
    have HP : Hid (printS L = ⟨#[]⟩) := Lib.hid (by unfold printS; rw [hr]; rfl)
    rw [hr] at HR
    clear hr
    go_enter Tryz.func17, Tryz.ntmps17
    go_wp2_with fail
    refine HR.out.mono ?_
    rintro e w1 ⟨rfl, hb⟩
    have HB := Lib.hid hb
    clear hb
    go_wp2
    go_ret
    exact ⟨by rw [HP.out]; rfl, HB.out⟩
  | true =>
    have HP : Hid (printS L = ⟨(printB L).toArray⟩) := Lib.hid (by unfold printS; rw [if_pos hr])
    have HRU := Lib.hid ((rightB_iff L).1 hr)
    rw [hr] at HR
    clear hr
    go_enter Tryz.func17, Tryz.ntmps17
    go_wp2_with fail
    refine HR.out.mono ?_
    rintro e w1 ⟨rfl, hb⟩
    have HB := Lib.hid hb
    clear hb
    go_wp2
    go_loopw [4, 5] (fun v4 v5 wr => ∃ (k : Nat) (t : ByteArray), k ≤ L.length ∧ v5 = .int .i64 k ∧ v4 = .string t ∧ t.size ≤ 2408 ∧ Hid (Below w.heap.size w wr ∧ t = ⟨(printB (L.take k)).toArray⟩)) (fun v4 v5 _ => L.length - (intOf v5).toNat)
    case atStart => exact ⟨0, ⟨#[]⟩, Nat.zero_le _, rfl, rfl, by decide, Lib.hid ⟨HB.out, rfl⟩⟩
    case round =>
      obtain ⟨k, t, hk, rfl, rfl, ht, HH⟩ := hrel
      by_cases hlt : k < L.length
      · have hlt1 : (k : Int) < L.length := by omega
        obtain ⟨b, off, rfl, hu⟩ := HF.out.uc HH.out.1 hlt
        have hm := HRU.out.may _ (List.getElem_mem hlt)
        have hcat := print_cat hlt
        rw [← HH.out.2] at hcat
        have hpl : (printB (L.take (k + 1))).length ≤ 301 * 8 := by
          have h1 := print_len (L.take (k + 1)) (fun u hu => HRU.out.may u (List.mem_of_mem_take hu))
          have h2 := HRU.out.len
          simp only [List.length_take] at h1
          omega
        have HPL := Lib.hid hpl
        generalize L[k]'hlt = f at *
        have hll := line_len hm
        have hmp := mayP hm
        obtain ⟨n0, n1, n2, n3⟩ := line_parts hll
        have HLN := Lib.hid (fun W => rline_any f W hmp.id0 hmp.id1 hmp.g0 hmp.g1 n0 n1 n2 n3)
        obtain ⟨R, hR⟩ : ∃ R : ByteArray, ⟨(lineB f).toArray⟩ = R := ⟨_, rfl⟩
        rw [hR] at HLN hcat
        have hRs : R.size ≤ 300 := by rw [← hR, ← sz]; exact hll
        have HCAT := Lib.hid hcat
        have ht1 : (t.size : Int) ≤ 2408 := by omega
        have hRs1 : (R.size : Int) ≤ 300 := by omega
        obtain ⟨g0, g1, g2, g3, g4, g5⟩ := hu
        clear hm hcat hll hmp n0 n1 n2 n3 hR hpl
        go_wp2_with fail
        refine (HLN.out _).mono ?_
        rintro e w5 ⟨rfl, hb⟩
        have HB5 := Lib.hid (HH.out.1.trans (hb.mono HH.out.1.size))
        clear hb g0 g1 g2 g3 g4 g5 HLN
        go_wp2
        go_roundw
        case rel => exact ⟨k + 1, t ++ R ++ ⟨#[10]⟩, by omega, by go_num, rfl, by rw [HCAT.out, ← sz]; have := HPL.out; exact this, Lib.hid ⟨HB5.out, HCAT.out⟩⟩
        case measure => simp [intOf]; omega
      · have hlt1 : ¬ (k : Int) < L.length := by omega
        have HT : Hid (printS L = t) := Lib.hid (by
          rw [HP.out, HH.out.2, show k = L.length by omega, List.take_length])
        go_wp2
        go_ret
        exact ⟨by rw [HT.out]; rfl, HH.out.1⟩
end Go.Proofs.Pw
/- What a printed file of users is. -/
namespace Go.Proofs.YtlhlehdajkoogaaGreatDoor
open Go.RowKit

/-- What a printed file is. -/
theorem print_facts {M : List Pw.UserS} {T : ByteArray} (h : Pw.printS M = T) : (T.size = 0 ∧ (M ≠ [] → Pw.rightB M = false)) ∨ (0 < T.size ∧ Pw.RightU M ∧ Pw.printB M = T.data.toList ∧ T.size ≤ 2408) := by
  unfold Pw.printS at h
  by_cases hr : Pw.rightB M = true
  · rw [if_pos hr] at h
    have hR := (Pw.rightB_iff M).1 hr
    have hd : Pw.printB M = T.data.toList := by rw [← h]
    have hl := Pw.print_len M hR.may
    have hsz : T.size = (Pw.printB M).length := by rw [hd]; exact Array.length_toList.symm
    have h8 := hR.len
    by_cases h0 : T.size = 0
    · refine .inl ⟨h0, fun hne => ?_⟩
      cases M with
      | nil => exact absurd rfl hne
      | cons u M =>
        rw [Pw.printB_cons] at hsz
        simp at hsz
        omega
    · exact .inr ⟨by omega, hR, hd, by omega⟩
  · rw [if_neg hr] at h
    exact .inl ⟨by rw [← h]; rfl, fun _ => by simpa using hr⟩
end Go.Proofs.YtlhlehdajkoogaaGreatDoor
