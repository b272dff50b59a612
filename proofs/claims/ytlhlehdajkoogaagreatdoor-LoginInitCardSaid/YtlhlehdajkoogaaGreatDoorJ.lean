/- init, told: its first call and each other one. -/
import Derived.Test.YtlhlehdajkoogaaGreatDoorI
namespace Go.Proofs.YtlhlehdajkoogaaGreatDoor
open Go.RowKit
open LGI (Md keepsM gone)

theorem Own.kb {F : Nat → Prop} {w w' : World} {v : Value} {g : List Int} (h : Own F w v g) (k : Kb w w') : Own F w' v g := by
  obtain ⟨b, cap, cur, hF, rfl, h1, h2⟩ := h
  exact ⟨b, cap, cur, hF, rfl, k _ _ _ (by decide) (by decide) h1, h2⟩
/-- An init that told a call. -/
structure IS (F : Nat → Prop) (md : Md) (m : Ma) (w : World) : Prop where
  own : Own F w m.gettys md.row
  over : m.over = false
  th : match md with
    | .wait _ => m.c = { op := 21 } ∧ m.th = .func (.func 154) #[] #[]
    | .fork g t => m.c = { op := 18 } ∧ t < g.length ∧ ∃ b, F b ∧ m.th = .func (.func 111) #[] #[.pointer (some ⟨b, 0, none⟩)] ∧ w.heap[b]? = some (.cells #[.int .i64 (t : Int)] 3 (0, 0))
theorem IS.kb {F : Nat → Prop} {md : Md} {m : Ma} {w w' : World} (h : IS F md m w) (k : Kb w w') : IS F md m w' := by
  refine ⟨h.own.kb k, h.over, ?_⟩
  have := h.th
  cases md with
  | wait g => exact this
  | fork g t =>
    obtain ⟨h1, h2, b, h0, h3, h4⟩ := this
    exact ⟨h1, h2, b, h0, h3, k _ _ _ (by decide) (by decide) h4⟩
/-- What a call of what follows ends in. -/
def ThP (p : Nat) (w : World) (R : Ma → World → Prop) (e : Ending) (w' : World) : Prop := e = .returned (.tuple #[]) ∧ ∃ m', M w' p m' ∧ m'.told ∧ Mo p w w' ∧ R m' w'
theorem kq_told {F : Nat → Prop} {p : Nat} {m : Ma} {g : List Int} {t : Nat} {w w' : World} {e : Ending} (h : Kq F p m g (keepsM g t) w e w') (ho : m.over = false) : ThP p w (IS F (keepsM g t)) e w' := by
  obtain ⟨he, v', h1, h2, h3⟩ := h
  have hrow := LGI.keepsM_row g t
  have hin := LGI.keepsM_in g t
  refine ⟨he, ?_⟩
  generalize keepsM g t = md at *
  cases md with
  | wait g' =>
    obtain rfl : g' = g := hrow
    exact ⟨_, h1, ⟨⟨rfl, rfl⟩, .inl ⟨_, _, _, rfl, ho⟩⟩, h3, h2, ho, rfl, rfl⟩
  | fork g' t' =>
    obtain rfl : g' = g := hrow
    obtain ⟨b, h0, h4, h5⟩ := h1
    exact ⟨_, h5, ⟨⟨rfl, rfl⟩, .inl ⟨_, _, _, rfl, ho⟩⟩, h3, h2, ho, rfl, hin, b, h0, rfl, h4⟩
/-- The next place. -/
def stepM : Md → Int → Md
  | .fork g t, n => keepsM (g.set t n) (t + 1)
  | .wait g, n => keepsM (gone g n) 0
theorem enter_of {k : FuncId} {fn : Func} (h : Tryz.prog.funcs[k]? = some fn) (h1 : (fn.name == "runtime.NumGoroutine") = false) (hb : fn.body.isSome = true) (args : Array Value) (w : World) : (callFunc k args).run Tryz.prog w = .ok (.enter k args) w := by
  have h1 : fn.name ≠ "runtime.NumGoroutine" := by simpa using h1
  cases hb2 : fn.body with
  | none => rw [hb2] at hb; cases hb
  | some c => simp [callFunc, go_sem, h, h1, hb2]
theorem en_waits (args : Array Value) (w : World) : (callFunc 154 args).run Tryz.prog w = .ok (.enter 154 args) w := enter_of Tryz.func154 (by kernel_rfl) rfl args w
theorem en_keeps (args : Array Value) (w : World) : (callFunc 111 args).run Tryz.prog w = .ok (.enter 111 args) w := enter_of Tryz.func111 (by kernel_rfl) rfl args w
theorem en_new (args : Array Value) (w : World) : (callFunc 27 args).run Tryz.prog w = .ok (.enter 27 args) w := enter_of Tryz.func27 (by kernel_rfl) rfl args w
theorem en_initial (args : Array Value) (w : World) : (callFunc 44 args).run Tryz.prog w = .ok (.enter 44 args) w := enter_of Tryz.func44 (by kernel_rfl) rfl args w
theorem M.self {w : World} {p : Nat} {m : Ma} (h : M w p m) : M w p { m with th := m.th } := h
/-- init goes on. -/
theorem inext_any {F : Nat → Prop} {w : World} (hF : ∀ k, w.heap.size ≤ k → F k) {l p : Nat} {m : Ma} {md : Md} (hl : L w l p) (h : M w p m) (hs : IS F md m w) (hg : md.row.length < 100) (r : An) (he : r.err = 0) (hn : 0 < r.n) :
    Calls Tryz.prog 14 #[.pointer (some ⟨l, 0, none⟩), .agg r.cells] w (NextP p w (IS F (stepM md r.n))) := by
  refine lnext_any hl h r (fun m' w1 w2 k hh => hh.kb k) fun w1 h1 k1 s1 => ?_
  have hs1 := hs.kb k1
  have ho := hs1.own
  have ht := hs1.th
  cases md with
  | wait g =>
    refine then_any h1 hs1.over ht.2 r (fun m' w1 w2 k hh => hh.kb k) en_waits fun w2 h2 k2 s2 => ?_
    exact (waited_any (fun k hk => hF k (Nat.le_trans (Nat.le_trans s1 s2) hk)) h2 (ho.kb k2) hg r he).mono fun e w' hh => kq_told hh hs1.over
  | fork g t =>
    obtain ⟨_, hlt, b, _, h3, h4⟩ := ht
    refine then_any h1 hs1.over h3 r (fun m' w1 w2 k hh => hh.kb k) en_keeps fun w2 h2 k2 s2 => ?_
    exact (forked_any (fun k hk => hF k (Nat.le_trans (Nat.le_trans s1 s2) hk)) h2 (ho.kb k2) (k2 _ _ _ (by decide) (by decide) h4) hlt hg r he hn).mono fun e w' hh => kq_told hh hs1.over
set_option maxRecDepth 100000 in
set_option maxHeartbeats 4000000 in
theorem newd_any {w : World} {p pd pw : Nat} {d : FuncId} {wv : Value} (hd : w.heap[pd]? = some (.cells #[.func (.func d) #[] #[]] FT (0, 0))) (hw : w.heap[pw]? = some (.cells #[wv] 22 (0, 0)))
    (hen : ∀ (args : Array Value) (w : World), (callFunc d args).run Tryz.prog w = .ok (.enter d args) w) {R : Ma → World → Prop} (hk : Calls Tryz.prog d #[.pointer (some ⟨p, 0, none⟩), wv] w (ThP p w R)) :
    Calls Tryz.prog 27 #[.pointer (some ⟨p, 0, none⟩), .pointer (some ⟨pd, 0, none⟩), .pointer (some ⟨pw, 0, none⟩)] w (ThP p w R) := by
  have x0 : w.cell? ⟨pd, 0, none⟩ = some (.func (.func d) #[] #[]) := cell_of hd 0
  have x1 : w.cell? ⟨pw, 0, none⟩ = some wv := cell_of hw 0
  have HK := Lib.hid hk
  clear hd hw hk
  go_enter Tryz.func27, Tryz.ntmps27
  go_wp2_with fail
  refine HK.out.mono ?_
  rintro e w1 ⟨rfl, hh⟩
  have H := Lib.hid hh
  clear hh HK
  go_wp2
  exact bodyPost_end (results_none rfl _ _ _) rfl ⟨rfl, H.out⟩
/-- init begins. -/
theorem ifirst_any {F : Nat → Prop} {w0 w : World} (hF : ∀ k, w.heap.size ≤ k → F k) {prog s : ByteArray} {e0 : Ending} {l p pd pw : Nat} {v wv : Value} (h : Nw w0 w prog 44 s e0 l p pd pw v wv) (hs : s.size = 1) (u : Nat) (hu : u < 100) (hp : Lib.parseUintB 8 s.data.toList = .ok u) (r : An) :
    Calls Tryz.prog 14 #[.pointer (some ⟨l, 0, none⟩), .agg r.cells] w (NextP p w (IS F (keepsM (List.replicate u 0) 0))) := by
  refine lnext_any h.l h.m r (fun m' w1 w2 k hh => hh.kb k) fun w1 h1 k1 s1 => ?_
  obtain ⟨td, cap, cur, g1, g2, g3, g4⟩ := h.one
  refine start_any h1 rfl rfl g1 (k1 _ _ _ (by decide) (by decide) g2) g3 g4 r (fun m' w1 w2 k hh => hh.kb k) en_new fun w2 h2 k2 s2 => ?_
  have k3 := k1.trans k2
  refine newd_any (k3 _ _ _ (by decide) (by decide) h.pd) (k3 _ _ _ (by decide) (by decide) h.pw) en_initial ?_
  exact (initial_any (fun k hk => hF k (Nat.le_trans (Nat.le_trans s1 s2) hk)) h2 (h.words.kb k3) hs u hu hp).mono fun e w' hh => kq_told hh rfl
end Go.Proofs.YtlhlehdajkoogaaGreatDoor
