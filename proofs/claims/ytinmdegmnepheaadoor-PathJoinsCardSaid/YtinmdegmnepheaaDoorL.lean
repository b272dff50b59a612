import Derived.Test.YtinmdegmnepheaaDoorK
import Derived.Test.YtinmdegmnepheaaDoorM
import Derived.Deep.AppendLies
import Derived.Deep.RegionHeld3
import Derived.Deep.RegionWith
namespace Go.Proofs.YtinmdegmnepheaaDoor
open Go.RowKit

set_option maxHeartbeats 1000000 in
theorem joins_law (s nm : ByteArray) (w : World) (hs : s.size ≤ 140737488351232) (hn : nm.size ≤ 140737488351232) :
    Calls Tryd.prog 5 #[.string s, .string nm] w fun e w' => e = .returned (.bool true) ∧ Below w.heap.size w w' := by
  go_enter Tryd.func5, Tryd.ntmps5
  go_wp2_with fail
  refine (shown_any w).mono ?_
  rintro e w1 ⟨rfl, hb⟩
  have HB := Lib.hid hb
  clear hb
  go_wp2_with fail
  refine (split_any _ _ hs).mono ?_
  rintro e w2 ⟨abs, dir, v, l, err, rfl, ho, hb2, hsp⟩
  have HB2 := Lib.hid (HB.out.trans (hb2.mono HB.out.size))
  have HO := Lib.hid ho
  have HW := Lib.hid HB.out.size
  have HZ := Lib.hid hb2.size
  have HS := Lib.hid hsp
  obtain ⟨a, cap, rfl, hcells⟩ := Sl.of_own ho
  clear ho hb2 hcells hsp
  by_cases he : err = 0
  · subst he
    have HG := Lib.hid (good_of HS.out)
    by_cases hnm : nameB nm = true
    · go_wp2_with (go_at_call 16; refine (name_any _ _).mono ?_; rintro e w' ⟨he, rfl⟩; rw [hnm] at he; subst he)
      have hsz : s.size ≤ 128 := by rw [← sz]; exact HG.out.len
      have hnz : nm.size ≤ 14 := ((nameB_iff nm).1 hnm).2.1
      have hjz := join_size s nm
      go_wp2_with fail
      refine (join_any _ _ _ hs hn).mono ?_
      rintro e w' ⟨rfl, rfl⟩
      have HJ := Lib.hid (join_good HG.out hnm)
      have HL := Lib.hid (join_long (d := s) (n := nm))
      have HBa := Lib.hid (fun k i => join_base (d := s) (k := k) (i := i) HG.out.ne hnm)
      obtain ⟨kt, hkt⟩ := trim_is (joinB s nm)
      obtain ⟨it, hit⟩ := cut_is (joinB s nm) kt
      have HKT := Lib.hid hkt
      have HIT := Lib.hid hit
      clear hkt hit
      generalize joinB s nm = j at *
      by_cases hj : 128 < j.size
      · have hj1 : (128 : Int) < j.size := by omega
        go_wp2_with fail
        refine (split_any _ _ (by omega)).mono ?_
        rintro e w3 ⟨abs3, dir3, v3, l3, err3, rfl, ho3, hb3, hsp3⟩
        replace hsp3 : ((false, false, [], 10) : Bool × Bool × List Bytes × Int) = _ := (HL.out hj).symm.trans hsp3
        simp only [Prod.mk.injEq] at hsp3
        obtain ⟨rfl, rfl, -, rfl⟩ := hsp3
        have hbq := (HB2.out.alloc HB2.out.size _).trans (hb3.mono (by have := HB2.out.size; rw [World.size_alloc]; omega))
        have HBQ := Lib.hid hbq
        obtain ⟨a3, cap3, rfl, hcells3⟩ := Sl.of_own ho3
        clear ho3 hb3 hbq hcells3
        go_wp2
        go_ret
        exact ⟨rfl, HBQ.out.alloc HBQ.out.size _⟩
      · have hj1 : ¬ (128 : Int) < j.size := by omega
        go_wp2_with fail
        refine (split_any _ _ (by omega)).mono ?_
        rintro e w3 ⟨abs3, dir3, v3, l3, err3, rfl, ho3, hb3, hsp3⟩
        replace hsp3 : ((abs, false, l.map (fun x : ByteArray => x.data.toList) ++ [nm.data.toList], 0) : Bool × Bool × List Bytes × Int) = _ := (HJ.out (by omega)).symm.trans hsp3
        simp only [Prod.mk.injEq] at hsp3
        obtain ⟨rfl, rfl, hl3, rfl⟩ := hsp3
        have HB3 := Lib.hid hb3
        have HL3 := Lib.hid hl3
        have HO3 := Lib.hid ho3
        obtain ⟨a3, cap3, rfl, hcells3⟩ := Sl.of_own ho3
        clear ho3 hb3 hcells3 hl3
        have hlen : l.length ≤ 129 := by
          have h1 := congrArg List.length HG.out.names
          have h2 := List.length_filter_le (fun x => decide (¬ x = [46])) (parts s.data.toList)
          have h3 := partsA_len s.data.toList []
          rw [List.length_map] at h1
          have h4 := HG.out.len
          unfold parts at h1 h2
          omega
        obtain rfl : l3 = l ++ [nm] := ba_inj (by rw [← HL3.out, List.map_append]; rfl)
        have HN4 : Hid ((l ++ [nm]).length = l.length + 1) := Lib.hid (by simp)
        generalize hn3 : (l ++ [nm]).length = n3 at *
        go_wp2_with fail
        obtain ⟨X2, hX2⟩ : ∃ X, Obj.cells #[.bool abs, .slice a l.length cap, .bool dir] 29 = X := ⟨_, rfl⟩
        obtain ⟨X3, hX3⟩ : ∃ X, Obj.cells #[.bool abs, .slice a3 n3 cap3, .bool false] 29 = X := ⟨_, rfl⟩
        have hz2 : (w2.alloc X2).heap.size = w2.heap.size + 1 := by simp
        have hz3 : (w3.alloc X3).heap.size = w3.heap.size + 1 := by simp
        have hz23 : w2.heap.size + 1 ≤ w3.heap.size := by have := HB3.out.size; rw [hX2, hz2] at this; exact this
        have hc1 : (w3.alloc X3).heap[w3.heap.size]? = some (.cells #[.bool abs, .slice a3 n3 cap3, .bool false] 29 (0, 0)) := by rw [← hX3]; exact at_new _ _
        have hc2 : (w3.alloc X3).heap[w2.heap.size]? = some (.cells #[.bool abs, .slice a l.length cap, .bool dir] 29 (0, 0)) := by
          rw [Below.heap_alloc _ _ _ (by omega), HB3.out.block w2.heap.size (by rw [hX2, hz2]; omega)]; exact at_new _ _
        have hb3 : Below w.heap.size w (w3.alloc X3) := by
          refine ((HB2.out.alloc HB2.out.size X2).trans ?_).alloc ?_ X3
          · have := HB3.out.mono (B := (w2.alloc _).heap.size) (B' := w.heap.size) (by rw [hX2, hz2]; have := HB2.out.size; omega)
            rw [hX2] at this; exact this
          · have := HB2.out.size; omega
        have ho2 : (w3.alloc X3).ownsRow w1.heap.size 9 1 (.slice a l.length cap) l.length (l.map .string) := by
          have h1 := own_below (HO.out.alloc X2) (by rw [← hX2]; exact HB3.out)
          exact h1.alloc X3
        have ho3 : (w3.alloc X3).ownsRow (w2.alloc X2).heap.size 9 1 (.slice a3 n3 cap3) n3 ((l ++ [nm]).map .string) := by
          have := HO3.out; rw [hX2] at this; exact this.alloc X3
        rw [hX3]
        have hl2 : w2.heap.size < (w3.alloc X3).heap.size := by omega
        have hl3 : w3.heap.size < (w3.alloc X3).heap.size := by omega
        generalize w3.alloc X3 = W at *
        have HP2 := Lib.hid ho2
        have HP3 := Lib.hid ho3
        have KP : ∀ W', Below W.heap.size W W' → W'.cell? ⟨w3.heap.size, 1, none⟩ = some (.slice a3 n3 cap3) ∧ W'.cell? ⟨w2.heap.size, 1, none⟩ = some (.slice a l.length cap) := fun W' hb =>
          ⟨by rw [hb.cell (p := ⟨w3.heap.size, 1, none⟩) hl3]; exact heap_cell hc1 1, by rw [hb.cell (p := ⟨w2.heap.size, 1, none⟩) hl2]; exact heap_cell hc2 1⟩
        obtain ⟨i0, hi, hz0, hz1, hz4⟩ : ∃ i0, Tryd.prog.info? 9 = some i0 ∧ i0.zero = some (.string ByteArray.empty) ∧ i0.size = 1 ∧ i0.bytes = 16 := by
          have h := info9
          cases hh : Tryd.prog.info? 9 with
          | none => rw [hh] at h; cases h
          | some i => rw [hh] at h; simp at h; exact ⟨i, rfl, h.1, h.2.1, h.2.2⟩
        clear ho2 ho3
        go_region_held3 (fun W' => Below W.heap.size W W' ∧ W'.cell? ⟨w3.heap.size, 1, none⟩ = some (.slice a3 n3 cap3) ∧ W'.cell? ⟨w2.heap.size, 1, none⟩ = some (.slice a l.length cap))
          (first
            | exact ⟨(Below.refl _ _).drew, KP _ (Below.refl _ _).drew⟩
            | exact ⟨belowN hB8 _, KP _ (belowN hB8 _)⟩ | exact ⟨hB8, KP _ hB8⟩ | exact ⟨hB5, KP _ hB5⟩ | exact ⟨hB5.alloc hB5.size _, KP _ (hB5.alloc hB5.size _)⟩
            | exact ⟨((Below.refl _ _).alloc (Nat.le_refl _) _).drew, KP _ ((Below.refl _ _).alloc (Nat.le_refl _) _).drew⟩
            | exact ⟨(((Below.refl _ _).alloc (Nat.le_refl _) _).alloc (by simp) _).drew, KP _ (((Below.refl _ _).alloc (Nat.le_refl _) _).alloc (by simp) _).drew⟩)
          (first
            | (refine step_app_row rfl (.tmp 53) (.tmp 55) 23 rfl W.heap.size 9 i0 (.string ByteArray.empty) 16 Tryd.underlying23 hi hz0 hz1 hz4 rfl (.slice (some ⟨W.heap.size, 0, none⟩) 0 0) 0 [] ?_ ?_ w1.heap.size (.slice a l.length cap) l.length (l.map .string) ?_ ?_ ?_ ?_ ?_ ?_ ?_
               · simp [Act.eval, Act.put]; done
               · exact own_drew (own_new W #[] _ 0 _ rfl (Nat.le_refl _) rfl (by unfold maxLen; omega))
               · simp [Act.eval, Act.put]; done
               · exact own_below HP2.out (‹Below W.heap.size W _ ∧ _›).1
               · simp [Value.oneCell']
               · unfold maxLen; omega
               · omega
               · exact (‹Below W.heap.size W _ ∧ _›).1.size
               intro v5 w5 hown5 hgrow5 hbel5
               have hB5 : Below W.heap.size W w5 := (‹Below W.heap.size W _ ∧ _›).1.trans hbel5)
            | (refine step_app_row rfl (.tmp 53) (.tmp 55) 23 rfl W.heap.size 9 i0 (.string ByteArray.empty) 16 Tryd.underlying23 hi hz0 hz1 hz4 rfl (.slice (some ⟨W.heap.size, 0, none⟩) 0 0) 0 [] ?_ ?_ w1.heap.size (.slice a l.length cap) l.length (l.map .string) ?_ ?_ ?_ ?_ ?_ ?_ ?_
               · simp [Act.eval, Act.put]; done
               · exact own_drew ((own_new W #[] _ 0 _ rfl (Nat.le_refl _) rfl (by unfold maxLen; omega)).alloc _)
               · simp [Act.eval, Act.put]; done
               · exact own_below HP2.out (‹Below W.heap.size W _ ∧ _›).1
               · simp [Value.oneCell']
               · unfold maxLen; omega
               · omega
               · exact (‹Below W.heap.size W _ ∧ _›).1.size
               intro v5 w5 hown5 hgrow5 hbel5
               have hB5 : Below W.heap.size W w5 := (‹Below W.heap.size W _ ∧ _›).1.trans hbel5)
            | (refine step_app_row rfl (.tmp 53) (.tmp 55) 23 rfl W.heap.size 9 i0 (.string ByteArray.empty) 16 Tryd.underlying23 hi hz0 hz1 hz4 rfl (.slice (some ⟨(W.heap.size + 1), 0, none⟩) 0 0) 0 [] ?_ ?_ w1.heap.size (.slice a l.length cap) l.length (l.map .string) ?_ ?_ ?_ ?_ ?_ ?_ ?_
               · simp [Act.eval, Act.put]; done
               · exact own_drew (own_new (W.alloc _) #[] _ 0 _ (by simp) (by simp) rfl (by unfold maxLen; omega))
               · simp [Act.eval, Act.put]; done
               · exact own_below HP2.out (‹Below W.heap.size W _ ∧ _›).1
               · simp [Value.oneCell']
               · unfold maxLen; omega
               · omega
               · exact (‹Below W.heap.size W _ ∧ _›).1.size
               intro v5 w5 hown5 hgrow5 hbel5
               have hB5 : Below W.heap.size W w5 := (‹Below W.heap.size W _ ∧ _›).1.trans hbel5)
            | (refine step_app_row rfl (.tmp 56) (.tmp 58) 23 rfl W.heap.size 9 i0 (.string ByteArray.empty) 16 Tryd.underlying23 hi hz0 hz1 hz4 rfl v5 (0 + l.length) ([] ++ l.map .string) ?_ ?_ 0 (.slice (some ⟨w5.heap.size, 0, none⟩) 1 1) 1 [.string nm] ?_ ?_ ?_ ?_ ?_ ?_ ?_
               · simp [Act.eval, Act.put]; done
               · exact hown5.alloc _
               · simp [Act.eval, Act.put]; done
               · exact own_new w5 #[.string nm] 0 1 _ rfl (Nat.zero_le _) rfl (by unfold maxLen; omega)
               · simp [Value.oneCell']
               · unfold maxLen; omega
               · omega
               · exact (‹Below W.heap.size W _ ∧ _›).1.size
               intro v8 w8 hown8 hgrow8 hbel8
               have hB8 : Below W.heap.size W w8 := (‹Below W.heap.size W _ ∧ _›).1.trans hbel8)
            | (refine step_app_row rfl (.tmp 56) (.tmp 58) 23 rfl W.heap.size 9 i0 (.string ByteArray.empty) 16 Tryd.underlying23 hi hz0 hz1 hz4 rfl v5 (0 + l.length) ([] ++ l.map .string) ?_ ?_ 0 (.slice (some ⟨(W.heap.size + 1), 0, none⟩) 1 1) 1 [.string nm] ?_ ?_ ?_ ?_ ?_ ?_ ?_
               · simp [Act.eval, Act.put]; done
               · exact hown5
               · simp [Act.eval, Act.put]; done
               · exact (own_drew ((own_new (W.alloc _) #[.string nm] 0 1 _ (by simp) (Nat.zero_le _) rfl (by unfold maxLen; omega)))).kept hgrow5 (.inr (by simp [Value.ownBlock]))
               · simp [Value.oneCell']
               · unfold maxLen; omega
               · omega
               · exact (‹Below W.heap.size W _ ∧ _›).1.size
               intro v8 w8 hown8 hgrow8 hbel8
               have hB8 : Below W.heap.size W w8 := (‹Below W.heap.size W _ ∧ _›).1.trans hbel8)
            | (refine step_app_row rfl (.tmp 56) (.tmp 58) 23 rfl W.heap.size 9 i0 (.string ByteArray.empty) 16 Tryd.underlying23 hi hz0 hz1 hz4 rfl v5 (0 + l.length) ([] ++ l.map .string) ?_ ?_ 0 (.slice (some ⟨W.heap.size, 0, none⟩) 1 1) 1 [.string nm] ?_ ?_ ?_ ?_ ?_ ?_ ?_
               · simp [Act.eval, Act.put]; done
               · exact hown5
               · simp [Act.eval, Act.put]; done
               · exact (own_drew ((own_new W #[.string nm] 0 1 _ rfl (Nat.zero_le _) rfl (by unfold maxLen; omega)).alloc _)).kept hgrow5 (.inr (by simp [Value.ownBlock]))
               · simp [Value.oneCell']
               · unfold maxLen; omega
               · omega
               · exact (‹Below W.heap.size W _ ∧ _›).1.size
               intro v8 w8 hown8 hgrow8 hbel8
               have hB8 : Below W.heap.size W w8 := (‹Below W.heap.size W _ ∧ _›).1.trans hbel8)
            | (go_at_call 13; refine (same_eq _ _ _ (l ++ [nm]) (sl_n (own_below HP3.out hB8) hn3 rfl) (sl_n hown8 (by simp) (by simp)) (by rw [hn3, HN4.out]; omega)).mono ?_; rintro e w9 ⟨rfl, k9, rfl⟩))
        all_goals
          have hq : ∀ z, Below W.heap.size W (w8.drewN z) := fun z => belowN hB8 z
          have k1 : ∀ z, (w8.drewN z).cell? ⟨w3.heap.size, 0, none⟩ = some (.bool abs) := fun z => by rw [(hq z).cell (p := ⟨w3.heap.size, 0, none⟩) hl3]; exact heap_cell hc1 0
          have k2 : ∀ z, (w8.drewN z).cell? ⟨w3.heap.size, 2, none⟩ = some (.bool false) := fun z => by rw [(hq z).cell (p := ⟨w3.heap.size, 2, none⟩) hl3]; exact heap_cell hc1 2
          have k3 : ∀ z, (w8.drewN z).cell? ⟨w2.heap.size, 0, none⟩ = some (.bool abs) := fun z => by rw [(hq z).cell (p := ⟨w2.heap.size, 0, none⟩) hl2]; exact heap_cell hc2 0
          have HB9 := Lib.hid (fun z => hb3.trans ((hq z).mono hb3.size))
          clear hq hc1 hc2 KP hgrow8 hown8 hgrow5 hown5 hbel5 hbel8 hB8 hB5
          go_wp2_with fail
          refine (base_any j kt it HKT.out HIT.out _ (by omega)).mono ?_
          rintro e w10 ⟨he, q, rfl⟩
          rw [HBa.out kt it HKT.out HIT.out] at he
          subst he
          go_wp2
          go_ret
          exact ⟨rfl, HB9.out _⟩
    · have hnm' : nameB nm = false := by simpa using hnm
      go_wp2_with (go_at_call 16; refine (name_any _ _).mono ?_; rintro e w' ⟨he, rfl⟩; rw [hnm'] at he; subst he)
      go_ret
      exact ⟨rfl, HB2.out.alloc HB2.out.size _⟩
  · have he1 : (err == 0) = false := by simpa using he
    go_wp2_with (go_at_call 16; refine (name_any _ _).mono ?_; rintro e w' ⟨he, rfl⟩)
    go_ret
    exact ⟨rfl, HB2.out.alloc HB2.out.size _⟩
end Go.Proofs.YtinmdegmnepheaaDoor
