/-
  DERIVED: THE SHELF's CONTRACTS AT THIS DUMP, IN PLAIN WORDS (tools/lay-plain.mjs out of 'TryIterLay.lean', which tools/lay-shelf.mjs wrote): THE SAME DECLARATIONS UNDER THE SAME NAMES: 'import', 'namespace', 'open', 'def', 'theorem' AND NOTHING ELSE: no command of the shelf's: FOR A HAND-IN. Each laying: the table of numbers ('.._ren') and one theorem, a field a fact of the dump's own or the kernel's comparison; each contract: ONE APPLICATION.
-/
import Derived.Shelf.SlIter.Nil
import Derived.Shelf.SortM.Plain
import Derived.Shelf.SortM.SortNone
import Derived.Test.YtafonmnfeibaiaaProg
namespace Go.Proofs
open Go.Shelf
def Try.keys55_ren : Go.Shelf.Ren := ⟨fun | 7 => 55 | 10 => 81 | n => n, fun | 23 => 84 | 26 => 9 | 3 => 3 | 28 => 103 | 0 => 0 | 27 => 102 | 33 => 29 | 4 => 4 | n => n, fun | n => n⟩
theorem Try.keys55 : Go.Proofs.SlLaysZ.n7 Try.prog Try.keys55_ren := {
  mixed := by kernel_rfl
  f7 := ⟨Try.f55.name, by decide, Try.func55.trans (congrArg some (by kernel_rfl))⟩
  f10 := ⟨Try.f81.name, by decide, Try.func81.trans (congrArg some (by kernel_rfl))⟩
  t0 := Try.underlying0
  a0 := Try.isAgg0
  z0 := Try.sizeOf0
  v0 := Try.zeroValue0
  t4 := Try.underlying4
  a4 := Try.isAgg4
  z4 := Try.sizeOf4
  v4 := Try.zeroValue4
  t23 := Try.underlying84
  a23 := Try.isAgg84
  z23 := Try.sizeOf84
  v23 := Try.zeroValue84
  t26 := Try.underlying9
  a26 := Try.isAgg9
  z26 := Try.sizeOf9
  v26 := Try.zeroValue9
  t27 := Try.underlying102
  a27 := Try.isAgg102
  z27 := Try.sizeOf102
  v27 := Try.zeroValue102
  t28 := Try.underlying103
  a28 := Try.isAgg103
  z28 := Try.sizeOf103
  v28 := Try.zeroValue103
  t33 := Try.underlying29
  a33 := Try.isAgg29
  z33 := Try.sizeOf29
  v33 := Try.zeroValue29 }
def Try.sorted54_ren : Go.Shelf.Ren := ⟨fun | 6 => 54 | 8 => 79 | 9 => 80 | 11 => 94 | 13 => 96 | 12 => 95 | 23 => 114 | 24 => 115 | 14 => 105 | 15 => 106 | 16 => 107 | 17 => 108 | 18 => 109 | 19 => 110 | 20 => 111 | 21 => 112 | 22 => 113 | 25 => 119 | 26 => 120 | 27 => 121 | 28 => 122 | 29 => 123 | 30 => 124 | 31 => 125 | n => n, fun | 26 => 9 | 28 => 103 | 24 => 22 | 0 => 0 | 3 => 3 | 37 => 129 | 48 => 143 | 50 => 145 | 4 => 4 | 40 => 138 | 39 => 137 | 45 => 52 | 5 => 5 | 9 => 9 | 51 => 148 | 55 => 152 | 57 => 154 | 58 => 155 | 33 => 29 | n => n, fun | n => n⟩
theorem Try.sorted54 : Go.Proofs.SlLaysZ.n6 Try.prog Try.sorted54_ren := {
  mixed := by kernel_rfl
  f6 := ⟨Try.f54.name, by decide, Try.func54.trans (congrArg some (by kernel_rfl))⟩
  f8 := ⟨Try.f79.name, by decide, Try.func79.trans (congrArg some (by kernel_rfl))⟩
  f11 := ⟨Try.f94.name, by decide, Try.func94.trans (congrArg some (by kernel_rfl))⟩
  t0 := Try.underlying0
  a0 := Try.isAgg0
  z0 := Try.sizeOf0
  v0 := Try.zeroValue0
  t24 := Try.underlying22
  a24 := Try.isAgg22
  z24 := Try.sizeOf22
  v24 := Try.zeroValue22
  t26 := Try.underlying9
  a26 := Try.isAgg9
  z26 := Try.sizeOf9
  v26 := Try.zeroValue9
  t28 := Try.underlying103
  a28 := Try.isAgg103
  z28 := Try.sizeOf103
  v28 := Try.zeroValue103
  i26 := by kernel_rfl }
def Try.sort80_ren : Go.Shelf.Ren := ⟨fun | 6 => 80 | 8 => 96 | 9 => 95 | 19 => 114 | 20 => 115 | 21 => 105 | 22 => 106 | 23 => 107 | 24 => 108 | 25 => 109 | 26 => 110 | 27 => 111 | 28 => 112 | 29 => 113 | 36 => 119 | 31 => 120 | 32 => 121 | 37 => 122 | 38 => 123 | 39 => 124 | 41 => 125 | n => n, fun | 27 => 22 | 29 => 9 | 3 => 3 | 32 => 129 | 26 => 22 | 0 => 0 | 44 => 143 | 46 => 145 | 4 => 4 | 36 => 138 | 35 => 137 | 41 => 52 | 5 => 5 | 9 => 9 | 53 => 148 | 57 => 152 | 63 => 154 | 64 => 155 | n => n, fun | n => n⟩
theorem Try.sort80 : Go.Proofs.SlLaysM.n6 Try.prog Try.sort80_ren := {
  mixed := by kernel_rfl
  f6 := ⟨Try.f80.name, by decide, Try.func80.trans (congrArg some (by kernel_rfl))⟩
  f8 := Try.func96.trans (congrArg some (by kernel_rfl))
  f9 := ⟨Try.f95.name, by decide, Try.func95.trans (congrArg some (by kernel_rfl))⟩
  f19 := Try.func114.trans (congrArg some (by kernel_rfl))
  f20 := Try.func115.trans (congrArg some (by kernel_rfl))
  f21 := ⟨Try.f105.name, by decide, Try.func105.trans (congrArg some (by kernel_rfl))⟩
  f22 := ⟨Try.f106.name, by decide, Try.func106.trans (congrArg some (by kernel_rfl))⟩
  f23 := ⟨Try.f107.name, by decide, Try.func107.trans (congrArg some (by kernel_rfl))⟩
  f24 := ⟨Try.f108.name, by decide, Try.func108.trans (congrArg some (by kernel_rfl))⟩
  f25 := ⟨Try.f109.name, by decide, Try.func109.trans (congrArg some (by kernel_rfl))⟩
  f26 := ⟨Try.f110.name, by decide, Try.func110.trans (congrArg some (by kernel_rfl))⟩
  f27 := ⟨Try.f111.name, by decide, Try.func111.trans (congrArg some (by kernel_rfl))⟩
  f28 := ⟨Try.f112.name, by decide, Try.func112.trans (congrArg some (by kernel_rfl))⟩
  f29 := ⟨Try.f113.name, by decide, Try.func113.trans (congrArg some (by kernel_rfl))⟩
  f31 := Try.func120.trans (congrArg some (by kernel_rfl))
  f32 := Try.func121.trans (congrArg some (by kernel_rfl))
  f36 := ⟨Try.f119.name, by decide, Try.func119.trans (congrArg some (by kernel_rfl))⟩
  f37 := ⟨Try.f122.name, by decide, Try.func122.trans (congrArg some (by kernel_rfl))⟩
  f38 := ⟨Try.f123.name, by decide, Try.func123.trans (congrArg some (by kernel_rfl))⟩
  f39 := ⟨Try.f124.name, by decide, Try.func124.trans (congrArg some (by kernel_rfl))⟩
  f41 := ⟨Try.f125.name, by decide, Try.func125.trans (congrArg some (by kernel_rfl))⟩
  t0 := Try.underlying0
  a0 := Try.isAgg0
  z0 := Try.sizeOf0
  v0 := Try.zeroValue0
  t3 := Try.underlying3
  a3 := Try.isAgg3
  z3 := Try.sizeOf3
  v3 := Try.zeroValue3
  t4 := Try.underlying4
  a4 := Try.isAgg4
  z4 := Try.sizeOf4
  v4 := Try.zeroValue4
  t5 := Try.underlying5
  a5 := Try.isAgg5
  z5 := Try.sizeOf5
  v5 := Try.zeroValue5
  t9 := Try.underlying9
  a9 := Try.isAgg9
  z9 := Try.sizeOf9
  v9 := Try.zeroValue9
  t26 := Try.underlying22
  a26 := Try.isAgg22
  z26 := Try.sizeOf22
  v26 := Try.zeroValue22
  t27 := Try.underlying22
  a27 := Try.isAgg22
  z27 := Try.sizeOf22
  v27 := Try.zeroValue22
  t29 := Try.underlying9
  a29 := Try.isAgg9
  z29 := Try.sizeOf9
  v29 := Try.zeroValue9
  t32 := Try.underlying129
  a32 := Try.isAgg129
  z32 := Try.sizeOf129
  v32 := Try.zeroValue129
  t35 := Try.underlying137
  a35 := Try.isAgg137
  z35 := Try.sizeOf137
  v35 := Try.zeroValue137
  t36 := Try.underlying138
  a36 := Try.isAgg138
  z36 := Try.sizeOf138
  v36 := Try.zeroValue138
  t41 := Try.underlying52
  a41 := Try.isAgg52
  z41 := Try.sizeOf52
  v41 := Try.zeroValue52
  t44 := Try.underlying143
  a44 := Try.isAgg143
  z44 := Try.sizeOf143
  v44 := Try.zeroValue143
  t46 := Try.underlying145
  a46 := Try.isAgg145
  z46 := Try.sizeOf145
  v46 := Try.zeroValue145
  t53 := Try.underlying148
  a53 := Try.isAgg148
  z53 := Try.sizeOf148
  v53 := Try.zeroValue148
  t57 := Try.underlying152
  a57 := Try.isAgg152
  z57 := Try.sizeOf152
  v57 := Try.zeroValue152
  t63 := Try.underlying154
  a63 := Try.isAgg154
  z63 := Try.sizeOf154
  v63 := Try.zeroValue154
  t64 := Try.underlying155
  a64 := Try.isAgg155
  z64 := Try.sizeOf155
  v64 := Try.zeroValue155 }
open Go.RowKit Go.Maps Go.Sort Go.Shelf


/-- slices.Sort's two contracts at this dump, at the fence that asks nothing. -/
theorem Try.sorts54 (m : Nat) : AnyZ.SortsIn Try.prog Try.sorted54_ren Fence.wide m :=
  ⟨fun blk off cap ss W hH hblk hsz => callsIn_wide.2 (AnyM.slices_Sort_string Try.sort80 blk off cap ss W hH hblk hsz),
   fun p cap W => callsIn_wide.2 (AnyM.slices_Sort_string_none Try.sort80 p cap W)⟩

/-- maps.Keys[map[string]int,string,int], at whatever map, the nil one too: a function value over ONE NEW BLOCK, which holds the map. -/
theorem Try.maps_Keys_55 (mb : Option Nat) (W : World) : CallsIn Fence.wide 5 Try.prog 55 #[.map mb] W fun e w' => e = .returned (.func (.func 81) #[] #[.pointer (some ⟨W.heap.size, 0, none⟩)]) ∧ w' = W.alloc (.cells #[.map mb] 84) :=
  AnyZ.keys_in Try.keys55 Fence.wide 5 trivial rfl mb W

set_option maxHeartbeats 1000000 in
/-- slices.Sorted[string] AT WHAT maps.Keys[map[string]int,string,int] HANDED BACK FOR A MAP THAT IS NOT nil ('w': the world AHEAD of maps.Keys' call): A NEW SLICE THAT HOLDS THE MAP's KEYS, SORTED; nil just where it has none; nothing that lay before has turned. -/
theorem Try.slices_Sorted_keys_54_55 {H : Type} (b nn : Nat) (D0 : DataW H) (R : Value → Option (DataW H × List MemPlace)) (w : World) (hown : w.ownsMap Try.prog 9 R b nn D0) (hmax : Maps.size D0 ≤ maxLen) (hbytes : Maps.size D0 * 16 ≤ 140737488355328) :
    CallsIn Fence.wide 5 Try.prog 54 #[.func (.func 81) #[] #[.pointer (some ⟨w.heap.size, 0, none⟩)]] (w.alloc (.cells #[.map (some b)] 84)) fun e w' => ∃ (v : Value) (ss : List (List UInt8)), e = .returned v ∧ ss.Perm (strKeys D0) ∧
      w'.ownsRow (w.alloc (.cells #[.map (some b)] 84)).heap.size 9 1 v ss.length ((ss.mergeSort (fun x y => decide (x ≤ y))).map encStr) ∧ (v = .slice none 0 0 ↔ ss = []) ∧ Below (w.alloc (.cells #[.map (some b)] 84)).heap.size (w.alloc (.cells #[.map (some b)] 84)) w' := by
  have hbl := hown.lt
  have hseq : SeqGives Fence.wide 2 Try.prog 81 #[.pointer (some ⟨w.heap.size, 0, none⟩)] encStr (fun ss => ss.Perm (strKeys D0)) (Maps.size D0) (w.alloc (.cells #[.map (some b)] 84)) :=
    AnyZ.keys_gives (ρ := Try.keys55_ren) { Try.keys55 with } Fence.wide _ trivial rfl (by omega) w.heap.size b nn D0 _ (by simp) (by simp) (by
      obtain ⟨es, clock, hb, Ft, hs, hD⟩ := hown
      exact ⟨es, clock, (Below.heap_alloc _ _ b hbl).trans hb, Ft, hs, hD⟩)
  exact AnyZ.sorted_in Try.sorted54 Fence.wide 5 trivial trivial trivial trivial rfl (by omega) (Try.sorts54 _) (enters_of Try.func80 (by kernel_rfl) rfl) 81 #[.pointer (some ⟨w.heap.size, 0, none⟩)] trivial (enters_of Try.func81 (by kernel_rfl) rfl) _ _ hmax hbytes _ hseq

set_option maxHeartbeats 1000000 in
/-- .. AND FOR THE nil MAP: nil. -/
theorem Try.slices_Sorted_keys_nil_54_55 (w : World) :
    CallsIn Fence.wide 5 Try.prog 54 #[.func (.func 81) #[] #[.pointer (some ⟨w.heap.size, 0, none⟩)]] (w.alloc (.cells #[.map none] 84)) fun e w' => ∃ (v : Value) (ss : List (List UInt8)), e = .returned v ∧ ss = [] ∧
      w'.ownsRow (w.alloc (.cells #[.map none] 84)).heap.size 9 1 v ss.length ((ss.mergeSort (fun x y => decide (x ≤ y))).map encStr) ∧ (v = .slice none 0 0 ↔ ss = []) ∧ Below (w.alloc (.cells #[.map none] 84)).heap.size (w.alloc (.cells #[.map none] 84)) w' := by
  have hseq : SeqGives Fence.wide 2 Try.prog 81 #[.pointer (some ⟨w.heap.size, 0, none⟩)] encStr (fun ss : List (List UInt8) => ss = []) 0 (w.alloc (.cells #[.map none] 84)) :=
    AnyZ.keys_gives_nil (ρ := Try.keys55_ren) { Try.keys55 with } Fence.wide _ trivial rfl w.heap.size _ (by simp) (by simp)
  exact AnyZ.sorted_in Try.sorted54 Fence.wide 5 trivial trivial trivial trivial rfl (by omega) (Try.sorts54 _) (enters_of Try.func80 (by kernel_rfl) rfl) 81 #[.pointer (some ⟨w.heap.size, 0, none⟩)] trivial (enters_of Try.func81 (by kernel_rfl) rfl) _ 0 (Nat.zero_le _) (by omega) _ hseq



end Go.Proofs
