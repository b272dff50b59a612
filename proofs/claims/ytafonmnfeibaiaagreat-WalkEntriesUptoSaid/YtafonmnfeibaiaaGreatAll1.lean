/- Part 2 of the proof: contracts of functions that the statement reaches, and plain lemmas. -/
import Derived.Shelf.Small.Bits
import Derived.Shelf.Strconv.Itoa0
import Derived.Shelf.Strings.Search1
import Derived.Shelf.Strings.Search2
import Derived.Shelf.Strings.Search3
import Derived.Shelf.Strings.Cut
import Derived.Shelf.LaysM
import Derived.Shelf.Strings.Shaped
import Derived.Shelf.Strings.Prefix
import Derived.Shelf.Slices.In.SortNone
import Derived.Ground.SlgmProg
import Derived.Shelf.SortM.Plain
import Derived.Test.YtafonmnfeibaiaaGreatProg
import Derived.Shelf.SlIter.Nil
import Derived.Shelf.SortM.SortNone
import Derived.WalkKit
import Derived.Below
import Derived.OwnWalk
import Derived.RangeFuncRecord
import Derived.Maps.Range
import Derived.Test.YtafonmnfeibaiaaGreatAll0
import Derived.Lib.IndexAny
import Derived.WalkLawsBesides
import Derived.WalkSpells
import Derived.Outline
import Derived.Lib.Hide
import Derived.StillTailTactics
import Derived.BigQuiet
import Derived.RegionTactic
import Derived.BigRegion
import Derived.ChangeAlike
import Derived.Deep.QuietTactic
import Derived.Laws.OwnMore
import Derived.Deep.MidRow
import Derived.Deep.LoopGhost
import Derived.Laws.BitsLemmas
import Derived.Laws.ResultCell
import Derived.LaidEqlPtr
import Derived.Lib.Builder
set_option linter.all false
set_option maxRecDepth 100000
set_option maxHeartbeats 100000000
namespace Go.Proofs
open Go.Shelf
def Tryz.lays128_ren : Go.Shelf.Ren := ⟨fun | 128 => 139 | n => n, fun | 51 => 169 | 3 => 3 | 4 => 4 | 46 => 127 | 5 => 5 | 9 => 9 | n => n, fun | n => n⟩
def Tryz.lays125_ren : Go.Shelf.Ren := ⟨fun | 125 => 116 | 128 => 139 | 129 => 140 | n => n, fun | 46 => 127 | 3 => 3 | 51 => 169 | 53 => 171 | 4 => 4 | 5 => 5 | 9 => 9 | n => n, fun | n => n⟩
def Tryz.lays129_ren : Go.Shelf.Ren := ⟨fun | 129 => 140 | n => n, fun | 53 => 171 | 3 => 3 | 4 => 4 | 46 => 127 | 5 => 5 | 9 => 9 | n => n, fun | n => n⟩
def Tryz.lays217_ren : Go.Shelf.Ren := ⟨fun | 217 => 126 | 266 => 141 | n => n, fun | 9 => 9 | 5 => 5 | 3 => 3 | n => n, fun | n => n⟩
def Tryz.lays224_ren : Go.Shelf.Ren := ⟨fun | 224 => 128 | n => n, fun | 3 => 3 | n => n, fun | n => n⟩
def Tryz.lays314_ren : Go.Shelf.Ren := ⟨fun | 314 => 142 | n => n, fun | 9 => 9 | 51 => 169 | 3 => 3 | 4 => 4 | 5 => 5 | 46 => 127 | n => n, fun | n => n⟩
def Tryz.lays267_ren : Go.Shelf.Ren := ⟨fun | 267 => 129 | 314 => 142 | n => n, fun | 9 => 9 | 3 => 3 | 146 => 172 | 51 => 169 | 4 => 4 | 5 => 5 | 46 => 127 | n => n, fun | n => n⟩
def Tryz.lays219_ren : Go.Shelf.Ren := ⟨fun | 219 => 113 | 217 => 126 | 225 => 127 | 224 => 128 | 267 => 129 | 266 => 141 | 314 => 142 | n => n, fun | 9 => 9 | 3 => 3 | 4 => 4 | 5 => 5 | 46 => 127 | 146 => 172 | 51 => 169 | n => n, fun | 1 => 0 | n => n⟩
theorem Tryz.lays219 : Go.Proofs.Lays.n219 Tryz.prog Tryz.lays219_ren := {
 mixed := by kernel_rfl
 f217 := Tryz.func126.trans (congrArg some (by kernel_rfl))
 f219 := Tryz.func113.trans (congrArg some (by kernel_rfl))
 f224 := Tryz.func128.trans (congrArg some (by kernel_rfl))
 f225 := Tryz.func127.trans (congrArg some (by kernel_rfl))
 f266 := Tryz.func141.trans (congrArg some (by kernel_rfl))
 f267 := Tryz.func129.trans (congrArg some (by kernel_rfl))
 f314 := Tryz.func142.trans (congrArg some (by kernel_rfl))
 t3 := Tryz.underlying3
 a3 := Tryz.isAgg3
 z3 := Tryz.sizeOf3
 v3 := Tryz.zeroValue3
 t4 := Tryz.underlying4
 a4 := Tryz.isAgg4
 z4 := Tryz.sizeOf4
 v4 := Tryz.zeroValue4
 t5 := Tryz.underlying5
 a5 := Tryz.isAgg5
 z5 := Tryz.sizeOf5
 v5 := Tryz.zeroValue5
 t9 := Tryz.underlying9
 a9 := Tryz.isAgg9
 z9 := Tryz.sizeOf9
 v9 := Tryz.zeroValue9
 t46 := Tryz.underlying127
 a46 := Tryz.isAgg127
 z46 := Tryz.sizeOf127
 v46 := Tryz.zeroValue127
 t51 := Tryz.underlying169
 a51 := Tryz.isAgg169
 z51 := Tryz.sizeOf169
 v51 := Tryz.zeroValue169
 t146 := Tryz.underlying172
 a146 := Tryz.isAgg172
 z146 := Tryz.sizeOf172
 v146 := Tryz.zeroValue172
 g1 := by kernel_rfl }
open Go.RowKit Go.Lib in
theorem Tryz.stringslite_Index_one (s : ByteArray) (c : UInt8) (w : World) :
  Calls Tryz.prog 113 #[.string s, .string ⟨#[c]⟩] w fun e w' => e = .returned (.int .i64 (Lib.indexByte s.data.toList c)) ∧ w' = w := Any.stringslite_Index_one Tryz.lays219 s c w
def Tryz.lays143_ren : Go.Shelf.Ren := ⟨fun | 143 => 83 | 219 => 113 | 217 => 126 | 225 => 127 | 224 => 128 | 267 => 129 | 266 => 141 | 314 => 142 | n => n, fun | 9 => 9 | 3 => 3 | 4 => 4 | 5 => 5 | 46 => 127 | 146 => 172 | 51 => 169 | n => n, fun | 1 => 0 | n => n⟩
def Tryz.lays144_ren : Go.Shelf.Ren := ⟨fun | 144 => 48 | 143 => 83 | 219 => 113 | 217 => 126 | 225 => 127 | 224 => 128 | 267 => 129 | 266 => 141 | 314 => 142 | n => n, fun | 9 => 9 | 4 => 4 | 3 => 3 | 5 => 5 | 46 => 127 | 146 => 172 | 51 => 169 | n => n, fun | 1 => 0 | n => n⟩
theorem Tryz.lays144 : Go.Proofs.Lays.n144 Tryz.prog Tryz.lays144_ren := {
 mixed := by kernel_rfl
 f143 := Tryz.func83.trans (congrArg some (by kernel_rfl))
 f144 := Tryz.func48.trans (congrArg some (by kernel_rfl))
 f217 := Tryz.func126.trans (congrArg some (by kernel_rfl))
 f219 := Tryz.func113.trans (congrArg some (by kernel_rfl))
 f224 := Tryz.func128.trans (congrArg some (by kernel_rfl))
 f225 := Tryz.func127.trans (congrArg some (by kernel_rfl))
 f266 := Tryz.func141.trans (congrArg some (by kernel_rfl))
 f267 := Tryz.func129.trans (congrArg some (by kernel_rfl))
 f314 := Tryz.func142.trans (congrArg some (by kernel_rfl))
 t3 := Tryz.underlying3
 a3 := Tryz.isAgg3
 z3 := Tryz.sizeOf3
 v3 := Tryz.zeroValue3
 t4 := Tryz.underlying4
 a4 := Tryz.isAgg4
 z4 := Tryz.sizeOf4
 v4 := Tryz.zeroValue4
 t5 := Tryz.underlying5
 a5 := Tryz.isAgg5
 z5 := Tryz.sizeOf5
 v5 := Tryz.zeroValue5
 t9 := Tryz.underlying9
 a9 := Tryz.isAgg9
 z9 := Tryz.sizeOf9
 v9 := Tryz.zeroValue9
 t46 := Tryz.underlying127
 a46 := Tryz.isAgg127
 z46 := Tryz.sizeOf127
 v46 := Tryz.zeroValue127
 t51 := Tryz.underlying169
 a51 := Tryz.isAgg169
 z51 := Tryz.sizeOf169
 v51 := Tryz.zeroValue169
 t146 := Tryz.underlying172
 a146 := Tryz.isAgg172
 z146 := Tryz.sizeOf172
 v146 := Tryz.zeroValue172
 g1 := by kernel_rfl }
open Go.RowKit Go.Lib in
theorem Tryz.strings_Contains_one (s : ByteArray) (c : UInt8) (w : World) :
  Calls Tryz.prog 48 #[.string s, .string ⟨#[c]⟩] w fun e w' => e = .returned (.bool (decide (0 ≤ Lib.indexByte s.data.toList c))) ∧ w' = w := Any.strings_Contains_one Tryz.lays144 s c w
def Tryz.lays220_ren : Go.Shelf.Ren := ⟨fun | 220 => 125 | 219 => 113 | 217 => 126 | 225 => 127 | 224 => 128 | 267 => 129 | 266 => 141 | 314 => 142 | n => n, fun | 9 => 9 | 4 => 4 | 3 => 3 | 5 => 5 | 46 => 127 | 146 => 172 | 51 => 169 | n => n, fun | 1 => 0 | n => n⟩
def Tryz.lays145_ren : Go.Shelf.Ren := ⟨fun | 145 => 111 | 220 => 125 | 219 => 113 | 217 => 126 | 225 => 127 | 224 => 128 | 267 => 129 | 266 => 141 | 314 => 142 | n => n, fun | 9 => 9 | 4 => 4 | 59 => 149 | 3 => 3 | 5 => 5 | 46 => 127 | 146 => 172 | 51 => 169 | n => n, fun | 1 => 0 | n => n⟩
def Tryz.laysM219_ren : Go.Shelf.Ren := ⟨fun | 219 => 113 | 217 => 126 | 225 => 127 | 224 => 128 | 267 => 129 | 266 => 141 | 314 => 142 | n => n, fun | 9 => 9 | 3 => 3 | 4 => 4 | 5 => 5 | 46 => 127 | 146 => 172 | 51 => 169 | n => n, fun | 1 => 0 | n => n⟩
def Tryz.laysM143_ren : Go.Shelf.Ren := ⟨fun | 143 => 83 | 219 => 113 | 217 => 126 | 225 => 127 | 224 => 128 | 267 => 129 | 266 => 141 | 314 => 142 | n => n, fun | 9 => 9 | 3 => 3 | 4 => 4 | 5 => 5 | 46 => 127 | 146 => 172 | 51 => 169 | n => n, fun | 1 => 0 | n => n⟩
def Tryz.laysM144_ren : Go.Shelf.Ren := ⟨fun | 144 => 48 | 143 => 83 | 219 => 113 | 217 => 126 | 225 => 127 | 224 => 128 | 267 => 129 | 266 => 141 | 314 => 142 | n => n, fun | 9 => 9 | 4 => 4 | 3 => 3 | 5 => 5 | 46 => 127 | 146 => 172 | 51 => 169 | n => n, fun | 1 => 0 | n => n⟩
def Tryz.laysM220_ren : Go.Shelf.Ren := ⟨fun | 220 => 125 | 219 => 113 | 217 => 126 | 225 => 127 | 224 => 128 | 267 => 129 | 266 => 141 | 314 => 142 | n => n, fun | 9 => 9 | 4 => 4 | 3 => 3 | 5 => 5 | 46 => 127 | 146 => 172 | 51 => 169 | n => n, fun | 1 => 0 | n => n⟩
def Tryz.laysM145_ren : Go.Shelf.Ren := ⟨fun | 145 => 111 | 220 => 125 | 219 => 113 | 217 => 126 | 225 => 127 | 224 => 128 | 267 => 129 | 266 => 141 | 314 => 142 | n => n, fun | 9 => 9 | 4 => 4 | 59 => 149 | 3 => 3 | 5 => 5 | 46 => 127 | 146 => 172 | 51 => 169 | n => n, fun | 1 => 0 | n => n⟩
def Tryz.lays206_ren : Go.Shelf.Ren := ⟨fun | 206 => 108 | n => n, fun | 9 => 9 | 4 => 4 | 3 => 3 | n => n, fun | n => n⟩
def Tryz.lays99_ren : Go.Shelf.Ren := ⟨fun | 99 => 73 | 206 => 108 | n => n, fun | 9 => 9 | 4 => 4 | 3 => 3 | n => n, fun | n => n⟩
theorem Tryz.lays99 : Go.Proofs.Lays.n99 Tryz.prog Tryz.lays99_ren := {
 mixed := by kernel_rfl
 f99 := Tryz.func73.trans (congrArg some (by kernel_rfl))
 f206 := Tryz.func108.trans (congrArg some (by kernel_rfl))
 t3 := Tryz.underlying3
 a3 := Tryz.isAgg3
 z3 := Tryz.sizeOf3
 v3 := Tryz.zeroValue3
 t4 := Tryz.underlying4
 a4 := Tryz.isAgg4
 z4 := Tryz.sizeOf4
 v4 := Tryz.zeroValue4
 t9 := Tryz.underlying9
 a9 := Tryz.isAgg9
 z9 := Tryz.sizeOf9
 v9 := Tryz.zeroValue9 }
open Go.RowKit Go.Lib in
theorem Tryz.strings_HasPrefix (s p : ByteArray) (w : World) :
  Calls Tryz.prog 73 #[.string s, .string p] w fun e w' => e = .returned (.bool (Lib.hasPrefix s.data.toList p.data.toList)) ∧ w' = w := Any.strings_HasPrefix Tryz.lays99 s p w
def Tryz.lays207_ren : Go.Shelf.Ren := ⟨fun | 207 => 109 | n => n, fun | 9 => 9 | 4 => 4 | 3 => 3 | n => n, fun | n => n⟩
def Tryz.lays100_ren : Go.Shelf.Ren := ⟨fun | 100 => 74 | 207 => 109 | n => n, fun | 9 => 9 | 4 => 4 | 3 => 3 | n => n, fun | n => n⟩
theorem Tryz.lays100 : Go.Proofs.Lays.n100 Tryz.prog Tryz.lays100_ren := {
 mixed := by kernel_rfl
 f100 := Tryz.func74.trans (congrArg some (by kernel_rfl))
 f207 := Tryz.func109.trans (congrArg some (by kernel_rfl))
 t3 := Tryz.underlying3
 a3 := Tryz.isAgg3
 z3 := Tryz.sizeOf3
 v3 := Tryz.zeroValue3
 t4 := Tryz.underlying4
 a4 := Tryz.isAgg4
 z4 := Tryz.sizeOf4
 v4 := Tryz.zeroValue4
 t9 := Tryz.underlying9
 a9 := Tryz.isAgg9
 z9 := Tryz.sizeOf9
 v9 := Tryz.zeroValue9 }
open Go.RowKit Go.Lib in
theorem Tryz.strings_HasSuffix (s p : ByteArray) (w : World) (hs : s.size ≤ 9223372036854775807) :
  Calls Tryz.prog 74 #[.string s, .string p] w fun e w' => e = .returned (.bool (Lib.hasSuffix s.data.toList p.data.toList)) ∧ w' = w := Any.strings_HasSuffix Tryz.lays100 s p w hs
def Tryz.lays190_ren : Go.Shelf.Ren := ⟨fun | 190 => 87 | 125 => 116 | 258 => 115 | 128 => 139 | 129 => 140 | 302 => 130 | 303 => 131 | 304 => 132 | 305 => 133 | 306 => 134 | 307 => 135 | 308 => 136 | 309 => 137 | 310 => 138 | 333 => 143 | 329 => 144 | 330 => 145 | 334 => 146 | 335 => 147 | 336 => 148 | 344 => 149 | n => n, fun | 31 => 52 | 9 => 9 | 3 => 3 | 46 => 127 | 0 => 0 | 51 => 169 | 53 => 171 | 4 => 4 | 183 => 163 | 182 => 162 | 131 => 38 | 5 => 5 | 218 => 174 | 222 => 178 | 228 => 180 | 229 => 181 | n => n, fun | n => n⟩
theorem Tryz.lays190 : Go.Proofs.Lays.n190 Tryz.prog Tryz.lays190_ren := {
 mixed := by kernel_rfl
 f125 := Tryz.func116.trans (congrArg some (by kernel_rfl))
 f128 := Tryz.func139.trans (congrArg some (by kernel_rfl))
 f129 := Tryz.func140.trans (congrArg some (by kernel_rfl))
 f190 := Tryz.func87.trans (congrArg some (by kernel_rfl))
 f258 := Tryz.func115.trans (congrArg some (by kernel_rfl))
 f302 := Tryz.func130.trans (congrArg some (by kernel_rfl))
 f303 := Tryz.func131.trans (congrArg some (by kernel_rfl))
 f304 := Tryz.func132.trans (congrArg some (by kernel_rfl))
 f305 := Tryz.func133.trans (congrArg some (by kernel_rfl))
 f306 := Tryz.func134.trans (congrArg some (by kernel_rfl))
 f307 := Tryz.func135.trans (congrArg some (by kernel_rfl))
 f308 := Tryz.func136.trans (congrArg some (by kernel_rfl))
 f309 := Tryz.func137.trans (congrArg some (by kernel_rfl))
 f310 := Tryz.func138.trans (congrArg some (by kernel_rfl))
 f329 := Tryz.func144.trans (congrArg some (by kernel_rfl))
 f330 := Tryz.func145.trans (congrArg some (by kernel_rfl))
 f333 := Tryz.func143.trans (congrArg some (by kernel_rfl))
 f334 := Tryz.func146.trans (congrArg some (by kernel_rfl))
 f335 := Tryz.func147.trans (congrArg some (by kernel_rfl))
 f336 := Tryz.func148.trans (congrArg some (by kernel_rfl))
 f344 := Tryz.func149.trans (congrArg some (by kernel_rfl))
 t0 := Tryz.underlying0
 a0 := Tryz.isAgg0
 z0 := Tryz.sizeOf0
 v0 := Tryz.zeroValue0
 t3 := Tryz.underlying3
 a3 := Tryz.isAgg3
 z3 := Tryz.sizeOf3
 v3 := Tryz.zeroValue3
 t4 := Tryz.underlying4
 a4 := Tryz.isAgg4
 z4 := Tryz.sizeOf4
 v4 := Tryz.zeroValue4
 t5 := Tryz.underlying5
 a5 := Tryz.isAgg5
 z5 := Tryz.sizeOf5
 v5 := Tryz.zeroValue5
 t9 := Tryz.underlying9
 a9 := Tryz.isAgg9
 z9 := Tryz.sizeOf9
 v9 := Tryz.zeroValue9
 t31 := Tryz.underlying52
 a31 := Tryz.isAgg52
 z31 := Tryz.sizeOf52
 v31 := Tryz.zeroValue52
 t46 := Tryz.underlying127
 a46 := Tryz.isAgg127
 z46 := Tryz.sizeOf127
 v46 := Tryz.zeroValue127
 t51 := Tryz.underlying169
 a51 := Tryz.isAgg169
 z51 := Tryz.sizeOf169
 v51 := Tryz.zeroValue169
 t53 := Tryz.underlying171
 a53 := Tryz.isAgg171
 z53 := Tryz.sizeOf171
 v53 := Tryz.zeroValue171
 t131 := Tryz.underlying38
 a131 := Tryz.isAgg38
 z131 := Tryz.sizeOf38
 v131 := Tryz.zeroValue38
 t182 := Tryz.underlying162
 a182 := Tryz.isAgg162
 z182 := Tryz.sizeOf162
 v182 := Tryz.zeroValue162
 t183 := Tryz.underlying163
 a183 := Tryz.isAgg163
 z183 := Tryz.sizeOf163
 v183 := Tryz.zeroValue163
 t218 := Tryz.underlying174
 a218 := Tryz.isAgg174
 z218 := Tryz.sizeOf174
 v218 := Tryz.zeroValue174
 t222 := Tryz.underlying178
 a222 := Tryz.isAgg178
 z222 := Tryz.sizeOf178
 v222 := Tryz.zeroValue178
 t228 := Tryz.underlying180
 a228 := Tryz.isAgg180
 z228 := Tryz.sizeOf180
 v228 := Tryz.zeroValue180
 t229 := Tryz.underlying181
 a229 := Tryz.isAgg181
 z229 := Tryz.sizeOf181
 v229 := Tryz.zeroValue181 }
open Go.RowKit Go.Sort in
theorem Tryz.slices_Sort_string_none (p : Option Addr) (cap : Nat) (w : World) :
  Calls Tryz.prog 87 #[.slice p 0 cap] w fun e w' => e = .returned (.tuple #[]) ∧ w' = w := Any.slices_Sort_string_none Tryz.lays190 p cap w
def Tryz.laysSlM6_f87_ren : Go.Shelf.Ren := ⟨fun | 6 => 87 | 8 => 116 | 9 => 115 | 19 => 139 | 20 => 140 | 21 => 130 | 22 => 131 | 23 => 132 | 24 => 133 | 25 => 134 | 26 => 135 | 27 => 136 | 28 => 137 | 29 => 138 | 36 => 143 | 31 => 144 | 32 => 145 | 37 => 146 | 38 => 147 | 39 => 148 | 41 => 149 | n => n, fun | 27 => 52 | 29 => 9 | 3 => 3 | 32 => 127 | 26 => 52 | 0 => 0 | 44 => 169 | 46 => 171 | 4 => 4 | 36 => 163 | 35 => 162 | 41 => 38 | 5 => 5 | 9 => 9 | 53 => 174 | 57 => 178 | 63 => 180 | 64 => 181 | n => n, fun | n => n⟩
theorem Tryz.laysSlM6_f87 : Go.Proofs.SlLaysM.n6 Tryz.prog Tryz.laysSlM6_f87_ren := {
 mixed := by kernel_rfl
 f6 := ⟨Tryz.f87.name, by decide, Tryz.func87.trans (congrArg some (by kernel_rfl))⟩
 f8 := Tryz.func116.trans (congrArg some (by kernel_rfl))
 f9 := ⟨Tryz.f115.name, by decide, Tryz.func115.trans (congrArg some (by kernel_rfl))⟩
 f19 := Tryz.func139.trans (congrArg some (by kernel_rfl))
 f20 := Tryz.func140.trans (congrArg some (by kernel_rfl))
 f21 := ⟨Tryz.f130.name, by decide, Tryz.func130.trans (congrArg some (by kernel_rfl))⟩
 f22 := ⟨Tryz.f131.name, by decide, Tryz.func131.trans (congrArg some (by kernel_rfl))⟩
 f23 := ⟨Tryz.f132.name, by decide, Tryz.func132.trans (congrArg some (by kernel_rfl))⟩
 f24 := ⟨Tryz.f133.name, by decide, Tryz.func133.trans (congrArg some (by kernel_rfl))⟩
 f25 := ⟨Tryz.f134.name, by decide, Tryz.func134.trans (congrArg some (by kernel_rfl))⟩
 f26 := ⟨Tryz.f135.name, by decide, Tryz.func135.trans (congrArg some (by kernel_rfl))⟩
 f27 := ⟨Tryz.f136.name, by decide, Tryz.func136.trans (congrArg some (by kernel_rfl))⟩
 f28 := ⟨Tryz.f137.name, by decide, Tryz.func137.trans (congrArg some (by kernel_rfl))⟩
 f29 := ⟨Tryz.f138.name, by decide, Tryz.func138.trans (congrArg some (by kernel_rfl))⟩
 f31 := Tryz.func144.trans (congrArg some (by kernel_rfl))
 f32 := Tryz.func145.trans (congrArg some (by kernel_rfl))
 f36 := ⟨Tryz.f143.name, by decide, Tryz.func143.trans (congrArg some (by kernel_rfl))⟩
 f37 := ⟨Tryz.f146.name, by decide, Tryz.func146.trans (congrArg some (by kernel_rfl))⟩
 f38 := ⟨Tryz.f147.name, by decide, Tryz.func147.trans (congrArg some (by kernel_rfl))⟩
 f39 := ⟨Tryz.f148.name, by decide, Tryz.func148.trans (congrArg some (by kernel_rfl))⟩
 f41 := ⟨Tryz.f149.name, by decide, Tryz.func149.trans (congrArg some (by kernel_rfl))⟩
 t0 := Tryz.underlying0
 a0 := Tryz.isAgg0
 z0 := Tryz.sizeOf0
 v0 := Tryz.zeroValue0
 t3 := Tryz.underlying3
 a3 := Tryz.isAgg3
 z3 := Tryz.sizeOf3
 v3 := Tryz.zeroValue3
 t4 := Tryz.underlying4
 a4 := Tryz.isAgg4
 z4 := Tryz.sizeOf4
 v4 := Tryz.zeroValue4
 t5 := Tryz.underlying5
 a5 := Tryz.isAgg5
 z5 := Tryz.sizeOf5
 v5 := Tryz.zeroValue5
 t9 := Tryz.underlying9
 a9 := Tryz.isAgg9
 z9 := Tryz.sizeOf9
 v9 := Tryz.zeroValue9
 t26 := Tryz.underlying52
 a26 := Tryz.isAgg52
 z26 := Tryz.sizeOf52
 v26 := Tryz.zeroValue52
 t27 := Tryz.underlying52
 a27 := Tryz.isAgg52
 z27 := Tryz.sizeOf52
 v27 := Tryz.zeroValue52
 t29 := Tryz.underlying9
 a29 := Tryz.isAgg9
 z29 := Tryz.sizeOf9
 v29 := Tryz.zeroValue9
 t32 := Tryz.underlying127
 a32 := Tryz.isAgg127
 z32 := Tryz.sizeOf127
 v32 := Tryz.zeroValue127
 t35 := Tryz.underlying162
 a35 := Tryz.isAgg162
 z35 := Tryz.sizeOf162
 v35 := Tryz.zeroValue162
 t36 := Tryz.underlying163
 a36 := Tryz.isAgg163
 z36 := Tryz.sizeOf163
 v36 := Tryz.zeroValue163
 t41 := Tryz.underlying38
 a41 := Tryz.isAgg38
 z41 := Tryz.sizeOf38
 v41 := Tryz.zeroValue38
 t44 := Tryz.underlying169
 a44 := Tryz.isAgg169
 z44 := Tryz.sizeOf169
 v44 := Tryz.zeroValue169
 t46 := Tryz.underlying171
 a46 := Tryz.isAgg171
 z46 := Tryz.sizeOf171
 v46 := Tryz.zeroValue171
 t53 := Tryz.underlying174
 a53 := Tryz.isAgg174
 z53 := Tryz.sizeOf174
 v53 := Tryz.zeroValue174
 t57 := Tryz.underlying178
 a57 := Tryz.isAgg178
 z57 := Tryz.sizeOf178
 v57 := Tryz.zeroValue178
 t63 := Tryz.underlying180
 a63 := Tryz.isAgg180
 z63 := Tryz.sizeOf180
 v63 := Tryz.zeroValue180
 t64 := Tryz.underlying181
 a64 := Tryz.isAgg181
 z64 := Tryz.sizeOf181
 v64 := Tryz.zeroValue181 }
open Go.Sort Go.RowKit in
theorem Tryz.slices_Sort_string (blk off cap : Nat) (ss : List (List UInt8)) (w : World) (hH : Holds encStr w blk off ss.toArray) (hblk : blk < w.heap.size) (hsz : ss.length < 4611686018427387904) :
  Calls Tryz.prog 87 #[.slice (some ⟨blk, off, none⟩) ss.length cap] w fun e w' =>
   e = .returned (.tuple #[]) ∧ ∃ n os, w' = grow (putRow encStr (Sort.ahead w n) blk off (ss.mergeSort fun x y => decide (x ≤ y)).toArray) os := AnyM.slices_Sort_string Tryz.laysSlM6_f87 blk off cap ss w hH hblk hsz
end Go.Proofs
namespace Go.Proofs
open Go.Shelf
def Tryz.keys52_ren : Go.Shelf.Ren := ⟨fun | 7 => 52 | 10 => 88 | n => n, fun | 23 => 81 | 26 => 9 | 3 => 3 | 28 => 100 | 0 => 0 | 27 => 99 | 33 => 54 | 4 => 4 | n => n, fun | n => n⟩
theorem Tryz.keys52 : Go.Proofs.SlLaysZ.n7 Tryz.prog Tryz.keys52_ren := {
 mixed := by kernel_rfl
 f7 := ⟨Tryz.f52.name, by decide, Tryz.func52.trans (congrArg some (by kernel_rfl))⟩
 f10 := ⟨Tryz.f88.name, by decide, Tryz.func88.trans (congrArg some (by kernel_rfl))⟩
 t0 := Tryz.underlying0
 a0 := Tryz.isAgg0
 z0 := Tryz.sizeOf0
 v0 := Tryz.zeroValue0
 t4 := Tryz.underlying4
 a4 := Tryz.isAgg4
 z4 := Tryz.sizeOf4
 v4 := Tryz.zeroValue4
 t23 := Tryz.underlying81
 a23 := Tryz.isAgg81
 z23 := Tryz.sizeOf81
 v23 := Tryz.zeroValue81
 t26 := Tryz.underlying9
 a26 := Tryz.isAgg9
 z26 := Tryz.sizeOf9
 v26 := Tryz.zeroValue9
 t27 := Tryz.underlying99
 a27 := Tryz.isAgg99
 z27 := Tryz.sizeOf99
 v27 := Tryz.zeroValue99
 t28 := Tryz.underlying100
 a28 := Tryz.isAgg100
 z28 := Tryz.sizeOf100
 v28 := Tryz.zeroValue100
 t33 := Tryz.underlying54
 a33 := Tryz.isAgg54
 z33 := Tryz.sizeOf54
 v33 := Tryz.zeroValue54 }
def Tryz.sorted51_ren : Go.Shelf.Ren := ⟨fun | 6 => 51 | 8 => 86 | 9 => 87 | 11 => 114 | 13 => 116 | 12 => 115 | 23 => 139 | 24 => 140 | 14 => 130 | 15 => 131 | 16 => 132 | 17 => 133 | 18 => 134 | 19 => 135 | 20 => 136 | 21 => 137 | 22 => 138 | 25 => 143 | 26 => 144 | 27 => 145 | 28 => 146 | 29 => 147 | 30 => 148 | 31 => 149 | n => n, fun | 26 => 9 | 28 => 100 | 24 => 52 | 0 => 0 | 3 => 3 | 37 => 127 | 48 => 169 | 50 => 171 | 4 => 4 | 40 => 163 | 39 => 162 | 45 => 38 | 5 => 5 | 9 => 9 | 51 => 174 | 55 => 178 | 57 => 180 | 58 => 181 | 33 => 54 | n => n, fun | n => n⟩
theorem Tryz.sorted51 : Go.Proofs.SlLaysZ.n6 Tryz.prog Tryz.sorted51_ren := {
 mixed := by kernel_rfl
 f6 := ⟨Tryz.f51.name, by decide, Tryz.func51.trans (congrArg some (by kernel_rfl))⟩
 f8 := ⟨Tryz.f86.name, by decide, Tryz.func86.trans (congrArg some (by kernel_rfl))⟩
 f11 := ⟨Tryz.f114.name, by decide, Tryz.func114.trans (congrArg some (by kernel_rfl))⟩
 t0 := Tryz.underlying0
 a0 := Tryz.isAgg0
 z0 := Tryz.sizeOf0
 v0 := Tryz.zeroValue0
 t24 := Tryz.underlying52
 a24 := Tryz.isAgg52
 z24 := Tryz.sizeOf52
 v24 := Tryz.zeroValue52
 t26 := Tryz.underlying9
 a26 := Tryz.isAgg9
 z26 := Tryz.sizeOf9
 v26 := Tryz.zeroValue9
 t28 := Tryz.underlying100
 a28 := Tryz.isAgg100
 z28 := Tryz.sizeOf100
 v28 := Tryz.zeroValue100
 i26 := by kernel_rfl }
def Tryz.sort87_ren : Go.Shelf.Ren := ⟨fun | 6 => 87 | 8 => 116 | 9 => 115 | 19 => 139 | 20 => 140 | 21 => 130 | 22 => 131 | 23 => 132 | 24 => 133 | 25 => 134 | 26 => 135 | 27 => 136 | 28 => 137 | 29 => 138 | 36 => 143 | 31 => 144 | 32 => 145 | 37 => 146 | 38 => 147 | 39 => 148 | 41 => 149 | n => n, fun | 27 => 52 | 29 => 9 | 3 => 3 | 32 => 127 | 26 => 52 | 0 => 0 | 44 => 169 | 46 => 171 | 4 => 4 | 36 => 163 | 35 => 162 | 41 => 38 | 5 => 5 | 9 => 9 | 53 => 174 | 57 => 178 | 63 => 180 | 64 => 181 | n => n, fun | n => n⟩
theorem Tryz.sort87 : Go.Proofs.SlLaysM.n6 Tryz.prog Tryz.sort87_ren := {
 mixed := by kernel_rfl
 f6 := ⟨Tryz.f87.name, by decide, Tryz.func87.trans (congrArg some (by kernel_rfl))⟩
 f8 := Tryz.func116.trans (congrArg some (by kernel_rfl))
 f9 := ⟨Tryz.f115.name, by decide, Tryz.func115.trans (congrArg some (by kernel_rfl))⟩
 f19 := Tryz.func139.trans (congrArg some (by kernel_rfl))
 f20 := Tryz.func140.trans (congrArg some (by kernel_rfl))
 f21 := ⟨Tryz.f130.name, by decide, Tryz.func130.trans (congrArg some (by kernel_rfl))⟩
 f22 := ⟨Tryz.f131.name, by decide, Tryz.func131.trans (congrArg some (by kernel_rfl))⟩
 f23 := ⟨Tryz.f132.name, by decide, Tryz.func132.trans (congrArg some (by kernel_rfl))⟩
 f24 := ⟨Tryz.f133.name, by decide, Tryz.func133.trans (congrArg some (by kernel_rfl))⟩
 f25 := ⟨Tryz.f134.name, by decide, Tryz.func134.trans (congrArg some (by kernel_rfl))⟩
 f26 := ⟨Tryz.f135.name, by decide, Tryz.func135.trans (congrArg some (by kernel_rfl))⟩
 f27 := ⟨Tryz.f136.name, by decide, Tryz.func136.trans (congrArg some (by kernel_rfl))⟩
 f28 := ⟨Tryz.f137.name, by decide, Tryz.func137.trans (congrArg some (by kernel_rfl))⟩
 f29 := ⟨Tryz.f138.name, by decide, Tryz.func138.trans (congrArg some (by kernel_rfl))⟩
 f31 := Tryz.func144.trans (congrArg some (by kernel_rfl))
 f32 := Tryz.func145.trans (congrArg some (by kernel_rfl))
 f36 := ⟨Tryz.f143.name, by decide, Tryz.func143.trans (congrArg some (by kernel_rfl))⟩
 f37 := ⟨Tryz.f146.name, by decide, Tryz.func146.trans (congrArg some (by kernel_rfl))⟩
 f38 := ⟨Tryz.f147.name, by decide, Tryz.func147.trans (congrArg some (by kernel_rfl))⟩
 f39 := ⟨Tryz.f148.name, by decide, Tryz.func148.trans (congrArg some (by kernel_rfl))⟩
 f41 := ⟨Tryz.f149.name, by decide, Tryz.func149.trans (congrArg some (by kernel_rfl))⟩
 t0 := Tryz.underlying0
 a0 := Tryz.isAgg0
 z0 := Tryz.sizeOf0
 v0 := Tryz.zeroValue0
 t3 := Tryz.underlying3
 a3 := Tryz.isAgg3
 z3 := Tryz.sizeOf3
 v3 := Tryz.zeroValue3
 t4 := Tryz.underlying4
 a4 := Tryz.isAgg4
 z4 := Tryz.sizeOf4
 v4 := Tryz.zeroValue4
 t5 := Tryz.underlying5
 a5 := Tryz.isAgg5
 z5 := Tryz.sizeOf5
 v5 := Tryz.zeroValue5
 t9 := Tryz.underlying9
 a9 := Tryz.isAgg9
 z9 := Tryz.sizeOf9
 v9 := Tryz.zeroValue9
 t26 := Tryz.underlying52
 a26 := Tryz.isAgg52
 z26 := Tryz.sizeOf52
 v26 := Tryz.zeroValue52
 t27 := Tryz.underlying52
 a27 := Tryz.isAgg52
 z27 := Tryz.sizeOf52
 v27 := Tryz.zeroValue52
 t29 := Tryz.underlying9
 a29 := Tryz.isAgg9
 z29 := Tryz.sizeOf9
 v29 := Tryz.zeroValue9
 t32 := Tryz.underlying127
 a32 := Tryz.isAgg127
 z32 := Tryz.sizeOf127
 v32 := Tryz.zeroValue127
 t35 := Tryz.underlying162
 a35 := Tryz.isAgg162
 z35 := Tryz.sizeOf162
 v35 := Tryz.zeroValue162
 t36 := Tryz.underlying163
 a36 := Tryz.isAgg163
 z36 := Tryz.sizeOf163
 v36 := Tryz.zeroValue163
 t41 := Tryz.underlying38
 a41 := Tryz.isAgg38
 z41 := Tryz.sizeOf38
 v41 := Tryz.zeroValue38
 t44 := Tryz.underlying169
 a44 := Tryz.isAgg169
 z44 := Tryz.sizeOf169
 v44 := Tryz.zeroValue169
 t46 := Tryz.underlying171
 a46 := Tryz.isAgg171
 z46 := Tryz.sizeOf171
 v46 := Tryz.zeroValue171
 t53 := Tryz.underlying174
 a53 := Tryz.isAgg174
 z53 := Tryz.sizeOf174
 v53 := Tryz.zeroValue174
 t57 := Tryz.underlying178
 a57 := Tryz.isAgg178
 z57 := Tryz.sizeOf178
 v57 := Tryz.zeroValue178
 t63 := Tryz.underlying180
 a63 := Tryz.isAgg180
 z63 := Tryz.sizeOf180
 v63 := Tryz.zeroValue180
 t64 := Tryz.underlying181
 a64 := Tryz.isAgg181
 z64 := Tryz.sizeOf181
 v64 := Tryz.zeroValue181 }
open Go.RowKit Go.Maps Go.Sort Go.Shelf
theorem Tryz.sorts51 (m : Nat) : AnyZ.SortsIn Tryz.prog Tryz.sorted51_ren Fence.wide m :=
 ⟨fun blk off cap ss W hH hblk hsz => callsIn_wide.2 (AnyM.slices_Sort_string Tryz.sort87 blk off cap ss W hH hblk hsz),
  fun p cap W => callsIn_wide.2 (AnyM.slices_Sort_string_none Tryz.sort87 p cap W)⟩
theorem Tryz.maps_Keys_52 (mb : Option Nat) (W : World) : CallsIn Fence.wide 5 Tryz.prog 52 #[.map mb] W fun e w' => e = .returned (.func (.func 88) #[] #[.pointer (some ⟨W.heap.size, 0, none⟩)]) ∧ w' = W.alloc (.cells #[.map mb] 81) :=
 AnyZ.keys_in Tryz.keys52 Fence.wide 5 trivial rfl mb W
theorem Tryz.slices_Sorted_keys_51_52 {H : Type} (b nn : Nat) (D0 : DataW H) (R : Value → Option (DataW H × List MemPlace)) (w : World) (hown : w.ownsMap Tryz.prog 9 R b nn D0) (hmax : Maps.size D0 ≤ maxLen) (hbytes : Maps.size D0 * 16 ≤ 140737488355328) :
  CallsIn Fence.wide 5 Tryz.prog 51 #[.func (.func 88) #[] #[.pointer (some ⟨w.heap.size, 0, none⟩)]] (w.alloc (.cells #[.map (some b)] 81)) fun e w' => ∃ (v : Value) (ss : List (List UInt8)), e = .returned v ∧ ss.Perm (strKeys D0) ∧
   w'.ownsRow (w.alloc (.cells #[.map (some b)] 81)).heap.size 9 1 v ss.length ((ss.mergeSort (fun x y => decide (x ≤ y))).map encStr) ∧ (v = .slice none 0 0 ↔ ss = []) ∧ Below (w.alloc (.cells #[.map (some b)] 81)).heap.size (w.alloc (.cells #[.map (some b)] 81)) w' := by
 have hbl := hown.lt
 have hseq : SeqGives Fence.wide 2 Tryz.prog 88 #[.pointer (some ⟨w.heap.size, 0, none⟩)] encStr (fun ss => ss.Perm (strKeys D0)) (Maps.size D0) (w.alloc (.cells #[.map (some b)] 81)) :=
  AnyZ.keys_gives (ρ := Tryz.keys52_ren) { Tryz.keys52 with } Fence.wide _ trivial rfl (by omega) w.heap.size b nn D0 _ (by simp) (by simp) (by
   obtain ⟨es, clock, hb, Ft, hs, hD⟩ := hown
   exact ⟨es, clock, (Below.heap_alloc _ _ b hbl).trans hb, Ft, hs, hD⟩)
 exact AnyZ.sorted_in Tryz.sorted51 Fence.wide 5 trivial trivial trivial trivial rfl (by omega) (Tryz.sorts51 _) (enters_of Tryz.func87 (by kernel_rfl) rfl) 88 #[.pointer (some ⟨w.heap.size, 0, none⟩)] trivial (enters_of Tryz.func88 (by kernel_rfl) rfl) _ _ hmax hbytes _ hseq
theorem Tryz.slices_Sorted_keys_nil_51_52 (w : World) :
  CallsIn Fence.wide 5 Tryz.prog 51 #[.func (.func 88) #[] #[.pointer (some ⟨w.heap.size, 0, none⟩)]] (w.alloc (.cells #[.map none] 81)) fun e w' => ∃ (v : Value) (ss : List (List UInt8)), e = .returned v ∧ ss = [] ∧
   w'.ownsRow (w.alloc (.cells #[.map none] 81)).heap.size 9 1 v ss.length ((ss.mergeSort (fun x y => decide (x ≤ y))).map encStr) ∧ (v = .slice none 0 0 ↔ ss = []) ∧ Below (w.alloc (.cells #[.map none] 81)).heap.size (w.alloc (.cells #[.map none] 81)) w' := by
 have hseq : SeqGives Fence.wide 2 Tryz.prog 88 #[.pointer (some ⟨w.heap.size, 0, none⟩)] encStr (fun ss : List (List UInt8) => ss = []) 0 (w.alloc (.cells #[.map none] 81)) :=
  AnyZ.keys_gives_nil (ρ := Tryz.keys52_ren) { Tryz.keys52 with } Fence.wide _ trivial rfl w.heap.size _ (by simp) (by simp)
 exact AnyZ.sorted_in Tryz.sorted51 Fence.wide 5 trivial trivial trivial trivial rfl (by omega) (Tryz.sorts51 _) (enters_of Tryz.func87 (by kernel_rfl) rfl) 88 #[.pointer (some ⟨w.heap.size, 0, none⟩)] trivial (enters_of Tryz.func88 (by kernel_rfl) rfl) _ 0 (Nat.zero_le _) (by omega) _ hseq
end Go.Proofs
namespace Go.Proofs.YtafonmnfeibaiaaGreat
open Go.RowKit
structure Nd where
 ino : Int
 kind : Int
 mode : Int
 owner : Int
 group : Int
 links : Int
 tty : Int
 holds : Int
 data : ByteArray
 mp : Option Nat
 names : List (ByteArray × Nat)
 parent : Nat
def Nd.cells (n : Nd) : Array Value :=
 #[.int .i64 n.ino, .int .i64 n.kind, .int .i64 n.mode, .int .i64 n.owner, .int .i64 n.group, .int .i64 n.links, .int .i64 0, .int .i64 n.tty, .int .i64 n.holds, .string n.data, .map n.mp, .int .i64 (n.parent : Int)]
def entVals (l : List (ByteArray × Nat)) : List (Value × Value) := l.map fun p => (.string p.1, .int .i64 (p.2 : Int))
structure MapOk (es : Array MapEntry) (clock : Nat) (l : List (ByteArray × Nat)) : Prop where
 vals : es.toList.map (fun e => (e.key, e.val)) = entVals l
 keys : (l.map (·.1)).Nodup
 born : ∀ e ∈ es.toList, e.born < clock
 apart : (es.toList.map (·.born)).Nodup
def MapIs (w : World) (m : Nat) (l : List (ByteArray × Nat)) : Prop :=
 ∃ es clock, w.heap[m]? = some (.map es clock) ∧ MapOk es clock l
abbrev Tab := Nat → Option (Nat × Nd)
def ptrOf (x : Option (Nat × Nd)) : Value := .pointer (x.map fun p => ⟨p.1, 0, none⟩)
def tabArr (S : Tab) : Array Value := Array.ofFn (n := 201) fun i => ptrOf (S i.val)
def upd (S : Tab) (k : Nat) (x : Option (Nat × Nd)) : Tab := fun j => if j = k then x else S j
def foot (S : Tab) (t b : Nat) : Prop := b = t ∨ ∃ k c n, S k = some (c, n) ∧ (b = c ∨ n.mp = some b)
structure Rep (w : World) (t : Nat) (S : Tab) : Prop where
 tree : w.heap[t]? = some (.cells (tabArr S) 105 (0, 0))
 node : ∀ k b n, S k = some (b, n) → w.heap[b]? = some (.cells n.cells 83 (0, 0))
 map : ∀ k b n m, S k = some (b, n) → n.mp = some m → MapIs w m n.names
 nomap : ∀ k b n, S k = some (b, n) → n.mp = none → n.names = []
 inj : ∀ j k b n n', S j = some (b, n) → S k = some (b, n') → j = k
 injm : ∀ j k b n b' n' m, S j = some (b, n) → S k = some (b', n') → n.mp = some m → n'.mp = some m → j = k
 rng : ∀ k x, S k = some x → 1 ≤ k ∧ k ≤ 200
 ino : ∀ k b n, S k = some (b, n) → n.ino = k
 dir : ∀ k b n, S k = some (b, n) → n.mp.isSome = decide (n.kind = 1)
 small : ∀ k b n, S k = some (b, n) → n.data.size ≤ 4096 ∧ n.names.length ≤ 40
theorem tabArr_get (S : Tab) (k : Nat) (h : k < 201) : (tabArr S)[k]? = some (ptrOf (S k)) := by
 simp [tabArr, h]
theorem tabArr_size (S : Tab) : (tabArr S).size = 201 := by simp [tabArr]
theorem uY (S : Tab) (k : Nat) (x) : upd S k x k = x := by simp [upd]
theorem uX (S : Tab) {k j : Nat} (x) (h : j ≠ k) : upd S k x j = S j := by simp [upd, h]
theorem tabArr_upd (S : Tab) (k : Nat) (x : Option (Nat × Nd)) : (tabArr S).setIfInBounds k (ptrOf x) = tabArr (upd S k x) := by
 apply Array.ext_getElem?
 intro i
 rw [Array.getElem?_setIfInBounds]
 by_cases hi : i < 201
 · rw [tabArr_get (upd S k x) i hi]
   by_cases e : k = i
   · subst e; rw [if_pos rfl, if_pos (by rw [tabArr_size]; exact hi), uY]
   · rw [if_neg e, tabArr_get S i hi, uX S x (Ne.symm e)]
 · have h1 : (tabArr S)[i]? = none := by simp [tabArr, hi]
   have h2 : (tabArr (upd S k x))[i]? = none := by simp [tabArr, hi]
   rw [h1, h2]
   by_cases e : k = i
   · subst e; rw [if_pos rfl, if_neg (by rw [tabArr_size]; omega)]
   · rw [if_neg e]
variable {w w' : World} {t k b : Nat} {S : Tab} {n : Nd}
theorem upd_self (S : Tab) (k : Nat) {x} (h : S k = x) : upd S k x = S := by
 funext j; by_cases e : j = k
 · subst e; simp [upd, h]
 · simp [upd, e]
theorem tabArr_ptr (S : Tab) (k b : Nat) (n n' : Nd) (h : S k = some (b, n)) : tabArr (upd S k (some (b, n'))) = tabArr S := by
 have h1 := tabArr_upd S k (some (b, n'))
 have h2 := tabArr_upd S k (some (b, n))
 rw [upd_self S k h] at h2
 have h3 : ptrOf (some (b, n')) = ptrOf (some (b, n)) := rfl
 rw [← h1, h3, h2]
theorem Rep.no0 (h : Rep w t S) : S 0 = none := by
 cases hx : S 0 with
 | none => rfl
 | some x => have := h.rng 0 x hx; omega
theorem cO {w : World} {b : Nat} {C : Array Value} {T : TypeId} {f : Nat × Nat} (h : w.heap[b]? = some (.cells C T f)) (i : Nat) : w.cell? ⟨b, i, none⟩ = C[i]? := by
 simp [World.cell?, h]
theorem fO {w : World} {b : Nat} {C : Array Value} {T : TypeId} (h : w.heap[b]? = some (.cells C T (0, 0))) (i : Nat) : w.frozen? ⟨b, i, none⟩ = false := by
 simp [World.frozen?, h]
theorem lH {w : World} {b : Nat} {o : Obj} (h : w.heap[b]? = some o) : b < w.heap.size := by
 obtain ⟨h1, _⟩ := Array.getElem?_eq_some_iff.1 h; exact h1
theorem Rep.cellT (h : Rep w t S) (k : Nat) (hk : k < 201) : w.cell? ⟨t, k, none⟩ = some (ptrOf (S k)) := by
 rw [cO h.tree, tabArr_get S k hk]
theorem Rep.frozenT (h : Rep w t S) (k : Nat) : w.frozen? ⟨t, k, none⟩ = false := fO h.tree k
theorem Rep.cellN (h : Rep w t S) (hk : S k = some (b, n)) (i : Nat) : w.cell? ⟨b, i, none⟩ = n.cells[i]? := cO (h.node k b n hk) i
theorem Rep.frozenN (h : Rep w t S) (hk : S k = some (b, n)) (i : Nat) : w.frozen? ⟨b, i, none⟩ = false := fO (h.node k b n hk) i
theorem Rep.ltT (h : Rep w t S) : t < w.heap.size := lH h.tree
theorem Rep.ltN (h : Rep w t S) (hk : S k = some (b, n)) : b < w.heap.size := lH (h.node k b n hk)
theorem MapIs.lt {m : Nat} {l} (h : MapIs w m l) : m < w.heap.size := by obtain ⟨es, c, h1, _⟩ := h; exact lH h1
theorem Rep.neT (h : Rep w t S) (hk : S k = some (b, n)) : b ≠ t := by
 intro e; subst e
 have h1 := h.tree; rw [h.node k b n hk] at h1; simp at h1
theorem MapIs.ne_cells {m : Nat} {l} (h : MapIs w m l) {b : Nat} {C T f} (hb : w.heap[b]? = some (.cells C T f)) : m ≠ b := by
 intro e; subst e; obtain ⟨es, c, h1, _⟩ := h; rw [hb] at h1; simp at h1
theorem Rep.foot_lt (h : Rep w t S) {b : Nat} (hb : foot S t b) : b < w.heap.size := by
 rcases hb with rfl | ⟨k, c, n, hk, rfl | hm⟩
 · exact h.ltT
 · exact h.ltN hk
 · exact (h.map k c n b hk hm).lt
theorem Rep.same (h : Rep w t S) (hs : ∀ b, foot S t b → w'.heap[b]? = w.heap[b]?) : Rep w' t S where
 tree := by rw [hs t (.inl rfl)]; exact h.tree
 node := fun k b n hk => by rw [hs b (.inr ⟨k, b, n, hk, .inl rfl⟩)]; exact h.node k b n hk
 map := fun k b n m hk hm => by
  obtain ⟨es, c, h1, h2⟩ := h.map k b n m hk hm
  exact ⟨es, c, by rw [hs m (.inr ⟨k, b, n, hk, .inr hm⟩)]; exact h1, h2⟩
 nomap := h.nomap
 inj := h.inj
 injm := h.injm
 rng := h.rng
 ino := h.ino
 dir := h.dir
 small := h.small
theorem setCell_alloc (w : World) (o : Obj) (b i : Nat) (v : Value) (hb : b < w.heap.size) : (w.setCell ⟨b, i, none⟩ v).alloc o = (w.alloc o).setCell ⟨b, i, none⟩ v :=
 (World.setCell_alloc_past o b i v hb).symm
theorem aQ (w : World) (o : Obj) : (w.alloc o).heap[w.heap.size]? = some o := by show (w.heap.push o)[w.heap.size]? = _; simp
theorem aP (w : World) (o : Obj) {b : Nat} (h : b < w.heap.size) : (w.alloc o).heap[b]? = w.heap[b]? := Below.heap_alloc _ _ _ h
theorem aZ (w : World) (o : Obj) : (w.alloc o).heap.size = w.heap.size + 1 := by show (w.heap.push o).size = _; simp
structure Mv (w : World) (t : Nat) (S : Tab) (w' : World) (S' : Tab) : Prop where
 rep : Rep w' t S'
 os : w'.os = w.os
 tape : w'.tape = w.tape
 output : w'.output = w.output
 size : w.heap.size ≤ w'.heap.size
 block : ∀ b, b < w.heap.size → ¬ foot S t b → w'.heap[b]? = w.heap[b]?
 grow : ∀ b, foot S' t b → foot S t b ∨ w.heap.size ≤ b
theorem Mv.refl (h : Rep w t S) : Mv w t S w S := ⟨h, rfl, rfl, rfl, Nat.le_refl _, fun _ _ _ => rfl, fun _ h => .inl h⟩
theorem Mv.trans {w1 w2 : World} {S1 S2 : Tab} (h : Mv w t S w1 S1) (g : Mv w1 t S1 w2 S2) : Mv w t S w2 S2 :=
 ⟨g.rep, g.os.trans h.os, g.tape.trans h.tape, g.output.trans h.output, Nat.le_trans h.size g.size,
  fun b hb hf => (g.block b (Nat.lt_of_lt_of_le hb h.size) (fun h2 => (h.grow b h2).elim hf (fun h3 => by omega))).trans (h.block b hb hf),
  fun b hb => (g.grow b hb).elim (h.grow b) (fun h2 => .inr (by have := h.size; omega))⟩
theorem Mv.below {w1 w2 : World} {S1 : Tab} (h : Mv w t S w1 S1) (g : Below w1.heap.size w1 w2) : Mv w t S w2 S1 :=
 h.trans ⟨h.rep.same (fun b hb => g.block b (h.rep.foot_lt hb)), g.os, g.tape, g.output, g.size, fun b hb _ => g.block b hb, fun _ h => .inl h⟩
theorem Mv.alloc {w1 : World} {S1 : Tab} (h : Mv w t S w1 S1) (o : Obj) : Mv w t S (w1.alloc o) S1 := h.below ((Below.refl _ _).alloc (Nat.le_refl _) o)
theorem Mv.drew {w1 : World} {S1 : Tab} (h : Mv w t S w1 S1) : Mv w t S w1.drew S1 := h.below (Below.refl _ _).drew
theorem Mv.other {w1 w2 : World} {S1 : Tab} (h : Mv w t S w1 S1) (r : Nat) (hr : w.heap.size ≤ r) (hf : ¬ foot S1 t r) (ho : w2.os = w1.os) (ht : w2.tape = w1.tape) (hp : w2.output = w1.output) (hz : w2.heap.size = w1.heap.size) (hb : ∀ b, b ≠ r → w2.heap[b]? = w1.heap[b]?) : Mv w t S w2 S1 :=
 ⟨h.rep.same (fun b hb' => hb b (fun e => hf (e ▸ hb'))), ho.trans h.os, ht.trans h.tape, hp.trans h.output, by rw [hz]; exact h.size,
  fun b hb' hf' => (hb b (by omega)).trans (h.block b hb' hf'), h.grow⟩
theorem heap_setCell_same {w : World} {b i : Nat} {C T f} (h : w.heap[b]? = some (.cells C T f)) (v : Value) : (w.setCell ⟨b, i, none⟩ v).heap[b]? = some (.cells (C.setIfInBounds i v) T f) := by
 simp [World.setCell, Array.getElem?_modify, h]
theorem MapIs.setCell {m : Nat} {l} (h : MapIs w m l) {b i : Nat} {C T f} (hb : w.heap[b]? = some (.cells C T f)) (v : Value) : MapIs (w.setCell ⟨b, i, none⟩ v) m l := by
 have hne := h.ne_cells hb
 obtain ⟨es, c, h1, h2⟩ := h
 exact ⟨es, c, by rw [Below.heap_setCell _ _ _ _ hne]; exact h1, h2⟩
theorem foot_upd {S : Tab} {t k b : Nat} {n n' : Nd} (hk : S k = some (b, n)) (hmp : n'.mp = n.mp) (c : Nat) : foot (upd S k (some (b, n'))) t c ↔ foot S t c := by
 unfold foot
 constructor
 · rintro (h | ⟨j, d, m, hj, h⟩)
   · exact .inl h
   · by_cases e : j = k
     · subst e; rw [uY] at hj; obtain ⟨e1, e2⟩ := Prod.mk.inj (Option.some.inj hj)
       exact .inr ⟨j, b, n, hk, by rw [e1, ← hmp, e2]; exact h⟩
     · rw [uX _ _ e] at hj; exact .inr ⟨j, d, m, hj, h⟩
 · rintro (h | ⟨j, d, m, hj, h⟩)
   · exact .inl h
   · by_cases e : j = k
     · subst e; rw [hk] at hj; obtain ⟨e1, e2⟩ := Prod.mk.inj (Option.some.inj hj)
       exact .inr ⟨j, b, n', uY .., by rw [e1, hmp, e2]; exact h⟩
     · exact .inr ⟨j, d, m, by rw [uX _ _ e]; exact hj, h⟩
theorem Mv.setNode {w1 : World} {S1 : Tab} (h : Mv w t S w1 S1) (hk : S1 k = some (b, n)) (i : Nat) (v : Value) (n' : Nd) (hc : n'.cells = n.cells.setIfInBounds i v) (hmp : n'.mp = n.mp)
  (hnm : n'.names = n.names) (hi : n'.ino = n.ino) (hkd : n'.kind = n.kind) (hsm : n'.data.size ≤ 4096) : Mv w t S (w1.setCell ⟨b, i, none⟩ v) (upd S1 k (some (b, n'))) := by
 have hR := h.rep
 have hb := hR.node k b n hk
 refine h.trans ⟨⟨?_, ?_, ?_, ?_, ?_, ?_, ?_, ?_, ?_, ?_⟩, rfl, rfl, rfl, by simp [World.setCell], fun c _ hf => Below.heap_setCell _ _ _ _ (fun e => hf (.inr ⟨k, b, n, hk, .inl e⟩)), fun c hc => .inl ((foot_upd hk hmp c).1 hc)⟩
 · rw [Below.heap_setCell _ _ _ _ (hR.neT hk).symm, hR.tree, tabArr_ptr S1 k b n n' hk]
 · intro j c m hj
   by_cases e : j = k
   · subst e; rw [uY] at hj; obtain ⟨e1, e2⟩ := Prod.mk.inj (Option.some.inj hj)
     rw [← e1, ← e2, heap_setCell_same hb, hc]
   · rw [uX _ _ e] at hj
     have : c ≠ b := fun e2 => e (hR.inj j k b m n (e2 ▸ hj) hk)
     rw [Below.heap_setCell _ _ _ _ this]; exact hR.node j c m hj
 · intro j c m q hj hq
   by_cases e : j = k
   · subst e; rw [uY] at hj; obtain ⟨e1, e2⟩ := Prod.mk.inj (Option.some.inj hj)
     rw [← e2] at hq ⊢
     rw [hnm]; exact (hR.map j b n q hk (hmp ▸ hq)).setCell hb v
   · rw [uX _ _ e] at hj; exact (hR.map j c m q hj hq).setCell hb v
 · intro j c m hj hq
   by_cases e : j = k
   · subst e; rw [uY] at hj; obtain ⟨e1, e2⟩ := Prod.mk.inj (Option.some.inj hj)
     rw [← e2] at hq ⊢
     rw [hnm]; exact hR.nomap j b n hk (hmp ▸ hq)
   · rw [uX _ _ e] at hj; exact hR.nomap j c m hj hq
 · intro i j c m m' hi' hj
   have key : ∀ x c m, upd S1 k (some (b, n')) x = some (c, m) → ∃ m0, S1 x = some (c, m0) := by
    intro x c m hx; by_cases e : x = k
    · subst e; rw [uY] at hx; obtain ⟨e1, e2⟩ := Prod.mk.inj (Option.some.inj hx); exact ⟨n, e1 ▸ hk⟩
    · rw [uX _ _ e] at hx; exact ⟨m, hx⟩
   obtain ⟨p, hp⟩ := key _ _ _ hi'; obtain ⟨q, hq⟩ := key _ _ _ hj
   exact hR.inj _ _ _ _ _ hp hq
 · intro i j c m c' m' q hi' hj h1 h2
   have key : ∀ x c m, upd S1 k (some (b, n')) x = some (c, m) → ∃ m0, S1 x = some (c, m0) ∧ m0.mp = m.mp := by
    intro x c m hx; by_cases e : x = k
    · subst e; rw [uY] at hx; obtain ⟨e1, e2⟩ := Prod.mk.inj (Option.some.inj hx); exact ⟨n, e1 ▸ hk, e2 ▸ hmp.symm⟩
    · rw [uX _ _ e] at hx; exact ⟨m, hx, rfl⟩
   obtain ⟨p, hp, hp'⟩ := key _ _ _ hi'; obtain ⟨r, hr, hr'⟩ := key _ _ _ hj
   exact hR.injm _ _ _ _ _ _ q hp hr (hp'.trans h1) (hr'.trans h2)
 · intro j x hj
   by_cases e : j = k
   · subst e; exact hR.rng j _ hk
   · rw [uX _ _ e] at hj; exact hR.rng j x hj
 · intro j c m hj
   by_cases e : j = k
   · subst e; rw [uY] at hj; obtain ⟨e1, e2⟩ := Prod.mk.inj (Option.some.inj hj); rw [← e2, hi]; exact hR.ino j _ _ hk
   · rw [uX _ _ e] at hj; exact hR.ino j c m hj
 · intro j c m hj
   by_cases e : j = k
   · subst e; rw [uY] at hj; obtain ⟨e1, e2⟩ := Prod.mk.inj (Option.some.inj hj); rw [← e2, hmp, hkd]; exact hR.dir j _ _ hk
   · rw [uX _ _ e] at hj; exact hR.dir j c m hj
 · intro j c m hj
   by_cases e : j = k
   · subst e; rw [uY] at hj; obtain ⟨e1, e2⟩ := Prod.mk.inj (Option.some.inj hj); rw [← e2, hnm]; exact ⟨hsm, (hR.small j _ _ hk).2⟩
   · rw [uX _ _ e] at hj; exact hR.small j c m hj
theorem Mv.setNone {w1 : World} {S1 : Tab} (h : Mv w t S w1 S1) (k : Nat) : Mv w t S (w1.setCell ⟨t, k, none⟩ (.pointer none)) (upd S1 k none) := by
 have hR := h.rep
 have key : ∀ x y, upd S1 k none x = some y → S1 x = some y := by
  intro x y hx; by_cases e : x = k
  · subst e; rw [uY] at hx; cases hx
  · rw [uX _ _ e] at hx; exact hx
 refine h.trans ⟨⟨?_, ?_, ?_, fun j c m hj => hR.nomap j c m (key _ _ hj), fun i j c m m' hi hj => hR.inj i j c m m' (key _ _ hi) (key _ _ hj), fun i j c m c' m' q hi hj => hR.injm i j c m c' m' q (key _ _ hi) (key _ _ hj),
  fun j x hj => hR.rng j x (key _ _ hj), fun j c m hj => hR.ino j c m (key _ _ hj), fun j c m hj => hR.dir j c m (key _ _ hj), fun j c m hj => hR.small j c m (key _ _ hj)⟩, rfl, rfl, rfl, by simp [World.setCell], fun c _ hf => Below.heap_setCell _ _ _ _ (fun e => hf (.inl e)), fun c hc => .inl ?_⟩
 · rw [heap_setCell_same hR.tree]
   have := tabArr_upd S1 k none
   simp only [ptrOf, Option.map_none] at this
   rw [this]
 · intro j c m hj
   rw [Below.heap_setCell _ _ _ _ (hR.neT (key _ _ hj))]; exact hR.node j c m (key _ _ hj)
 · intro j c m q hj hq
   exact (hR.map j c m q (key _ _ hj) hq).setCell hR.tree _
 · rcases hc with e | ⟨j, d, m, hj, h'⟩
   · exact .inl e
   · exact .inr ⟨j, d, m, key _ _ hj, h'⟩
theorem Mv.setSome {w1 : World} {S1 : Tab} (h : Mv w t S w1 S1) (k : Nat) (hk1 : 1 ≤ k) (hk2 : k ≤ 200) (hk : S1 k = none) (b : Nat) (n : Nd) (hn : w1.heap[b]? = some (.cells n.cells 83 (0, 0)))
  (hm : ∀ m, n.mp = some m → MapIs w1 m n.names ∧ ¬ foot S1 t m ∧ w.heap.size ≤ m) (hm0 : n.mp = none → n.names = []) (hb : ¬ foot S1 t b) (hi : n.ino = k) (hdir : n.mp.isSome = decide (n.kind = 1)) (hsm : n.data.size ≤ 4096 ∧ n.names.length ≤ 40) (hnew : w.heap.size ≤ b) :
  Mv w t S (w1.setCell ⟨t, k, none⟩ (.pointer (some ⟨b, 0, none⟩))) (upd S1 k (some (b, n))) := by
 have hR := h.rep
 have hbt : b ≠ t := fun e => hb (.inl e)
 have key : ∀ x c m, upd S1 k (some (b, n)) x = some (c, m) → (x = k ∧ c = b ∧ m = n) ∨ (x ≠ k ∧ S1 x = some (c, m)) := by
  intro x c m hx; by_cases e : x = k
  · subst e; rw [uY] at hx; obtain ⟨e1, e2⟩ := Prod.mk.inj (Option.some.inj hx); exact .inl ⟨rfl, e1.symm, e2.symm⟩
  · rw [uX _ _ e] at hx; exact .inr ⟨e, hx⟩
 refine ⟨⟨?_, ?_, ?_, ?_, ?_, ?_, ?_, ?_, ?_, ?_⟩, h.os, h.tape, h.output, by simpa [World.setCell] using h.size, ?_, ?_⟩
 · rw [heap_setCell_same hR.tree]
   have := tabArr_upd S1 k (some (b, n))
   simp only [ptrOf, Option.map_some] at this
   rw [this]
 · intro j c m hj
   rcases key _ _ _ hj with ⟨e0, e1, e2⟩ | ⟨_, hj⟩
   · rw [e1, e2, Below.heap_setCell _ _ _ _ hbt]; exact hn
   · rw [Below.heap_setCell _ _ _ _ (hR.neT hj)]; exact hR.node j c m hj
 · intro j c m q hj hq
   rcases key _ _ _ hj with ⟨e0, e1, e2⟩ | ⟨_, hj⟩
   · rw [e2] at hq ⊢; exact (hm q hq).1.setCell hR.tree _
   · exact (hR.map j c m q hj hq).setCell hR.tree _
 · intro j c m hj hq
   rcases key _ _ _ hj with ⟨e0, e1, e2⟩ | ⟨_, hj⟩
   · rw [e2] at hq ⊢; exact hm0 hq
   · exact hR.nomap j c m hj hq
 · intro i j c m m' hi' hj
   rcases key _ _ _ hi' with ⟨e0, e1, e2⟩ | ⟨e1, hi'⟩ <;> rcases key _ _ _ hj with ⟨g0, g1, g2⟩ | ⟨g1, hj⟩
   · rw [e0, g0]
   · exact absurd (.inr ⟨j, c, m', hj, .inl e1.symm⟩) hb
   · exact absurd (.inr ⟨i, c, m, hi', .inl g1.symm⟩) hb
   · exact hR.inj i j c m m' hi' hj
 · intro i j c m c' m' q hi' hj h1 h2
   rcases key _ _ _ hi' with ⟨e0, e1, e2⟩ | ⟨e1, hi'⟩ <;> rcases key _ _ _ hj with ⟨g0, g1, g2⟩ | ⟨g1, hj⟩
   · rw [e0, g0]
   · exact absurd (.inr ⟨j, c', m', hj, .inr h2⟩) (hm q (e2 ▸ h1)).2.1
   · exact absurd (.inr ⟨i, c, m, hi', .inr h1⟩) (hm q (g2 ▸ h2)).2.1
   · exact hR.injm i j c m c' m' q hi' hj h1 h2
 · rintro j ⟨c, m⟩ hj
   rcases key _ _ _ hj with ⟨e0, e1, e2⟩ | ⟨_, hj⟩
   · rw [e0]; exact ⟨hk1, hk2⟩
   · exact hR.rng j _ hj
 · intro j c m hj
   rcases key _ _ _ hj with ⟨e0, e1, e2⟩ | ⟨_, hj⟩
   · rw [e2, hi, e0]
   · exact hR.ino j c m hj
 · intro j c m hj
   rcases key _ _ _ hj with ⟨e0, e1, e2⟩ | ⟨_, hj⟩
   · rw [e2]; exact hdir
   · exact hR.dir j c m hj
 · intro j c m hj
   rcases key _ _ _ hj with ⟨e0, e1, e2⟩ | ⟨_, hj⟩
   · rw [e2]; exact hsm
   · exact hR.small j c m hj
 · intro c hc hf
   rw [Below.heap_setCell]
   · exact h.block c hc hf
   · intro e
     rcases h.grow t (.inl rfl) with g | g
     · exact hf (by rw [e]; exact g)
     · simp only at e; omega
 · intro c hc
   rcases hc with e | ⟨j, d, m, hj, h'⟩
   · exact h.grow c (.inl e)
   · rcases key _ _ _ hj with ⟨e0, e1, e2⟩ | ⟨_, hj⟩
     · rcases h' with h' | h'
       · exact .inr (by rw [h', e1]; exact hnew)
       · exact .inr (hm c (e2 ▸ h')).2.2
     · exact h.grow c (.inr ⟨j, d, m, hj, h'⟩)
theorem Mv.setMap {w1 : World} {S1 : Tab} (h : Mv w t S w1 S1) (hk : S1 k = some (b, n)) {m : Nat} (hmp : n.mp = some m) (es : Array MapEntry) (clock : Nat) (l : List (ByteArray × Nat))
  (hes : MapOk es clock l) (hl : l.length ≤ 40) : Mv w t S (w1.putObj m (.map es clock)) (upd S1 k (some (b, { n with names := l }))) := by
 have hR := h.rep
 have hb := hR.node k b n hk
 have hmi := hR.map k b n m hk hmp
 have hother : ∀ c, c ≠ m → (w1.putObj m (.map es clock)).heap[c]? = w1.heap[c]? := fun c hc => World.putObj_heap_other hc
 have hsame : (w1.putObj m (.map es clock)).heap[m]? = some (.map es clock) := World.putObj_heap_same hmi.lt
 have key : ∀ x c y, upd S1 k (some (b, { n with names := l })) x = some (c, y) → (x = k ∧ c = b ∧ y = { n with names := l }) ∨ (x ≠ k ∧ S1 x = some (c, y)) := by
  intro x c y hx; by_cases e : x = k
  · subst e; rw [uY] at hx; obtain ⟨e1, e2⟩ := Prod.mk.inj (Option.some.inj hx); exact .inl ⟨rfl, e1.symm, e2.symm⟩
  · rw [uX _ _ e] at hx; exact .inr ⟨e, hx⟩
 have key2 : ∀ x c y, upd S1 k (some (b, { n with names := l })) x = some (c, y) → ∃ y0, S1 x = some (c, y0) ∧ y0.mp = y.mp ∧ y0.ino = y.ino ∧ y0.cells = y.cells ∧ y0.kind = y.kind := by
  intro x c y hx
  rcases key x c y hx with ⟨e0, e1, e2⟩ | ⟨_, h'⟩
  · rw [e0, e1, e2]; exact ⟨n, hk, rfl, rfl, rfl, rfl⟩
  · exact ⟨y, h', rfl, rfl, rfl, rfl⟩
 refine h.trans ⟨⟨?_, ?_, ?_, ?_, ?_, ?_, ?_, ?_, ?_, ?_⟩, rfl, rfl, rfl, by simp [World.putObj], fun c _ hf => hother c (fun e => hf (.inr ⟨k, b, n, hk, .inr (e ▸ hmp)⟩)), fun c hc => .inl ((foot_upd (n' := { n with names := l }) hk rfl c).1 hc)⟩
 · rw [hother t (hmi.ne_cells hR.tree).symm, hR.tree, tabArr_ptr S1 k b n _ hk]
 · intro j c y hj
   obtain ⟨y0, h1, _, _, h2, _⟩ := key2 _ _ _ hj
   have h3 := hR.node j c y0 h1
   rw [hother c (hmi.ne_cells h3).symm, ← h2]; exact h3
 · intro j c y q hj hq
   rcases key _ _ _ hj with ⟨e0, e1, e2⟩ | ⟨e, h'⟩
   · rw [e2] at hq ⊢
     have e3 : q = m := by simpa [hmp] using hq.symm
     rw [e3]
     exact ⟨es, clock, hsame, hes⟩
   · have hne : q ≠ m := fun e2 => e (hR.injm j k c y b n m h' hk (e2 ▸ hq) hmp)
     obtain ⟨es', c', h1, h2⟩ := hR.map j c y q h' hq
     exact ⟨es', c', by rw [hother q hne]; exact h1, h2⟩
 · intro j c y hj hq
   rcases key _ _ _ hj with ⟨e0, e1, e2⟩ | ⟨e, h'⟩
   · rw [e2] at hq; simp [hmp] at hq
   · exact hR.nomap j c y h' hq
 · intro i j c m m' hi' hj
   obtain ⟨p, hp, _⟩ := key2 _ _ _ hi'; obtain ⟨q, hq, _⟩ := key2 _ _ _ hj
   exact hR.inj _ _ _ _ _ hp hq
 · intro i j c m c' m' q hi' hj h1 h2
   obtain ⟨p, hp, hp', _⟩ := key2 _ _ _ hi'; obtain ⟨r, hr, hr', _⟩ := key2 _ _ _ hj
   exact hR.injm _ _ _ _ _ _ q hp hr (hp'.trans h1) (hr'.trans h2)
 · intro j x hj
   obtain ⟨c, y⟩ := x
   obtain ⟨y0, h1, _⟩ := key2 _ _ _ hj
   exact hR.rng j _ h1
 · intro j c y hj
   obtain ⟨y0, h1, _, h2, _⟩ := key2 _ _ _ hj
   rw [← h2]; exact hR.ino j c y0 h1
 · intro j c y hj
   obtain ⟨y0, h1, h2, _, _, h3⟩ := key2 _ _ _ hj
   rw [← h2, ← h3]; exact hR.dir j c y0 h1
 · intro j c y hj
   rcases key _ _ _ hj with ⟨e0, e1, e2⟩ | ⟨e, h'⟩
   · rw [e2]; exact ⟨(hR.small _ _ _ hk).1, hl⟩
   · exact hR.small j c y h'
structure Own (B : Nat) (w0 w : World) (t : Nat) (S : Tab) : Prop where
 rep : Rep w t S
 below : Below B w0 w
 le : B ≤ w.heap.size
 own : ∀ b, foot S t b → B ≤ b
theorem Own.mv {B : Nat} {w0 : World} {S' : Tab} (h : Own B w0 w t S) (g : Mv w t S w' S') : Own B w0 w' t S' :=
 ⟨g.rep, h.below.trans ⟨g.os, g.tape, g.output, g.size, fun b hb => g.block b (Nat.lt_of_lt_of_le hb h.le) (fun hf => absurd (h.own b hf) (by omega))⟩, Nat.le_trans h.le g.size,
  fun b hb => (g.grow b hb).elim (h.own b) (Nat.le_trans h.le)⟩
end Go.Proofs.YtafonmnfeibaiaaGreat
namespace Go.Proofs.YtafonmnfeibaiaaGreat
open Go.RowKit
def look (l : List (ByteArray × Nat)) (s : ByteArray) : Option Nat := (l.find? (fun p => decide (p.1 = s))).map (·.2)
def delL (l : List (ByteArray × Nat)) (s : ByteArray) : List (ByteArray × Nat) := l.eraseP (fun p => decide (p.1 = s))
theorem delL_filter (s : ByteArray) : ∀ {l : List (ByteArray × Nat)}, (l.map (·.1)).Nodup → delL l s = l.filter fun p => !decide (p.1 = s)
 | [], _ => rfl
 | p :: l, h => by
   rw [List.map_cons, List.nodup_cons] at h
   by_cases hc : p.1 = s
   · have e : l.filter (fun p => !decide (p.1 = s)) = l := by
      rw [List.filter_eq_self]
      intro q hq
      have : q.1 ≠ s := fun e => h.1 (by rw [hc, ← e]; exact List.mem_map.2 ⟨q, hq, rfl⟩)
      simpa using this
     simp only [delL, List.eraseP_cons, hc, List.filter_cons, decide_true, Bool.not_true, Bool.false_eq_true, if_false, cond_true]
     exact e.symm
   · have := delL_filter s h.2
     simp only [delL] at this
     simp only [delL, List.eraseP_cons, List.filter_cons, hc, decide_false, Bool.not_false, cond_false, if_true]
     rw [this]
theorem set_perm {α : Type} (a : α) : ∀ (l : List α) (j : Nat), j < l.length → (l.set j a).Perm (a :: l.eraseIdx j)
 | [], _, h => absurd h (by simp)
 | _ :: l, 0, _ => List.Perm.refl _
 | b :: l, j + 1, h => ((set_perm a l j (by simpa using h)).cons b).trans (List.Perm.swap _ _ _)
theorem ba_beq (a b : ByteArray) : (a == b) = decide (a = b) := by
 rw [Bool.eq_iff_iff]
 simp only [decide_eq_true_eq]
 constructor
 · intro h
   have h' : (a.data == b.data) = true := h
   have h2 : a.data = b.data := by simpa using h'
   exact ByteArray.ext h2
 · rintro rfl
   show (a.data == a.data) = true
   simp
theorem findNow_nil_of (s : ByteArray) : ∀ (es : List MapEntry) (l : List (ByteArray × Nat)) (i : Nat), es.map (fun e => (e.key, e.val)) = entVals l → look l s = none → Instr.findNow .string (.string s) es i = some none
 | [], _, _, _, _ => rfl
 | e :: es, [], _, h, _ => by simp [entVals] at h
 | e :: es, p :: l, i, h, hn => by
   simp only [entVals, List.map_cons, List.cons.injEq, Prod.mk.injEq] at h
   obtain ⟨⟨hk, hv⟩, ht⟩ := h
   by_cases hc : p.1 = s
   · simp [look, List.find?_cons, hc] at hn
   · have hn' : look l s = none := by simpa [look, List.find?_cons, hc] using hn
     simp only [Instr.findNow, Instr.sameNow, hk, ba_beq, decide_eq_false (fun h => hc (Eq.symm h))]
     exact findNow_nil_of s es l (i + 1) ht hn'
theorem findNow_some_of (s : ByteArray) (x : Nat) : ∀ (es : List MapEntry) (l : List (ByteArray × Nat)) (i : Nat), es.map (fun e => (e.key, e.val)) = entVals l → look l s = some x →
  ∃ j, Instr.findNow .string (.string s) es i = some (some (i + j, .int .i64 (x : Int))) ∧ j < es.length ∧ l.eraseIdx j = delL l s ∧ (l[j]?).map (·.1) = some s
 | [], [], _, _, hn => by simp [look] at hn
 | [], _ :: _, _, h, _ => by simp [entVals] at h
 | e :: es, [], _, h, _ => by simp [entVals] at h
 | e :: es, p :: l, i, h, hn => by
   simp only [entVals, List.map_cons, List.cons.injEq, Prod.mk.injEq] at h
   obtain ⟨⟨hk, hv⟩, ht⟩ := h
   by_cases hc : p.1 = s
   · have hx : p.2 = x := by simpa [look, List.find?_cons, hc] using hn
     refine ⟨0, ?_, by simp, by simp [delL, List.eraseP_cons, hc], by simp [hc]⟩
     simp [Instr.findNow, Instr.sameNow, hk, hv, hc, hx, ba_beq]
   · have hn' : look l s = some x := by simpa [look, List.find?_cons, hc] using hn
     obtain ⟨j, h1, h2, h3, h4⟩ := findNow_some_of s x es l (i + 1) ht hn'
     refine ⟨j + 1, ?_, by simp; omega, by simp [delL, List.eraseP_cons, hc] at h3 ⊢; exact h3, by simpa using h4⟩
     simp only [Instr.findNow, Instr.sameNow, hk, ba_beq, decide_eq_false (fun h => hc (Eq.symm h))]
     rw [h1, Nat.add_right_comm, Nat.add_assoc]
theorem map_eraseIdx' {α β : Type} (f : α → β) : ∀ (l : List α) (j : Nat), (l.eraseIdx j).map f = (l.map f).eraseIdx j
 | [], _ => rfl
 | _ :: _, 0 => rfl
 | a :: l, j + 1 => by simp [map_eraseIdx' f l j]
theorem check_string {P : Program} {w : World} {K : TypeId} (hK : P.underlying K = some .string) (b : Bool) (s : ByteArray) : (Instr.checkKey b 10000 K (.string s)).run P w = .ok () w := by
 have h : ∀ d : Nat, (Instr.checkKey b (d + 1) K (.string s)).run P w = .ok () w := fun d => by
  simp [Instr.checkKey, run_underlying hK]
 exact h 9999
section
variable {P : Program} {w : World} {T K E : TypeId} {m : Nat} {l : List (ByteArray × Nat)} (hT : P.underlying T = some (.map K E)) (hK : P.underlying K = some .string)
include hT hK
theorem run_lookup_none (h : MapIs w m l) (s : ByteArray) (hs : look l s = none) (hz : (zeroValue E).run P w = .ok (.int .i64 0) w) :
  (Instr.lookup T (.map (some m)) (.string s) true).run P w = .ok (.tuple #[.int .i64 0, .bool false]) w := by
 obtain ⟨es, c, h1, h2⟩ := h
 have hf := findNow_nil_of s es.toList l 0 h2.vals hs
 simp [Instr.lookup, run_underlying hT, MapKept.run_getObj_map h1, check_string hK, Instr.findKey, run_underlying hK, hf, hz, Result.andThen]
theorem run_lookup_some (h : MapIs w m l) (s : ByteArray) (x : Nat) (hs : look l s = some x) :
  (Instr.lookup T (.map (some m)) (.string s) true).run P w = .ok (.tuple #[.int .i64 (x : Int), .bool true]) w := by
 obtain ⟨es, c, h1, h2⟩ := h
 obtain ⟨j, hf, _⟩ := findNow_some_of s x es.toList l 0 h2.vals hs
 simp [Instr.lookup, run_underlying hT, MapKept.run_getObj_map h1, check_string hK, Instr.findKey, run_underlying hK, hf, Result.andThen]
theorem run_update_new (h : MapIs w m l) (s : ByteArray) (x : Nat) (hs : look l s = none) :
  ∃ es clock, (Instr.mapUpdate T (.map (some m)) (.string s) (.int .i64 (x : Int))).run P w = .ok () (w.putObj m (.map es clock)) ∧ MapOk es clock (l ++ [(s, x)]) := by
 obtain ⟨es, c, h1, h2⟩ := h
 have hf := findNow_nil_of s es.toList l 0 h2.vals hs
 refine ⟨es.push ⟨.string s, .int .i64 (x : Int), c⟩, c + 1, ?_, ?_, ?_, ?_, ?_⟩
 · simp [Instr.mapUpdate, run_underlying hT, MapKept.run_getObj_map h1, check_string hK, Instr.findKey, run_underlying hK, hf, Result.andThen, MapKept.run_setObj_map _ h1, World.putObj]
 · simp [entVals, h2.vals]
 · rw [List.map_append, List.nodup_append]
   refine ⟨h2.keys, by simp, ?_⟩
   intro a ha b hb
   simp at hb
   subst hb
   intro e
   obtain ⟨p, hp, hp2⟩ := List.mem_map.1 ha
   simp only [look, Option.map_eq_none_iff, List.find?_eq_none] at hs
   exact hs p hp (by rw [hp2, e]; simp)
 · intro e he
   simp at he
   rcases he with he | rfl
   · have := h2.born e (by simpa using he); omega
   · simp
 · simp only [Array.toList_push, List.map_append, List.map_cons, List.map_nil]
   rw [List.nodup_append]
   refine ⟨h2.apart, by simp, ?_⟩
   intro a ha b hb
   simp at hb
   obtain ⟨p, hp, hp2⟩ := List.mem_map.1 ha
   have := h2.born p hp
   omega
omit hT hK in
end
end Go.Proofs.YtafonmnfeibaiaaGreat
namespace Go.Proofs.YtafonmnfeibaiaaGreat
open Go.RowKit Go.ChangeMaps
def Iter (w : World) (r m : Nat) (l todo : List (ByteArray × Nat)) : Prop :=
 ∃ es clock since seen c0, w.heap[m]? = some (.map es clock) ∧ MapOk es clock l ∧ w.heap[r]? = some (.mapIter (some m) since seen c0) ∧ (∀ x ∈ es.toList, x.born < since) ∧ since ≤ c0 ∧ since ≤ clock ∧ (leftOf es seen).toList.map (fun e => (e.key, e.val)) = entVals todo
theorem Iter.left_eq {w : World} {r m : Nat} {l todo} (h : Iter w r m l todo) : w.rangeLeft m r = todo.length := by
 obtain ⟨es, clock, since, seen, c0, hm, _, hr, _, _, _, ht⟩ := h
 simp only [World.rangeLeft, hm, hr]
 have := congrArg List.length ht
 simpa [entVals] using this
theorem Iter.same {w w' : World} {r m : Nat} {l todo} (h : Iter w r m l todo) (h1 : w'.heap[m]? = w.heap[m]?) (h2 : w'.heap[r]? = w.heap[r]?) : Iter w' r m l todo := by
 obtain ⟨es, clock, since, seen, c0, hm, ho, hr, rest⟩ := h
 exact ⟨es, clock, since, seen, c0, h1.trans hm, ho, h2.trans hr, rest⟩
theorem Iter.lt {w : World} {r m : Nat} {l todo} (h : Iter w r m l todo) : m < w.heap.size ∧ r < w.heap.size := by
 obtain ⟨es, clock, since, seen, c0, hm, _, hr, _⟩ := h
 exact ⟨lH hm, lH hr⟩
theorem iter_start {w : World} {m : Nat} {l} (h : MapIs w m l) : ∃ es clock, w.heap[m]? = some (.map es clock) ∧ MapOk es clock l ∧ Iter (w.alloc (.mapIter (some m) clock #[] clock)) w.heap.size m l l := by
 obtain ⟨es, clock, hm, ho⟩ := h
 refine ⟨es, clock, hm, ho, es, clock, clock, #[], clock, ?_, ho, aQ _ _, ho.born, Nat.le_refl _, Nat.le_refl _, ?_⟩
 · rw [aP _ _ (lH hm)]; exact hm
 · have : leftOf es #[] = es := by unfold leftOf; simp
   rw [this]; exact ho.vals
theorem left_push (es : Array MapEntry) (seen : Array Nat) (b : Nat) : (leftOf es (seen.push b)).toList = (leftOf es seen).toList.filter fun e => !(e.born == b) := by
 unfold leftOf
 rw [Array.toList_filter, Array.toList_filter, List.filter_filter]
 congr 1
 funext e
 rw [contains_push, Bool.not_or, Bool.and_comm]
theorem perm_born {e : MapEntry} : ∀ {L : List MapEntry}, (L.map (·.born)).Nodup → e ∈ L → L.Perm (e :: L.filter fun x => !(x.born == e.born))
 | [], _, h => by cases h
 | x :: L, hn, h => by
   rw [List.map_cons, List.nodup_cons] at hn
   by_cases hx : x.born = e.born
   · have e1 : x = e := by
      rcases List.mem_cons.1 h with e1 | h2
      · exact e1.symm
      · exact absurd (List.mem_map.2 ⟨e, h2, hx.symm⟩) hn.1
     subst e1
     have e2 : L.filter (fun y => !(y.born == x.born)) = L := by
      rw [List.filter_eq_self]
      intro y hy
      have : y.born ≠ x.born := fun e3 => hn.1 (List.mem_map.2 ⟨y, hy, e3⟩)
      simpa using this
     rw [List.filter_cons]
     simp only [beq_self_eq_true, Bool.not_true, Bool.false_eq_true, if_false]
     rw [e2]
   · have h2 : e ∈ L := (List.mem_cons.1 h).resolve_left fun e1 => hx (by rw [e1])
     have ih := perm_born hn.2 h2
     have hx2 : (x.born == e.born) = false := by simpa using hx
     rw [List.filter_cons]
     simp only [hx2, Bool.not_false, if_true]
     exact (ih.cons x).trans (List.Perm.swap _ _ _)
theorem entVals_mem {v : Value × Value} : ∀ {l : List (ByteArray × Nat)}, v ∈ entVals l → ∃ p ∈ l, v = (.string p.1, .int .i64 (p.2 : Int)) := fun {l} h => by
 obtain ⟨p, hp, rfl⟩ := List.mem_map.1 h
 exact ⟨p, hp, rfl⟩
theorem entVals_perm : ∀ {A : List (Value × Value)} {l : List (ByteArray × Nat)}, A.Perm (entVals l) → ∃ l', A = entVals l' ∧ l'.Perm l := by
 intro A l h
 have main : ∀ {B A : List (Value × Value)}, B.Perm A → ∀ l, B = entVals l → ∃ l', A = entVals l' ∧ l.Perm l' := by
  intro B A h
  induction h with
  | nil => intro l hl; exact ⟨l, hl, List.Perm.refl _⟩
  | @cons x L1 L2 _ ih =>
    intro l hl
    cases l with
    | nil => simp [entVals] at hl
    | cons p l =>
      simp only [entVals, List.map_cons, List.cons.injEq] at hl
      obtain ⟨l', h1, h2⟩ := ih l hl.2
      exact ⟨p :: l', by rw [h1, hl.1]; rfl, h2.cons p⟩
  | @swap x y L =>
    intro l hl
    match l, hl with
    | [], hl => simp [entVals] at hl
    | [_], hl => simp [entVals] at hl
    | p :: q :: l, hl =>
      simp only [entVals, List.map_cons, List.cons.injEq] at hl
      exact ⟨q :: p :: l, by rw [hl.1, hl.2.1, hl.2.2]; rfl, List.Perm.swap _ _ _⟩
  | trans _ _ ih1 ih2 =>
    intro l hl
    obtain ⟨l1, h1, h2⟩ := ih1 l hl
    obtain ⟨l2, h3, h4⟩ := ih2 l1 h1
    exact ⟨l2, h3, h2.trans h4⟩
 obtain ⟨l', h1, h2⟩ := main h.symm l rfl
 exact ⟨l', h1, h2.symm⟩
theorem Iter.next {P : Program} {w : World} {r m : Nat} {l todo} (h : Iter w r m l todo) :
  (todo = [] ∧ ∀ ty, (Instr.next (.pointer (some ⟨r, 0, none⟩)) false ty).run P w = .ok (.tuple #[.bool false]) w) ∨
  ∃ p rest w', todo.Perm (p :: rest) ∧ (∀ ty, (Instr.next (.pointer (some ⟨r, 0, none⟩)) false ty).run P w = .ok (.tuple #[.bool true, .string p.1, .int .i64 (p.2 : Int)]) w') ∧
   (Instr.entry (.pointer (some ⟨r, 0, none⟩))).run P w' = .ok (.tuple #[.string p.1, .int .i64 (p.2 : Int)]) w' ∧ Iter w' r m l rest ∧
   w'.os = w.os ∧ w'.tape = w.tape ∧ w'.output = w.output ∧ w'.heap.size = w.heap.size ∧ ∀ b, b ≠ r → w'.heap[b]? = w.heap[b]? := by
 obtain ⟨es, clock, since, seen, c0, hm, ho, hr, hold, hsc, hsk, ht⟩ := h
 have hmr : m ≠ r := fun e => by rw [e, hr] at hm; cases hm
 rcases run_next_at (P := P) w 0 r m since c0 seen es clock hr hm hold hsc with ⟨h0, _⟩ | ⟨e0, he0, _⟩
 · refine .inl ⟨?_, fun ty => ?_⟩
   · have h1 : (leftOf es seen).toList = [] := by simpa using Array.eq_empty_of_size_eq_zero h0
     rw [h1] at ht
     cases todo with
     | nil => rfl
     | cons _ _ => simp [entVals] at ht
   · rcases run_next_at (P := P) w ty r m since c0 seen es clock hr hm hold hsc with ⟨_, hrun⟩ | ⟨e1, he1, _⟩
     · exact hrun
     · have h1 : (leftOf es seen).toList = [] := by simpa using Array.eq_empty_of_size_eq_zero h0
       rw [h1] at he1; cases he1
 · have hty : ∀ ty, (Instr.next (.pointer (some ⟨r, 0, none⟩)) false ty).run P w = (Instr.next (.pointer (some ⟨r, 0, none⟩)) false 0).run P w := fun ty => rfl
   rcases run_next_at (P := P) w 0 r m since c0 seen es clock hr hm hold hsc with ⟨h0, _⟩ | ⟨e, he, w1, hal, hrun⟩
   · have h1 : (leftOf es seen).toList = [] := by simpa using Array.eq_empty_of_size_eq_zero h0
     rw [h1] at he0; cases he0
   · obtain ⟨hem, hes⟩ := mem_left he
     have hn : ((leftOf es seen).toList.map (·.born)).Nodup := by
      unfold leftOf
      rw [Array.toList_filter]
      exact List.Nodup.sublist (List.filter_sublist.map _) ho.apart
     have hperm := perm_born hn he
     rw [← left_push] at hperm
     have hp2 := (hperm.map fun e : MapEntry => (e.key, e.val))
     rw [ht] at hp2
     obtain ⟨l', hl', hpl⟩ := entVals_perm hp2.symm
     cases l' with
     | nil => simp [entVals] at hl'
     | cons p rest =>
       simp only [entVals, List.map_cons, List.cons.injEq, Prod.mk.injEq] at hl'
       obtain ⟨⟨hk, hv⟩, hrest⟩ := hl'
       have hr1 : w1.heap[r]? = some (.mapIter (some m) since seen c0) := by rcases hal with rfl | rfl <;> exact hr
       have hm1 : w1.heap[m]? = some (.map es clock) := by rcases hal with rfl | rfl <;> exact hm
       have hset := MapKept.heap_set (o' := .mapIter (some m) since (seen.push e.born) clock) hr1
       have hm2 : (setBlock w1 r (.mapIter (some m) since (seen.push e.born) clock)).heap[m]? = some (.map es clock) := (hset.2 m hmr).trans hm1
       refine .inr ⟨p, rest, setBlock w1 r (.mapIter (some m) since (seen.push e.born) clock), hpl.symm, fun ty => by rw [hty, hrun, hk, hv], ?_, ⟨es, clock, since, seen.push e.born, clock, hm2, ho, hset.1, hold, hsk, hsk, hrest⟩, ?_, ?_, ?_, ?_, fun b hb => ?_⟩
       · rw [run_entry_at _ r m since seen es clock e hset.1 hm2 hem ho.apart, hk, hv]
       · rcases hal with rfl | rfl <;> rfl
       · rcases hal with rfl | rfl <;> rfl
       · rcases hal with rfl | rfl <;> rfl
       · show (w1.heap.setIfInBounds r _).size = _
         rw [Array.size_setIfInBounds]
         rcases hal with rfl | rfl <;> rfl
       · rw [show (setBlock w1 r (.mapIter (some m) since (seen.push e.born) clock)).heap[b]? = w1.heap[b]? from hset.2 b hb]
         rcases hal with rfl | rfl <;> rfl
end Go.Proofs.YtafonmnfeibaiaaGreat
namespace Go.Proofs.YtafonmnfeibaiaaGreat
open Go.RowKit
def bs (s : ByteArray) : List UInt8 := s.data.toList
theorem bs_inj {a b : ByteArray} (h : bs a = bs b) : a = b := by
 have : a.data = b.data := Array.toList_inj.1 h
 exact ByteArray.ext this
theorem bs_len (s : ByteArray) : (bs s).length = s.size := by unfold bs; simp
def tx (l : List UInt8) : ByteArray := ⟨l.toArray⟩
theorem bs_tx (l : List UInt8) : bs (tx l) = l := by unfold bs tx; simp
theorem tx_bs (s : ByteArray) : tx (bs s) = s := bs_inj (bs_tx _)
def ents (l : List (ByteArray × Nat)) : List (IT.Bytes × Nat) := l.map fun p => (bs p.1, p.2)
def kp (n : Nd) : IT.Kp := ⟨n.kind, n.mode, n.owner, n.group, n.links, n.tty, n.holds, bs n.data, ents n.names, n.parent⟩
def kpOf (S : Tab) : Nat → Option IT.Kp := fun k => (S k).map fun p => kp p.2
theorem kpOf_some {S : Tab} {k b : Nat} {n : Nd} (h : S k = some (b, n)) : kpOf S k = some (kp n) := by unfold kpOf; rw [h]; rfl
theorem kpOf_none {S : Tab} {k : Nat} (h : S k = none) : kpOf S k = none := by unfold kpOf; rw [h]; rfl
theorem kpOf_upd (S : Tab) (k b : Nat) (n : Nd) : kpOf (upd S k (some (b, n))) = IT.updK (kpOf S) k (some (kp n)) := by
 funext j
 unfold kpOf IT.updK upd
 by_cases e : j = k
 · rw [if_pos e, if_pos e]; rfl
 · rw [if_neg e, if_neg e]
theorem kpOf_del (S : Tab) (k : Nat) : kpOf (upd S k none) = IT.updK (kpOf S) k none := by
 funext j
 unfold kpOf IT.updK upd
 by_cases e : j = k
 · rw [if_pos e, if_pos e]; rfl
 · rw [if_neg e, if_neg e]
theorem look_find (s : ByteArray) : ∀ l : List (ByteArray × Nat), IT.findN (bs s) (ents l) = look l s
 | [] => rfl
 | p :: l => by
   have ih := look_find s l
   unfold IT.findN ents look at ih ⊢
   rw [List.map_cons, List.find?_cons, List.find?_cons]
   by_cases h : p.1 = s
   · rw [decide_eq_true h, decide_eq_true (show bs p.1 = bs s by rw [h])]; rfl
   · rw [decide_eq_false h, decide_eq_false (fun e => h (bs_inj e))]; exact ih
theorem ents_del (s : ByteArray) {l : List (ByteArray × Nat)} (h : (l.map (·.1)).Nodup) : ents (delL l s) = IT.delN (bs s) (ents l) := by
 rw [delL_filter s h]
 unfold ents IT.delN
 rw [List.filter_map]
 congr 1
 apply List.filter_congr
 intro p _
 show (!decide (p.1 = s)) = !decide (bs p.1 = bs s)
 congr 1
 exact decide_eq_decide.2 ⟨fun e => by rw [e], bs_inj⟩
theorem Rep.nodup {w : World} {t : Nat} {S : Tab} (h : Rep w t S) {k b : Nat} {n : Nd} (hk : S k = some (b, n)) : (n.names.map (·.1)).Nodup := by
 cases hm : n.mp with
 | none => rw [h.nomap k b n hk hm]; exact List.nodup_nil
 | some m =>
   obtain ⟨es, c, _, ho⟩ := h.map k b n m hk hm
   exact ho.keys
def okc (c : UInt8) : Bool := decide (32 ≤ c.toNat) && decide (c.toNat ≠ 127)
def plainB (l : List UInt8) : Bool := l.all okc
def okN (l : IT.Bytes) : Bool := decide (¬ l = [] ∧ l.length ≤ 14 ∧ ¬ l = [46] ∧ ¬ l = [46, 46] ∧ plainB l = true ∧ ¬ (0 ≤ Lib.indexByte l 47))
structure Tre (w : World) (t : Nat) (S : Tab) (T : IT.Tr) : Prop where
 rep : Rep w t S
 ties : IT.Ties (kpOf S) T IT.calm
 snd : IT.Sound okN T
section
variable {w : World} {t : Nat} {S : Tab} {T : IT.Tr} (h : Tre w t S T)
include h
theorem Tre.none_iff (k : Nat) : S k = none ↔ T k = none := by
 rw [← h.ties.none k]
 constructor
 · exact kpOf_none
 · intro e
   cases hk : S k with
   | none => rfl
   | some p => obtain ⟨b, n⟩ := p; rw [kpOf_some hk] at e; cases e
theorem Tre.get {k b : Nat} {n : Nd} (hk : S k = some (b, n)) : ∃ m, T k = some m ∧ IT.Kept (kp n) m (IT.lnk T k) := by
 obtain ⟨m, hm⟩ := h.ties.get (kpOf_some hk)
 exact ⟨m, hm, h.ties.kept (kpOf_some hk) hm⟩
theorem Tre.back {k : Nat} {m : IT.Nd} (hm : T k = some m) : ∃ b n, S k = some (b, n) ∧ IT.Kept (kp n) m (IT.lnk T k) := by
 cases hk : S k with
 | none => rw [(h.none_iff k).1 hk] at hm; cases hm
 | some p =>
   obtain ⟨b, n⟩ := p
   exact ⟨b, n, rfl, h.ties.kept (kpOf_some hk) hm⟩
theorem Tre.look {k b : Nat} {n : Nd} (hk : S k = some (b, n)) {m : IT.Nd} (hm : T k = some m) (s : ByteArray) : look n.names s = IT.findN (bs s) m.names := by
 have hp : (ents n.names).Perm m.names := (h.ties.kept (kpOf_some hk) hm).names
 rw [← look_find, IT.perm_find (h.snd.1.ord k m hm) hp]
end
def Stp (w : World) (t : Nat) (S : Tab) (R : IT.Tr → Prop) (w' : World) : Prop := ∃ S' T', Mv w t S w' S' ∧ IT.Ties (kpOf S') T' IT.calm ∧ R T'
theorem Stp.tre {w w' : World} {t : Nat} {S : Tab} {R : IT.Tr → Prop} (h : Stp w t S R w') (hR : ∀ T', R T' → IT.Sound okN T') : ∃ S' T', Mv w t S w' S' ∧ Tre w' t S' T' ∧ R T' := by
 obtain ⟨S', T', h1, h2, h3⟩ := h
 exact ⟨S', T', h1, ⟨h1.rep, h2, hR T' h3⟩, h3⟩
theorem Stp.keep {w : World} {t : Nat} {S : Tab} {T : IT.Tr} (h : Tre w t S T) {R : IT.Tr → Prop} (hR : R T) : Stp w t S R w := ⟨S, T, Mv.refl h.rep, h.ties, hR⟩
theorem Stp.keepB {w w' : World} {t : Nat} {S : Tab} {T : IT.Tr} (h : Tre w t S T) (hb : Below w.heap.size w w') {R : IT.Tr → Prop} (hR : R T) : Stp w t S R w' := ⟨S, T, (Mv.refl h.rep).below hb, h.ties, hR⟩
theorem Tre.mv {w w' : World} {t : Nat} {S : Tab} {T : IT.Tr} (h : Tre w t S T) (g : Mv w t S w' S) : Tre w' t S T := ⟨g.rep, h.ties, h.snd⟩
end Go.Proofs.YtafonmnfeibaiaaGreat
namespace Go.Proofs.YtafonmnfeibaiaaGreat
open Go.RowKit
theorem Hd {p : Prop} (h : p) : Hid p := Lib.hid h
theorem oI {α : Type _} {a b : α} (h : some a = some b) : a = b := Option.some.inj h
theorem ret_bool {a b : Bool} (h : a = b) : Ending.returned (.bool a) = .returned (.bool b) := by rw [h]
theorem eqlIn_nil_left {P : Program} (w : World) (d : Nat) (t : TypeId) (p : Option Addr) (h : P.underlying t = some (.pointer (P.pointee t))) :
  (Op.equalIn (d + 1) t (.pointer none) (.pointer p)).run P w = .ok p.isNone w := by
 cases p <;> simp [Op.equalIn, run_underlying h]
theorem eql_nil_some {P : Program} (w : World) (t : TypeId) (a : Addr) (h : P.underlying t = some (.pointer (P.pointee t))) :
  (binOp .eql t (.pointer none) (.pointer (some a))).run P w = .ok (.bool false) w := by
 have h1 : (Op.equal t (.pointer none) (.pointer (some a))).run P w = .ok false w := eqlIn_nil_left w 9999 t (some a) h
 simp only [binOp]
 simp [h1]
def rightB (m o g : Int) : Bool := (bits .and .i64 m 3071 == m) && decide (0 ≤ o ∧ 0 ≤ g ∧ o ≤ 65535 ∧ g ≤ 65535)
theorem right_any (m o g : Int) (w : World) :
  Calls Tryz.prog 53 #[.int .i64 m, .int .i64 o, .int .i64 g] w fun e w' => e = .returned (.bool (rightB m o g)) ∧ w = w' := by
 go_enter Tryz.func53, Tryz.ntmps53
 go_wp2
 all_goals go_ret
 all_goals exact ⟨ret_bool (by rw [Bool.eq_iff_iff]; simp [rightB, *]; try omega), rfl⟩
theorem at_some (t b : Nat) (k : Int) (hk1 : 1 ≤ k) (hk2 : k < 201) (w : World) (hc : w.cell? ⟨t, k.toNat, none⟩ = some (.pointer (some ⟨b, 0, none⟩))) :
  Calls Tryz.prog 34 #[.pointer (some ⟨t, 0, none⟩), .int .i64 k] w fun e w' => e = .returned (.pointer (some ⟨b, 0, none⟩)) ∧ w = w' := by
 go_enter Tryz.func34, Tryz.ntmps34
 go_wp2
 go_ret
 exact ⟨rfl, rfl⟩
theorem at_nil (t : Nat) (k : Int) (hk1 : 1 ≤ k) (hk2 : k < 201) (w : World) (hc : w.cell? ⟨t, k.toNat, none⟩ = some (.pointer none)) :
  Calls Tryz.prog 34 #[.pointer (some ⟨t, 0, none⟩), .int .i64 k] w fun e w' => e = .returned (.pointer none) ∧ w = w' := by
 go_enter Tryz.func34, Tryz.ntmps34
 go_wp2
 go_ret
 exact ⟨rfl, rfl⟩
theorem at_out (t : Nat) (k : Int) (hk : k < 1 ∨ 201 ≤ k) (w : World) :
  Calls Tryz.prog 34 #[.pointer (some ⟨t, 0, none⟩), .int .i64 k] w fun e w' => e = .returned (.pointer none) ∧ w = w' := by
 rcases hk with hk | hk
 all_goals
  go_enter Tryz.func34, Tryz.ntmps34
  go_wp2
  go_ret
  exact ⟨rfl, rfl⟩
theorem Rep.at_some {w : World} {t b : Nat} {S : Tab} {n : Nd} (h : Rep w t S) (k : Int) (hk : S k.toNat = some (b, n)) :
  Calls Tryz.prog 34 #[.pointer (some ⟨t, 0, none⟩), .int .i64 k] w fun e w' => e = .returned (.pointer (some ⟨b, 0, none⟩)) ∧ w = w' := by
 have hr := h.rng _ _ hk
 refine YtafonmnfeibaiaaGreat.at_some t b k (by omega) (by omega) w ?_
 rw [h.cellT _ (by omega), hk]; rfl
theorem Rep.at_none {w : World} {t : Nat} {S : Tab} (h : Rep w t S) (k : Int) (hk : S k.toNat = none) :
  Calls Tryz.prog 34 #[.pointer (some ⟨t, 0, none⟩), .int .i64 k] w fun e w' => e = .returned (.pointer none) ∧ w = w' := by
 by_cases hr : 1 ≤ k ∧ k < 201
 · refine at_nil t k hr.1 hr.2 w ?_
   rw [h.cellT _ (by omega), hk]; rfl
 · exact at_out t k (by omega) w
theorem index_found {w : World} {t : Nat} {S : Tab} (h : Rep w t S) (j : Nat) (hj : j < 200) (hn : S (j + 1) = none) (hs : ∀ i, i < j → S (i + 1) ≠ none) :
  Calls Tryz.prog 112 #[.slice (some ⟨t, 1, none⟩) 200 200, .pointer none] w fun e w' => e = .returned (.int .i64 j) ∧ w = w' := by
 have H := Hd h
 have HS := Hd hs
 have HN := Hd hn
 clear h hs hn
 have he := fun (W : World) (x : Addr) => eql_nil_some (P := Tryz.prog) W 79 x Tryz.underlying79
 go_enter Tryz.func112, Tryz.ntmps112
 go_wp2
 go_loop [8] (fun i => ∃ k : Nat, k ≤ j ∧ i = .int .i64 k) (fun i => 200 - (intOf i).toNat)
 case atStart => exact ⟨0, Nat.zero_le _, rfl⟩
 case round =>
  obtain ⟨k, hk, rfl⟩ := hrel
  have hkt : (k : Int) < 200 := by omega
  by_cases hlt : k < j
  · obtain ⟨x, hx⟩ : ∃ x : Addr, w.cell? ⟨t, 1 + k, none⟩ = some (.pointer (some x)) := by
     have h1 := H.out.cellT (k + 1) (by omega)
     have h2 := HS.out k hlt
     cases e : S (k + 1) with
     | none => exact absurd e h2
     | some y => rw [Nat.add_comm 1 k, h1, e]; exact ⟨_, rfl⟩
    go_wp2
    go_round
    case rel => exact ⟨k + 1, by omega, by go_num⟩
    case measure => simp [intOf]; omega
  · obtain rfl : k = j := by omega
    have hx : w.cell? ⟨t, 1 + k, none⟩ = some (.pointer none) := by
     rw [Nat.add_comm 1 k, H.out.cellT (k + 1) (by omega), HN.out]; rfl
    go_wp2
    go_ret
    exact ⟨rfl, rfl⟩
theorem index_full {w : World} {t : Nat} {S : Tab} (h : Rep w t S) (hs : ∀ i, i < 200 → S (i + 1) ≠ none) :
  Calls Tryz.prog 112 #[.slice (some ⟨t, 1, none⟩) 200 200, .pointer none] w fun e w' => e = .returned (.int .i64 (-1)) ∧ w = w' := by
 have H := Hd h
 have HS := Hd hs
 clear h hs
 have he := fun (W : World) (x : Addr) => eql_nil_some (P := Tryz.prog) W 79 x Tryz.underlying79
 go_enter Tryz.func112, Tryz.ntmps112
 go_wp2
 go_loop [8] (fun i => ∃ k : Nat, k ≤ 200 ∧ i = .int .i64 k) (fun i => 200 - (intOf i).toNat)
 case atStart => exact ⟨0, Nat.zero_le _, rfl⟩
 case round =>
  obtain ⟨k, hk, rfl⟩ := hrel
  by_cases hlt : k < 200
  · obtain ⟨x, hx⟩ : ∃ x : Addr, w.cell? ⟨t, 1 + k, none⟩ = some (.pointer (some x)) := by
     have h1 := H.out.cellT (k + 1) (by omega)
     have h2 := HS.out k hlt
     cases e : S (k + 1) with
     | none => exact absurd e h2
     | some y => rw [Nat.add_comm 1 k, h1, e]; exact ⟨_, rfl⟩
    go_wp2
    go_round
    case rel => exact ⟨k + 1, by omega, by go_num⟩
    case measure => simp [intOf]; omega
  · go_wp2
    go_ret
    exact ⟨rfl, rfl⟩
def layPost (w : World) (t : Nat) (S : Tab) (k : Nat) (n : Nd) (e : Ending) (w' : World) : Prop :=
 ∃ b mp, e = .returned (.pointer (some ⟨b, 0, none⟩)) ∧ Mv w t S w' (upd S k (some (b, { n with mp := mp })))
theorem lay_file {w : World} {t : Nat} {S : Tab} (h : Rep w t S) (ki : Int) (k : Nat) (hki : ki = k) (hk1 : 1 ≤ k) (hk2 : k ≤ 200) (hk : S k = none) (ino kind mode owner group links tty : Int) (hkind : kind ≠ 1) :
  Calls Tryz.prog 54 #[.pointer (some ⟨t, 0, none⟩), .int .i64 ki, .agg #[.int .i64 ino, .int .i64 kind, .int .i64 mode, .int .i64 owner, .int .i64 group, .int .i64 links, .int .i64 0, .int .i64 tty]] w
   (layPost w t S k ⟨k, kind, mode, owner, group, links, tty, 0, ByteArray.empty, none, [], 0⟩) := by
 subst hki
 have hc := h.cellT k (by omega)
 rw [hk] at hc
 simp only [ptrOf, Option.map_none] at hc
 have hf := h.frozenT k
 have ht := h.ltT
 have hkk : (kind == 1) = false := by simpa using hkind
 have hb1 : (1 : Int) ≤ k := by omega
 have hb2 : (k : Int) ≤ 200 := by omega
 have HK := Hd hk
 have H := Hd h
 have HD := Hd hkind
 clear h hk hkind
 go_enter Tryz.func54, Tryz.ntmps54
 go_wp2
 go_ret
 refine ⟨w.heap.size + 1, none, rfl, ?_⟩
 rw [setCell_alloc _ _ _ _ _ ht, setCell_alloc _ _ _ _ _ (by rw [aZ]; omega)]
 refine (((Mv.refl H.out).alloc _).alloc _).setSome k hk1 hk2 HK.out (w.heap.size + 1) _ ?_ (fun m hm => by cases hm) (fun _ => rfl) (fun hf => ?_) rfl (by simpa using HD.out) ⟨Nat.zero_le _, Nat.zero_le _⟩ (by omega)
 · have := aQ (w.alloc (Obj.cells #[Value.int IntKind.i64 ↑k, Value.int IntKind.i64 kind, Value.int IntKind.i64 mode, Value.int IntKind.i64 owner, Value.int IntKind.i64 group, Value.int IntKind.i64 links, Value.int IntKind.i64 0, Value.int IntKind.i64 tty] 44)) (Obj.cells (Nd.cells ⟨k, kind, mode, owner, group, links, tty, 0, ByteArray.empty, none, [], 0⟩) 83)
   rw [aZ] at this
   exact this
 · have := H.out.foot_lt hf; omega
theorem lay_dir {w : World} {t : Nat} {S : Tab} (h : Rep w t S) (ki : Int) (k : Nat) (hki : ki = k) (hk1 : 1 ≤ k) (hk2 : k ≤ 200) (hk : S k = none) (ino mode owner group links tty : Int) :
  Calls Tryz.prog 54 #[.pointer (some ⟨t, 0, none⟩), .int .i64 ki, .agg #[.int .i64 ino, .int .i64 1, .int .i64 mode, .int .i64 owner, .int .i64 group, .int .i64 links, .int .i64 0, .int .i64 tty]] w
   (layPost w t S k ⟨k, 1, mode, owner, group, links, tty, 0, ByteArray.empty, none, [], k⟩) := by
 subst hki
 have hc := h.cellT k (by omega)
 rw [hk] at hc
 simp only [ptrOf, Option.map_none] at hc
 have hf := h.frozenT k
 have ht := h.ltT
 have ht1 : t < w.heap.size + 1 := by omega
 have ht2 : t < w.heap.size + 1 + 1 := by omega
 have hb1 : (1 : Int) ≤ k := by omega
 have hb2 : (k : Int) ≤ 200 := by omega
 have HK := Hd hk
 have H := Hd h
 clear h hk
 have hmm := @run_makeMap Tryz.prog
 go_enter Tryz.func54, Tryz.ntmps54
 go_wp2
 go_ret
 refine ⟨w.heap.size + 1, some (w.heap.size + 1 + 1), rfl, ?_⟩
 rw [setCell_alloc _ _ _ _ _ ht, setCell_alloc _ _ _ _ _ (by rw [aZ]; omega), setCell_alloc _ _ _ _ _ (by rw [aZ, aZ]; omega)]
 generalize hA : Obj.cells #[Value.int IntKind.i64 ↑k, Value.int IntKind.i64 1, Value.int IntKind.i64 mode, Value.int IntKind.i64 owner, Value.int IntKind.i64 group, Value.int IntKind.i64 links, Value.int IntKind.i64 0, Value.int IntKind.i64 tty] 44 = A
 have hm0 := aQ ((w.alloc A).alloc (Obj.cells (Nd.cells ⟨k, 1, mode, owner, group, links, tty, 0, ByteArray.empty, some (w.heap.size + 1 + 1), [], k⟩) 83)) (.map #[] 0)
 have hn0 := aQ (w.alloc A) (Obj.cells (Nd.cells ⟨k, 1, mode, owner, group, links, tty, 0, ByteArray.empty, some (w.heap.size + 1 + 1), [], k⟩) 83)
 rw [aZ, aZ] at hm0
 rw [aZ] at hn0
 refine ((((Mv.refl H.out).alloc _).alloc _).alloc _).setSome k hk1 hk2 HK.out (w.heap.size + 1) _ ?_ (fun m hm => ?_) (fun e => by cases e) (fun hf => ?_) rfl rfl ⟨Nat.zero_le _, Nat.zero_le _⟩ (by omega)
 · rw [aP _ _ (by rw [aZ, aZ]; omega)]; exact hn0
 · obtain rfl : w.heap.size + 1 + 1 = m := by simpa using hm
   exact ⟨⟨#[], 0, hm0, rfl, List.nodup_nil, fun e he => by simp at he, List.nodup_nil⟩, fun hf => by have := H.out.foot_lt hf; omega, by omega⟩
 · have := H.out.foot_lt hf; omega
theorem upd_upd (S : Tab) (k : Nat) (x y) : upd (upd S k x) k y = upd S k y := by
 funext j; by_cases e : j = k <;> simp [upd, e]
theorem ret_tup {a b : Int} {v : Value} (h : a = b) : Ending.returned (.tuple #[.int .i64 a, v]) = .returned (.tuple #[.int .i64 b, v]) := by rw [h]
def Free (S : Tab) (j : Nat) : Prop := j < 200 ∧ S (j + 1) = none ∧ ∀ i, i < j → S (i + 1) ≠ none
def makePost (w : World) (t : Nat) (S : Tab) (j : Nat) (n : Nd) (e : Ending) (w' : World) : Prop :=
 ∃ b mp, e = .returned (.tuple #[.int .i64 (j + 1), .int .i64 0]) ∧ Mv w t S w' (upd S (j + 1) (some (b, { n with mp := mp })))
theorem make_file {w : World} {t : Nat} {S : Tab} (h : Rep w t S) (j : Nat) (hj : Free S j) (mode owner group tty : Int) (hr : rightB mode owner group = true) :
  Calls Tryz.prog 78 #[.pointer (some ⟨t, 0, none⟩), .int .i64 0, .int .i64 mode, .int .i64 owner, .int .i64 group, .int .i64 tty] w
   (makePost w t S j ⟨(j : Int) + 1, 0, mode, owner, group, 0, 0, 1, ByteArray.empty, none, [], 0⟩) := by
 have H := Hd h
 have HJ := Hd hj
 have hb : (j : Int) < 200 := by have := hj.1; omega
 have hb2 : ((1 + (j : Int)) == 0) = false := by simp; omega
 clear h hj
 go_enter Tryz.func78, Tryz.ntmps78
 go_wp2_with fail
 refine (right_any _ _ _ _).mono ?_
 rintro e w' ⟨rfl, rfl⟩
 go_wp2_with fail
 refine (index_found ((Mv.refl H.out).alloc _).rep j HJ.out.1 HJ.out.2.1 HJ.out.2.2).mono ?_
 rintro e w' ⟨rfl, rfl⟩
 go_wp2_with fail
 refine (lay_file ((Mv.refl H.out).alloc _).rep _ (j + 1) (by omega) (by omega) (by omega) HJ.out.2.1 _ _ _ _ _ _ _ (by decide)).mono ?_
 rintro e w' ⟨b, mp, rfl, hmv⟩
 have hc := hmv.rep.cellN (uY ..) 8
 have hfz := hmv.rep.frozenN (uY ..) 8
 replace hc : w'.cell? ⟨b, 8, none⟩ = some (.int .i64 0) := hc
 have HM := Hd hmv
 clear hmv
 go_wp2
 go_ret2
 have h2 := (((Mv.refl H.out).alloc _).trans HM.out).setNode (uY ..) 8 (.int .i64 1) ⟨(j : Int) + 1, 0, mode, owner, group, 0, 0, 1, ByteArray.empty, mp, [], 0⟩ rfl rfl rfl rfl rfl (Nat.zero_le _)
 rw [upd_upd] at h2
 exact ⟨b, mp, ret_tup (by omega), h2⟩
def Nd.info (n : Nd) : Value := .agg #[.int .i64 n.ino, .int .i64 n.kind, .int .i64 n.mode, .int .i64 n.owner, .int .i64 n.group, .int .i64 n.links, .int .i64 (n.data.size + n.names.length), .int .i64 n.tty]
def noInfo : Value := .agg #[.int .i64 0, .int .i64 0, .int .i64 0, .int .i64 0, .int .i64 0, .int .i64 0, .int .i64 0, .int .i64 0]
theorem len_none (W : World) (ty : TypeId) : (Builtin.len_ #[81] ty #[.map none]).run Tryz.prog W = .ok (.int .i64 0) W := by
 simp [Builtin.len_, run_underlying Tryz.underlying81, goInt]
theorem MapIs.len {w : World} {m : Nat} {l : List (ByteArray × Nat)} (h : MapIs w m l) (ty : TypeId) : (Builtin.len_ #[81] ty #[.map (some m)]).run Tryz.prog w = .ok (.int .i64 l.length) w := by
 obtain ⟨es, c, h1, h2⟩ := h
 have h3 : es.size = l.length := by have := congrArg List.length h2.vals; simpa [entVals] using this
 simp [Builtin.len_, run_underlying Tryz.underlying81, MapKept.run_getObj_map h1, goInt, h3]
theorem Rep.len {w : World} {t b k : Nat} {S : Tab} {n : Nd} (h : Rep w t S) (hk : S k = some (b, n)) (ty : TypeId) : (Builtin.len_ #[81] ty #[.map n.mp]).run Tryz.prog w = .ok (.int .i64 n.names.length) w := by
 cases hm : n.mp with
 | none => rw [h.nomap k b n hk hm]; exact len_none w ty
 | some m => exact (h.map k b n m hk hm).len ty
theorem stat_some {w : World} {t b : Nat} {S : Tab} {n : Nd} (h : Rep w t S) (k : Int) (hk : S k.toNat = some (b, n)) :
  Calls Tryz.prog 17 #[.pointer (some ⟨t, 0, none⟩), .int .i64 k] w fun e w' => e = .returned (.tuple #[n.info, .bool true]) ∧ Below w.heap.size w w' := by
 obtain ⟨ino, kind, mode, owner, group, links, tty, holds, data, mp, names, parent⟩ := n
 have c0 : w.cell? ⟨b, 0, none⟩ = some (.int .i64 ino) := h.cellN hk 0
 have c1 : w.cell? ⟨b, 1, none⟩ = some (.int .i64 kind) := h.cellN hk 1
 have c2 : w.cell? ⟨b, 2, none⟩ = some (.int .i64 mode) := h.cellN hk 2
 have c3 : w.cell? ⟨b, 3, none⟩ = some (.int .i64 owner) := h.cellN hk 3
 have c4 : w.cell? ⟨b, 4, none⟩ = some (.int .i64 group) := h.cellN hk 4
 have c5 : w.cell? ⟨b, 5, none⟩ = some (.int .i64 links) := h.cellN hk 5
 have c6 : w.cell? ⟨b, 6, none⟩ = some (.int .i64 0) := h.cellN hk 6
 have c7 : w.cell? ⟨b, 7, none⟩ = some (.int .i64 tty) := h.cellN hk 7
 have c9 : w.cell? ⟨b, 9, none⟩ = some (.string data) := h.cellN hk 9
 have c10 : w.cell? ⟨b, 10, none⟩ = some (.map mp) := h.cellN hk 10
 have hb := h.ltN hk
 obtain ⟨hs1, hs2⟩ : data.size ≤ 4096 ∧ names.length ≤ 40 := h.small _ _ _ hk
 have hs3 : (data.size : Int) ≤ 4096 := by omega
 have hs4 : (names.length : Int) ≤ 40 := by omega
 clear hs1 hs2
 have H := Hd h
 have HK := Hd hk
 have hl : ∀ A B ty, (Builtin.len_ #[81] ty #[.map mp]).run Tryz.prog ((w.alloc A).alloc B).drew = .ok (.int .i64 names.length) ((w.alloc A).alloc B).drew := fun A B ty => (((Mv.refl h).alloc A).alloc B).drew.rep.len hk ty
 clear h hk
 go_enter Tryz.func17, Tryz.ntmps17
 go_wp2_with fail
 refine (((Mv.refl H.out).alloc _).rep.at_some _ HK.out).mono ?_
 rintro e w' ⟨rfl, rfl⟩
 go_wp2_with fail
 go_region
 go_wp2
 refine bodyPost_ret (v := .tuple #[Nd.info ⟨ino, kind, mode, owner, group, links, tty, holds, data, mp, names, parent⟩, .bool true]) (by simp [results, Tryz.results17, go_sem, Nd.info]) rfl ⟨rfl, ?_⟩
 exact (((Below.refl _ _).alloc (Nat.le_refl _) _).alloc (by rw [aZ]; omega) _).drew
section
variable {w : World} {t b k : Nat} {S : Tab} {n : Nd} (h : Rep w t S) (hk : S k = some (b, n))
include h hk
theorem Rep.c0 : w.cell? ⟨b, 0, none⟩ = some (.int .i64 n.ino) := h.cellN hk 0
theorem Rep.c1 : w.cell? ⟨b, 1, none⟩ = some (.int .i64 n.kind) := h.cellN hk 1
theorem Rep.c2 : w.cell? ⟨b, 2, none⟩ = some (.int .i64 n.mode) := h.cellN hk 2
theorem Rep.c3 : w.cell? ⟨b, 3, none⟩ = some (.int .i64 n.owner) := h.cellN hk 3
theorem Rep.c4 : w.cell? ⟨b, 4, none⟩ = some (.int .i64 n.group) := h.cellN hk 4
theorem Rep.c5 : w.cell? ⟨b, 5, none⟩ = some (.int .i64 n.links) := h.cellN hk 5
theorem Rep.c8 : w.cell? ⟨b, 8, none⟩ = some (.int .i64 n.holds) := h.cellN hk 8
theorem Rep.c9 : w.cell? ⟨b, 9, none⟩ = some (.string n.data) := h.cellN hk 9
theorem Rep.c10 : w.cell? ⟨b, 10, none⟩ = some (.map n.mp) := h.cellN hk 10
theorem Rep.c11 : w.cell? ⟨b, 11, none⟩ = some (.int .i64 (n.parent : Int)) := h.cellN hk 11
end
def Nd.lost (n : Nd) (x : Nat) : Nd := { n with links := n.links - 1, parent := if n.kind = 1 then x else n.parent }
theorem kp_lost (n : Nd) (x : Nat) : kp (n.lost x) = IT.losK x (kp n) := rfl
theorem Mv.lost {w : World} {t b k : Nat} {S : Tab} {n : Nd} (h : Rep w t S) (hk : S k = some (b, n)) (hkd : n.kind = 1) :
  Mv w t S ((w.setCell ⟨b, 5, none⟩ (.int .i64 (n.links - 1))).setCell ⟨b, 11, none⟩ (.int .i64 n.ino)) (upd S k (some (b, n.lost k))) := by
 have hsm := (h.small k b n hk).1
 have hino := h.ino k b n hk
 have h1 := (Mv.refl h).setNode hk 5 (.int .i64 (n.links - 1)) { n with links := n.links - 1 } rfl rfl rfl rfl rfl hsm
 have h2 := h1.setNode (uY ..) 11 (.int .i64 n.ino) (n.lost k) (by simp [Nd.lost, Nd.cells, hkd, hino]) rfl rfl rfl rfl hsm
 rw [upd_upd] at h2
 exact h2
theorem Mv.lost' {w : World} {t b k : Nat} {S : Tab} {n : Nd} (h : Rep w t S) (hk : S k = some (b, n)) (hkd : n.kind ≠ 1) :
  Mv w t S (w.setCell ⟨b, 5, none⟩ (.int .i64 (n.links - 1))) (upd S k (some (b, n.lost k))) := by
 have hsm := (h.small k b n hk).1
 exact (Mv.refl h).setNode hk 5 (.int .i64 (n.links - 1)) (n.lost k) (by simp [Nd.lost, Nd.cells, hkd]) rfl rfl rfl rfl hsm
def GonePost (w : World) (t : Nat) (S : Tab) (T : IT.Tr) (pend : Nat → Nat) (e : Ending) (w' : World) : Prop :=
 e = .returned (.tuple #[]) ∧ ∃ S' T', Mv w t S w' S' ∧ IT.Ties (kpOf S') T' pend ∧ IT.goneP pend T T'
def GoneOk (f : Nat) : Prop := ∀ (w : World) (t : Nat) (S : Tab) (T : IT.Tr) (pend : Nat → Nat) (k b : Nat) (n : Nd), Rep w t S → IT.Sound0 okN T → IT.Ties (kpOf S) T pend → (∀ x, IT.lnk T x + pend x ≤ 8) →
 (∀ j, IT.can T j → pend j ≠ 0 ∨ j = k) → S k = some (b, n) → IT.cnt T ≤ f →
 Calls Tryz.prog 82 #[.pointer (some ⟨t, 0, none⟩), .pointer (some ⟨b, 0, none⟩)] w (GonePost w t S T pend)
def LosesOk (f : Nat) : Prop := ∀ (w : World) (t : Nat) (S : Tab) (T : IT.Tr) (pend : Nat → Nat) (x b : Nat) (n : Nd), Rep w t S → IT.Sound0 okN T → IT.Ties (kpOf S) T pend → (∀ x, IT.lnk T x + pend x ≤ 8) →
 IT.Only T pend → pend x ≠ 0 → S x = some (b, n) → IT.cnt T ≤ f →
 Calls Tryz.prog 81 #[.pointer (some ⟨t, 0, none⟩), .pointer (some ⟨b, 0, none⟩)] w (GonePost w t S T (IT.less pend x))
theorem less_le (pend : Nat → Nat) (x y : Nat) : IT.less pend x y ≤ pend y := by unfold IT.less; split <;> omega
theorem gone_keep {w : World} {t b k : Nat} {S : Tab} {n : Nd} (h : Rep w t S) (hk : S k = some (b, n)) (hc : 0 < n.links ∨ 0 < n.holds ∨ n.ino = 1) :
  Calls Tryz.prog 82 #[.pointer (some ⟨t, 0, none⟩), .pointer (some ⟨b, 0, none⟩)] w fun e w' => e = .returned (.tuple #[]) ∧ w = w' := by
 have c0 := h.c0 hk
 have c5 := h.c5 hk
 have c8 := h.c8 hk
 obtain ⟨ino, kind, mode, owner, group, links, tty, holds, data, mp, names, parent⟩ := n
 simp only at c0 c5 c8 hc
 clear h hk
 by_cases h1 : 0 < links
 · clear hc
   go_enter Tryz.func82, Tryz.ntmps82
   go_wp2
   exact bodyPost_ret (results_none rfl _ _ _) rfl ⟨rfl, rfl⟩
 · by_cases h2 : 0 < holds
   · clear hc
     go_enter Tryz.func82, Tryz.ntmps82
     go_wp2
     exact bodyPost_ret (results_none rfl _ _ _) rfl ⟨rfl, rfl⟩
   · obtain rfl : ino = 1 := by omega
     clear hc
     go_enter Tryz.func82, Tryz.ntmps82
     go_wp2
     exact bodyPost_ret (results_none rfl _ _ _) rfl ⟨rfl, rfl⟩
theorem loses_of {f : Nat} (G : GoneOk f) : LosesOk f := by
 intro w t S T pend x b n h hsd hties hbd hon hpx hk hcnt
 obtain ⟨m, hm⟩ := hties.get (kpOf_some hk)
 have hlk : n.links = ((IT.lnk T x + pend x : Nat) : Int) := (hties.some x _ m (kpOf_some hk) hm).2.2.2.2.2.2.2.2.1
 have hb0 := hbd x
 have hb1 : 1 ≤ n.links := by omega
 have hb2 : n.links ≤ 8 := by omega
 have c0 := h.c0 hk
 have c1 := h.c1 hk
 have c5 := h.c5 hk
 have c11 := h.c11 hk
 have f5 := h.frozenN hk 5
 have f11 := h.frozenN hk 11
 have GG : ∀ w1 : World, Mv w t S w1 (upd S x (some (b, n.lost x))) → Calls Tryz.prog 82 #[.pointer (some ⟨t, 0, none⟩), .pointer (some ⟨b, 0, none⟩)] w1 (GonePost w t S T (IT.less pend x)) := by
  intro w1 hmv
  have ht2 : IT.Ties (kpOf (upd S x (some (b, n.lost x)))) T (IT.less pend x) := by
   rw [kpOf_upd, kp_lost]; exact hties.less (kpOf_some hk) hpx
  refine (G w1 t _ T (IT.less pend x) x b (n.lost x) hmv.rep hsd ht2 (fun y => ?_) (hon.less x) (uY ..) hcnt).mono ?_
  · have := hbd y; have := less_le pend x y; omega
  · rintro e w' ⟨rfl, S', T', g1, g2, g3⟩
    exact ⟨rfl, S', T', hmv.trans g1, g2, g3⟩
 have H := Hd h
 have HK := Hd hk
 have HG := Hd GG
 clear h hk hsd hties hbd hon hm hlk hb0 GG
 by_cases hkd : n.kind = 1
 · have hkb : (n.kind == 1) = true := by simpa using hkd
   have HD := Hd hkd
   clear hkd
   go_enter Tryz.func81, Tryz.ntmps81
   go_wp2_with fail
   refine (HG.out _ (Mv.lost H.out HK.out HD.out)).mono ?_
   rintro e w' ⟨rfl, hp⟩
   have HP := Hd hp
   clear hp
   go_wp2
   go_end0
   exact ⟨rfl, HP.out⟩
 · have hkb : (n.kind == 1) = false := by simpa using hkd
   have HD := Hd hkd
   clear hkd
   go_enter Tryz.func81, Tryz.ntmps81
   go_wp2_with fail
   refine (HG.out _ (Mv.lost' H.out HK.out HD.out)).mono ?_
   rintro e w' ⟨rfl, hp⟩
   have HP := Hd hp
   clear hp
   go_wp2
   go_end0
   exact ⟨rfl, HP.out⟩
end Go.Proofs.YtafonmnfeibaiaaGreat
namespace Go.Proofs.YtafonmnfeibaiaaGreat.RF
open Go.RowKit
theorem lA : type_of% @List.getElem_toArray := @List.getElem_toArray
theorem lB : type_of% @List.getElem_cons_zero := @List.getElem_cons_zero
theorem lC : type_of% @List.getElem_cons_succ := @List.getElem_cons_succ
theorem lD : type_of% @List.setIfInBounds_toArray := @List.setIfInBounds_toArray
theorem lE : type_of% @List.set_cons_zero := @List.set_cons_zero
theorem lF : type_of% @List.set_cons_succ := @List.set_cons_succ
structure RN where
 is : Bool
 kind : Int
 mode : Int
 owner : Int
 group : Int
 tty : Int
 holds : Int
 parent : Int
 data : ByteArray
 sl : Value
 ents : List (ByteArray × Nat)
def RN.cells (n : RN) : List Value := [.bool n.is, .int .i64 n.kind, .int .i64 n.mode, .int .i64 n.owner, .int .i64 n.group, .int .i64 n.tty, .int .i64 n.holds, .int .i64 n.parent, .string n.data, n.sl]
def noRN : RN := ⟨false, 0, 0, 0, 0, 0, 0, 0, ⟨#[]⟩, .slice none 0 0, []⟩
abbrev Gt := Nat → RN
theorem cells_len (n : RN) : n.cells.length = 10 := rfl
def rowA (G : Gt) : Array Value := Array.ofFn (n := 2010) fun i => ((G (i.val / 10)).cells)[i.val % 10]'(by rw [cells_len]; omega)
theorem rowA_size (G : Gt) : (rowA G).size = 2010 := by simp [rowA]
theorem rowA_get (G : Gt) (i : Nat) (h : i < 2010) : (rowA G)[i]? = (G (i / 10)).cells[i % 10]? := by
 have h2 : i % 10 < (G (i / 10)).cells.length := by rw [cells_len]; omega
 rw [List.getElem?_eq_getElem h2]
 simp [rowA, h]
theorem rowA_at (G : Gt) {k j : Nat} (hk : k ≤ 200) (hj : j < 10) : (rowA G)[k * 10 + j]? = (G k).cells[j]? := by
 rw [rowA_get G _ (by omega), show (k * 10 + j) / 10 = k by omega, show (k * 10 + j) % 10 = j by omega]
def updG (G : Gt) (k : Nat) (n : RN) : Gt := fun j => if j = k then n else G j
theorem updG_same (G : Gt) (k : Nat) (n : RN) : updG G k n k = n := if_pos rfl
theorem updG_other (G : Gt) {k j : Nat} (n : RN) (h : j ≠ k) : updG G k n j = G j := if_neg h
theorem rowA_set (G : Gt) {k j : Nat} (hk : k ≤ 200) (hj : j < 10) (v : Value) (n : RN) (hn : n.cells = (G k).cells.set j v) : (rowA G).setIfInBounds (k * 10 + j) v = rowA (updG G k n) := by
 apply Array.ext_getElem?
 intro i
 rw [Array.getElem?_setIfInBounds, rowA_size]
 by_cases hi : i < 2010
 · rw [rowA_get _ i hi, rowA_get _ i hi]
   by_cases e : i / 10 = k
   · subst e
     rw [updG_same, hn, List.getElem?_set]
     by_cases e2 : i / 10 * 10 + j = i
     · have e3 : j = i % 10 := by omega
       rw [if_pos e2, if_pos (by omega), if_pos e3, if_pos (by rw [cells_len]; exact hj)]
     · have e3 : ¬ j = i % 10 := by omega
       rw [if_neg e2, if_neg e3]
   · rw [updG_other _ _ e, if_neg (by omega)]
 · have h1 : (rowA G)[i]? = none := Array.getElem?_eq_none (by rw [rowA_size]; omega)
   have h2 : (rowA (updG G k n))[i]? = none := Array.getElem?_eq_none (by rw [rowA_size]; omega)
   rw [h1, h2, if_neg (by omega)]
def flatE (l : List (ByteArray × Nat)) : List Value := l.flatMap fun p => [.string p.1, .int .i64 (p.2 : Int)]
theorem flatE_len : ∀ l, (flatE l).length = l.length * 2
 | [] => rfl
 | p :: l => by
   have := flatE_len l
   unfold flatE at this ⊢
   simp only [List.flatMap_cons, List.length_append, List.length_cons, List.length_nil]
   omega
theorem flatE_get : ∀ (l : List (ByteArray × Nat)) (j : Nat) (p : ByteArray × Nat), l[j]? = some p → (flatE l)[2 * j]? = some (.string p.1) ∧ (flatE l)[2 * j + 1]? = some (.int .i64 (p.2 : Int))
 | [], j, p, h => by cases h
 | q :: l, 0, p, h => by
   obtain rfl : q = p := by simpa using h
   exact ⟨rfl, rfl⟩
 | q :: l, j + 1, p, h => by
   have ih := flatE_get l j p (by simpa using h)
   rw [show 2 * (j + 1) = 2 * j + 1 + 1 by omega, show 2 * j + 1 + 1 + 1 = (2 * j + 1) + 1 + 1 by omega]
   exact ih
theorem flatE_app (l l' : List (ByteArray × Nat)) : flatE (l ++ l') = flatE l ++ flatE l' := List.flatMap_append
theorem flatE_one : ∀ (l : List (ByteArray × Nat)), ∀ u ∈ flatE l, u.oneCell' = true
 | [], u, h => by cases h
 | p :: l, u, h => by
   unfold flatE at h
   rw [List.flatMap_cons, List.mem_append] at h
   rcases h with h | h
   · simp only [List.mem_cons, List.not_mem_nil, or_false] at h
     rcases h with rfl | rfl <;> rfl
   · exact flatE_one l u h
def EntAt (w : World) (n : RN) : Prop := w.ownsRow 0 148 2 n.sl n.ents.length (flatE n.ents)
structure Rf (w : World) (t B : Nat) (G : Gt) : Prop where
 tree : w.heap[t]? = some (.cells #[.slice (some ⟨B, 0, none⟩) 201 201] 109 (0, 0))
 row : w.heap[B]? = some (.cells (rowA G) 112 (0, 0))
 ents : ∀ k, k ≤ 200 → EntAt w (G k)
structure Mo (b : Nat) (w w' : World) : Prop where
 os : w'.os = w.os
 tape : w'.tape = w.tape
 output : w'.output = w.output
 size : w.heap.size ≤ w'.heap.size
 block : ∀ k, k < w.heap.size → k ≠ b → w'.heap[k]? = w.heap[k]?
theorem Mo.refl (b : Nat) (w : World) : Mo b w w := ⟨rfl, rfl, rfl, Nat.le_refl _, fun _ _ _ => rfl⟩
theorem Mo.trans {b : Nat} {a c d : World} (h : Mo b a c) (k : Mo b c d) : Mo b a d :=
 ⟨k.os.trans h.os, k.tape.trans h.tape, k.output.trans h.output, Nat.le_trans h.size k.size, fun i hi hb => (k.block i (Nat.lt_of_lt_of_le hi h.size) hb).trans (h.block i hi hb)⟩
theorem Mo.of {b : Nat} {w w' : World} (h : Below w.heap.size w w') : Mo b w w' := ⟨h.os, h.tape, h.output, h.size, fun k hk _ => h.block k hk⟩
theorem Mo.set {b i : Nat} {a w : World} (h : Mo b a w) (v : Value) : Mo b a (w.setCell ⟨b, i, none⟩ v) where
 os := h.os
 tape := h.tape
 output := h.output
 size := by rw [World.size_setCell]; exact h.size
 block := fun k hk hb => by rw [Below.heap_setCell _ _ _ _ hb]; exact h.block k hk hb
theorem Mo.alloc {b : Nat} {a w : World} (h : Mo b a w) (o : Obj) : Mo b a (w.alloc o) := h.trans (Mo.of ((Below.refl _ _).alloc (Nat.le_refl _) o))
theorem Mo.drew {b : Nat} {a w : World} (h : Mo b a w) : Mo b a w.drew := h.trans (Mo.of (Below.refl _ _).drew)
theorem Mo.below {b : Nat} {a w w' : World} (h : Mo b a w) (k : Below w.heap.size w w') : Mo b a w' := h.trans (Mo.of k)
variable {w w' : World} {t B : Nat} {G : Gt}
theorem Rf.ltB (h : Rf w t B G) : B < w.heap.size := lH h.row
theorem Rf.ltT (h : Rf w t B G) : t < w.heap.size := lH h.tree
theorem Rf.ne (h : Rf w t B G) : t ≠ B := fun e => by
 have h1 := h.tree
 rw [e, h.row] at h1
 have := congrArg (fun o => match o with | some (Obj.cells C _ _) => C.size | _ => 0) h1
 simp [rowA_size] at this
theorem Rf.cellT (h : Rf w t B G) : w.cell? ⟨t, 0, none⟩ = some (.slice (some ⟨B, 0, none⟩) 201 201) := cO h.tree 0
theorem Rf.cell (h : Rf w t B G) {k j : Nat} (hk : k ≤ 200) (hj : j < 10) : w.cell? ⟨B, k * 10 + j, none⟩ = (G k).cells[j]? := (cO h.row _).trans (rowA_at G hk hj)
theorem Rf.c0 (h : Rf w t B G) (k : Nat) (hk : k ≤ 200) : w.cell? ⟨B, k * 10, none⟩ = some (.bool (G k).is) := h.cell (j := 0) hk (by omega)
theorem Rf.c1 (h : Rf w t B G) (k : Nat) (hk : k ≤ 200) : w.cell? ⟨B, k * 10 + 1, none⟩ = some (.int .i64 (G k).kind) := h.cell (j := 1) hk (by omega)
theorem Rf.c2 (h : Rf w t B G) (k : Nat) (hk : k ≤ 200) : w.cell? ⟨B, k * 10 + 2, none⟩ = some (.int .i64 (G k).mode) := h.cell (j := 2) hk (by omega)
theorem Rf.c3 (h : Rf w t B G) (k : Nat) (hk : k ≤ 200) : w.cell? ⟨B, k * 10 + 3, none⟩ = some (.int .i64 (G k).owner) := h.cell (j := 3) hk (by omega)
theorem Rf.c4 (h : Rf w t B G) (k : Nat) (hk : k ≤ 200) : w.cell? ⟨B, k * 10 + 4, none⟩ = some (.int .i64 (G k).group) := h.cell (j := 4) hk (by omega)
theorem Rf.c5 (h : Rf w t B G) (k : Nat) (hk : k ≤ 200) : w.cell? ⟨B, k * 10 + 5, none⟩ = some (.int .i64 (G k).tty) := h.cell (j := 5) hk (by omega)
theorem Rf.c6 (h : Rf w t B G) (k : Nat) (hk : k ≤ 200) : w.cell? ⟨B, k * 10 + 6, none⟩ = some (.int .i64 (G k).holds) := h.cell (j := 6) hk (by omega)
theorem Rf.c7 (h : Rf w t B G) (k : Nat) (hk : k ≤ 200) : w.cell? ⟨B, k * 10 + 7, none⟩ = some (.int .i64 (G k).parent) := h.cell (j := 7) hk (by omega)
theorem Rf.c8 (h : Rf w t B G) (k : Nat) (hk : k ≤ 200) : w.cell? ⟨B, k * 10 + 8, none⟩ = some (.string (G k).data) := h.cell (j := 8) hk (by omega)
theorem Rf.c9 (h : Rf w t B G) (k : Nat) (hk : k ≤ 200) : w.cell? ⟨B, k * 10 + 9, none⟩ = some (G k).sl := h.cell (j := 9) hk (by omega)
theorem Rf.frozen (h : Rf w t B G) (i : Nat) : w.frozen? ⟨B, i, none⟩ = false := fO h.row i
theorem EntAt.same {n : RN} (h : EntAt w n) (hs : ∀ (g : Nat) (C : Array Value) (f : Nat × Nat), w.heap[g]? = some (Obj.cells C 148 f) → w'.heap[g]? = w.heap[g]?) : EntAt w' n := by
 obtain ⟨h1, h2⟩ := h
 refine ⟨h1, ?_⟩
 rcases h2 with h2 | ⟨g, cap, cur, e1, e2, e3, e4⟩
 · exact .inl h2
 · exact .inr ⟨g, cap, cur, e1, e2, (hs g _ _ e3).trans e3, e4⟩
theorem Rf.same (h : Rf w t B G) (hs : ∀ b, b < w.heap.size → w'.heap[b]? = w.heap[b]?) : Rf w' t B G :=
 ⟨(hs t h.ltT).trans h.tree, (hs B h.ltB).trans h.row, fun k hk => (h.ents k hk).same fun g _ _ hg => hs g (lH hg)⟩
theorem Rf.below (h : Rf w t B G) (hb : Below w.heap.size w w') : Rf w' t B G := h.same hb.block
theorem Rf.set (h : Rf w t B G) {k j : Nat} (hk : k ≤ 200) (hj : j < 10) (v : Value) (n : RN) (hn : n.cells = (G k).cells.set j v) (he : EntAt w n) : Rf (w.setCell ⟨B, k * 10 + j, none⟩ v) t B (updG G k n) := by
 have hne : ∀ (g : Nat) (C : Array Value) (f : Nat × Nat), w.heap[g]? = some (Obj.cells C 148 f) → (w.setCell ⟨B, k * 10 + j, none⟩ v).heap[g]? = w.heap[g]? := fun g C f hg => Below.heap_setCell _ _ _ _ (fun e => by
  subst e
  have := hg.symm.trans h.row
  simp at this)
 refine ⟨(Below.heap_setCell _ _ _ _ h.ne).trans h.tree, ?_, fun i hi => ?_⟩
 · rw [heap_setCell_same h.row, rowA_set G hk hj v n hn]
 · by_cases e : i = k
   · subst e; rw [updG_same]; exact he.same hne
   · rw [updG_other _ _ e]; exact (h.ents i hi).same hne
end Go.Proofs.YtafonmnfeibaiaaGreat.RF
namespace Go.Proofs.YtafonmnfeibaiaaGreat.RF
open Go.RowKit
structure Kept (n : RN) (m : IT.Nd) : Prop where
 is : n.is = true
 kind : n.kind = m.kind
 mode : n.mode = m.mode
 owner : n.owner = m.owner
 group : n.group = m.group
 tty : n.tty = m.tty
 holds : n.holds = (m.holds : Int)
 parent : m.kind = 1 → n.parent = (m.parent : Int)
 data : bs n.data = m.data
 names : (ents n.ents).Perm m.names
structure Tie (G : Gt) (T : IT.Tr) : Prop where
 nok : ∀ k, k ≤ 200 → T k = none → (G k).is = false ∧ (G k).ents = []
 sok : ∀ k m, T k = some m → Kept (G k) m
structure Trf (w : World) (t B : Nat) (G : Gt) (T : IT.Tr) : Prop where
 rep : Rf w t B G
 ties : Tie G T
 snd : IT.Sound okN T
def Stf (w : World) (t B : Nat) (R : IT.Tr → Prop) (w' : World) : Prop := ∃ G' T', Mo B w w' ∧ Rf w' t B G' ∧ Tie G' T' ∧ R T'
theorem Stf.keep {w w' : World} {t B : Nat} {G : Gt} {T : IT.Tr} (h : Trf w t B G T) (hb : Below w.heap.size w w') {R : IT.Tr → Prop} (hR : R T) : Stf w t B R w' := ⟨G, T, Mo.of hb, h.rep.below hb, h.ties, hR⟩
def isB (G : Gt) (ki : Int) : Bool := decide (1 ≤ ki) && (decide (ki ≤ 200) && (G ki.toNat).is)
theorem Trf.isB {w : World} {t B : Nat} {G : Gt} {T : IT.Tr} (h : Trf w t B G T) (ki : Int) : isB G ki = (T ki.toNat).isSome := by
 unfold RF.isB
 cases hk : T ki.toNat with
 | some m =>
   have := (h.snd.1.rng _ m hk)
   rw [(h.ties.sok _ m hk).is, decide_eq_true (by omega), decide_eq_true (by omega)]; rfl
 | none =>
   by_cases h1 : 1 ≤ ki
   · by_cases h2 : ki ≤ 200
     · rw [(h.ties.nok _ (by omega) hk).1]; simp
     · rw [decide_eq_false h2]; simp
   · rw [decide_eq_false h1]; simp
theorem rf_is {w : World} {t B : Nat} {G : Gt} (h : Rf w t B G) (ki : Int) :
  Calls Tryz.prog 105 #[.pointer (some ⟨t, 0, none⟩), .int .i64 ki] w fun e w' => e = .returned (.bool (isB G ki)) ∧ w = w' := by
 by_cases h1 : 1 ≤ ki
 · by_cases h2 : ki ≤ 200
   · obtain ⟨k, rfl⟩ : ∃ k : Nat, ki = (k : Int) := ⟨ki.toNat, by omega⟩
     have c0 := h.cellT
     have b0 := h.c0 k (by omega)
     have e0 : isB G (k : Int) = (G k).is := by unfold isB; rw [decide_eq_true h1, decide_eq_true h2]; rfl
     rw [e0]
     clear h e0
     go_enter Tryz.func105, Tryz.ntmps105
     go_wp2
     go_ret
     exact ⟨rfl, rfl⟩
   · have e0 : isB G ki = false := by unfold isB; rw [decide_eq_false h2]; simp
     rw [e0]
     have h3 : 200 < ki := by omega
     clear h e0 h2
     go_enter Tryz.func105, Tryz.ntmps105
     go_wp2
     go_ret
     exact ⟨rfl, rfl⟩
 · have e0 : isB G ki = false := by unfold isB; rw [decide_eq_false h1]; simp
   rw [e0]
   have h3 : ki < 1 := by omega
   clear h e0 h1
   go_enter Tryz.func105, Tryz.ntmps105
   go_wp2
   go_ret
   exact ⟨rfl, rfl⟩
theorem rf_is_no {w : World} {t B : Nat} {G : Gt} {T : IT.Tr} (h : Trf w t B G T) (ki : Int) (hn : T ki.toNat = none) :
  Calls Tryz.prog 105 #[.pointer (some ⟨t, 0, none⟩), .int .i64 ki] w fun e w' => e = .returned (.bool false) ∧ w = w' := by
 have := rf_is h.rep ki
 rw [h.isB, hn] at this
 exact this
theorem rY {w : World} {t B : Nat} {G : Gt} {T : IT.Tr} (h : Trf w t B G T) (ki : Int) {m : IT.Nd} (hm : T ki.toNat = some m) :
  Calls Tryz.prog 105 #[.pointer (some ⟨t, 0, none⟩), .int .i64 ki] w fun e w' => e = .returned (.bool true) ∧ w = w' := by
 have := rf_is h.rep ki
 rw [h.isB, hm] at this
 exact this
theorem Trf.nat {w : World} {t B : Nat} {G : Gt} {T : IT.Tr} (h : Trf w t B G T) {ki : Int} {m : IT.Nd} (hm : T ki.toNat = some m) : ∃ k : Nat, ki = (k : Int) ∧ 1 ≤ k ∧ k ≤ 200 ∧ T k = some m := by
 have := h.snd.1.rng _ m hm
 exact ⟨ki.toNat, by omega, this.1, this.2, hm⟩
def dirB (o : Option IT.Nd) : Bool := match o with
 | none => false
 | some m => m.kind == 1
theorem rf_dir {w : World} {t B : Nat} {G : Gt} {T : IT.Tr} (h : Trf w t B G T) (ki : Int) :
  Calls Tryz.prog 91 #[.pointer (some ⟨t, 0, none⟩), .int .i64 ki] w fun e w' => e = .returned (.bool (dirB (T ki.toNat))) ∧ w = w' := by
 cases hm : T ki.toNat with
 | none =>
   show Calls _ _ _ _ (fun e w' => e = .returned (.bool false) ∧ w = w')
   have HI := Hd (rf_is_no h ki hm)
   clear h hm
   go_enter Tryz.func91, Tryz.ntmps91
   go_wp2_with fail
   refine HI.out.mono ?_
   rintro e w' ⟨rfl, rfl⟩
   go_wp2
   go_ret
   exact ⟨rfl, rfl⟩
 | some m =>
   show Calls _ _ _ _ (fun e w' => e = .returned (.bool (m.kind == 1)) ∧ w = w')
   have HI := Hd (rY h ki hm)
   obtain ⟨k, rfl, hk1, hk2, hk⟩ := h.nat hm
   have c0 := h.rep.cellT
   have b1 := h.rep.c1 k hk2
   rw [(h.ties.sok k m hk).kind] at b1
   clear h hm hk
   go_enter Tryz.func91, Tryz.ntmps91
   go_wp2_with fail
   refine HI.out.mono ?_
   rintro e w' ⟨rfl, rfl⟩
   go_wp2
   go_ret
   exact ⟨rfl, rfl⟩
def fileE (o : Option IT.Nd) : Int := match o with
 | none => 3
 | some m => if m.kind = 1 then 7 else if m.kind = 2 then 1 else 0
theorem rf_file {w : World} {t B : Nat} {G : Gt} {T : IT.Tr} (h : Trf w t B G T) (ki : Int) :
  Calls Tryz.prog 121 #[.pointer (some ⟨t, 0, none⟩), .int .i64 ki] w fun e w' => e = .returned (.int .i64 (fileE (T ki.toNat))) ∧ w = w' := by
 cases hm : T ki.toNat with
 | none =>
   have HI := Hd (rf_is_no h ki hm)
   clear h hm
   go_enter Tryz.func121, Tryz.ntmps121
   go_wp2_with fail
   refine HI.out.mono ?_
   rintro e w' ⟨rfl, rfl⟩
   go_wp2
   go_ret
   exact ⟨rfl, rfl⟩
 | some m =>
   have HI := Hd (rY h ki hm)
   obtain ⟨k, rfl, hk1, hk2, hk⟩ := h.nat hm
   have c0 := h.rep.cellT
   have b1 := h.rep.c1 k hk2
   rw [(h.ties.sok k m hk).kind] at b1
   clear h hm hk
   show Calls _ _ _ _ (fun e w' => e = .returned (.int .i64 (if m.kind = 1 then 7 else if m.kind = 2 then 1 else 0)) ∧ w = w')
   by_cases k1 : m.kind = 1
   · rw [k1] at b1
     rw [if_pos k1]
     clear k1
     go_enter Tryz.func121, Tryz.ntmps121
     go_wp2_with fail
     refine HI.out.mono ?_
     rintro e w' ⟨rfl, rfl⟩
     go_wp2
     go_ret
     exact ⟨rfl, rfl⟩
   · rw [if_neg k1]
     have z1 : (m.kind == 1) = false := by simpa using k1
     by_cases k2 : m.kind = 2
     · rw [k2] at b1 z1
       rw [if_pos k2]
       clear k1 k2
       go_enter Tryz.func121, Tryz.ntmps121
       go_wp2_with fail
       refine HI.out.mono ?_
       rintro e w' ⟨rfl, rfl⟩
       go_wp2
       go_ret
       exact ⟨rfl, rfl⟩
     · rw [if_neg k2]
       have z2 : (m.kind == 2) = false := by simpa using k2
       clear k1 k2
       go_enter Tryz.func121, Tryz.ntmps121
       go_wp2_with fail
       refine HI.out.mono ?_
       rintro e w' ⟨rfl, rfl⟩
       go_wp2
       go_ret
       exact ⟨rfl, rfl⟩
theorem EntAt.lit {w : World} {n : RN} (h : EntAt w n) : ∃ a cap, n.sl = .slice a n.ents.length cap ∧ n.ents.length ≤ cap ∧ cap ≤ maxLen ∧ ∀ (j : Nat) (p : ByteArray × Nat), n.ents[j]? = some p → ∃ g : Nat, a = some ⟨g, 0, none⟩ ∧ w.cell? ⟨g, j * 2, none⟩ = some (.string p.1) ∧ w.cell? ⟨g, j * 2 + 1, none⟩ = some (.int .i64 (p.2 : Int)) := by
 obtain ⟨h1, h2⟩ := h
 rcases h2 with ⟨e1, e2⟩ | ⟨g, cap, cur, e1, e2, e3, e4, e5, e6, e7⟩
 · refine ⟨none, 0, by rw [e1, e2], by omega, by decide, fun j p hp => ?_⟩
   have := (List.getElem?_eq_some_iff.1 hp).1
   omega
 · refine ⟨_, cap, e1, e4, e5, fun j p hp => ⟨g, rfl, ?_⟩⟩
   have hj := (List.getElem?_eq_some_iff.1 hp).1
   obtain ⟨f1, f2⟩ := flatE_get _ _ _ hp
   rw [cO e3, cO e3]
   rw [← e7] at f1 f2
   rw [List.getElem?_take_of_lt (by omega)] at f1 f2
   rw [Nat.mul_comm 2 j] at f1 f2
   exact ⟨by simpa using f1, by simpa using f2⟩
theorem txt_ne {a b : ByteArray} (h : a ≠ b) : (a.toList == b.toList) = false := by
 rw [beq_eq_false_iff_ne]
 intro e
 rw [ByteArray.toList_eq, ByteArray.toList_eq] at e
 exact h (bs_inj e)
theorem rf_at_none {w : World} {t B : Nat} {G : Gt} (h : Rf w t B G) (k : Nat) (hk : k ≤ 200) (nm : ByteArray) (hn : ∀ p ∈ (G k).ents, p.1 ≠ nm) :
  Calls Tryz.prog 119 #[.pointer (some ⟨t, 0, none⟩), .int .i64 (k : Int), .string nm] w fun e w' => e = .returned (.int .i64 (-1)) ∧ w = w' := by
 have c0 := h.cellT
 have b9 := h.c9 k hk
 obtain ⟨a, cap, hs, hl1, hl2, hl3⟩ := (h.ents k hk).lit
 rw [hs] at b9
 have hlen : (G k).ents.length ≤ 9223372036854775807 := by unfold maxLen at hl2; omega
 have HL := Hd hl3
 have HN := Hd hn
 clear hs hl1 hl2 hl3 hn h
 generalize (G k).ents = E at *
 go_enter Tryz.func119, Tryz.ntmps119
 go_wp2
 go_loopg [7] E.length (fun g i wr => ∃ j : Nat, j + g = E.length ∧ i = .int .i64 (j : Int) ∧ wr = w)
 case atStart => exact ⟨0, Nat.zero_add _, rfl, rfl⟩
 case round =>
  obtain ⟨j, hj, rfl, rfl⟩ := hrel
  by_cases hlt : j < E.length
  · obtain ⟨p, hp⟩ : ∃ p, E[j]? = some p := ⟨E[j], List.getElem?_eq_getElem hlt⟩
    obtain ⟨g, rfl, f1, _⟩ := HL.out j p hp
    have hne : (p.1.toList == nm.toList) = false := txt_ne (HN.out p (List.mem_of_getElem? hp))
    clear hp
    go_wp2
    go_roundg (gk - 1)
    case measure => omega
    case rel => exact ⟨j + 1, by omega, by go_num, rfl⟩
  · go_wp2
    go_ret
    exact ⟨rfl, rfl⟩
theorem rf_at_some {w : World} {t B : Nat} {G : Gt} (h : Rf w t B G) (k : Nat) (hk : k ≤ 200) (nm : ByteArray) {i : Nat} {x : Nat} (hi : (G k).ents[i]? = some (nm, x)) (hn : ∀ j p, j < i → (G k).ents[j]? = some p → p.1 ≠ nm) :
  Calls Tryz.prog 119 #[.pointer (some ⟨t, 0, none⟩), .int .i64 (k : Int), .string nm] w fun e w' => e = .returned (.int .i64 (i : Int)) ∧ w = w' := by
 have c0 := h.cellT
 have b9 := h.c9 k hk
 obtain ⟨a, cap, hs, hl1, hl2, hl3⟩ := (h.ents k hk).lit
 rw [hs] at b9
 have hlen : (G k).ents.length ≤ 9223372036854775807 := by unfold maxLen at hl2; omega
 have hil : i < (G k).ents.length := (List.getElem?_eq_some_iff.1 hi).1
 have HL := Hd hl3
 have HN := Hd hn
 have HI := Hd hi
 clear hs hl1 hl2 hl3 hn h hi
 generalize (G k).ents = E at *
 go_enter Tryz.func119, Tryz.ntmps119
 go_wp2
 go_loopg [7] i (fun g v wr => ∃ j : Nat, j + g = i ∧ v = .int .i64 (j : Int) ∧ wr = w)
 case atStart => exact ⟨0, Nat.zero_add _, rfl, rfl⟩
 case round =>
  obtain ⟨j, hj, rfl, rfl⟩ := hrel
  by_cases hlt : j < i
  · have hjl : j < E.length := by omega
    obtain ⟨p, hp⟩ : ∃ p, E[j]? = some p := ⟨E[j], List.getElem?_eq_getElem hjl⟩
    obtain ⟨g, rfl, f1, _⟩ := HL.out j p hp
    have hne : (p.1.toList == nm.toList) = false := txt_ne (HN.out j p hlt hp)
    clear hp
    go_wp2
    go_roundg (gk - 1)
    case measure => omega
    case rel => exact ⟨j + 1, by omega, by go_num, rfl⟩
  · obtain rfl : j = i := by omega
    obtain ⟨g, rfl, f1, _⟩ := HL.out j _ HI.out
    clear hlt hj
    go_wp2
    go_ret
    exact ⟨rfl, rfl⟩
def cntE (l : List (ByteArray × Nat)) (x : Nat) : Nat := (l.filter fun p => decide (p.2 = x)).length
theorem cntE_take {l : List (ByteArray × Nat)} {j : Nat} {p : ByteArray × Nat} (h : l[j]? = some p) (x : Nat) : cntE (l.take (j + 1)) x = cntE (l.take j) x + if p.2 = x then 1 else 0 := by
 obtain ⟨hj, e⟩ := List.getElem?_eq_some_iff.1 h
 unfold cntE
 rw [List.take_succ_eq_append_getElem hj, List.filter_append, List.length_append, e]
 by_cases hx : p.2 = x <;> simp [hx]
theorem cntE_le (l : List (ByteArray × Nat)) (x : Nat) : cntE l x ≤ l.length := List.length_filter_le _ _
def sumG (G : Gt) (x k : Nat) : Nat := ((List.range k).map fun i => if i = 0 then 0 else cntE (G i).ents x).sum
theorem sumG_one (G : Gt) (x : Nat) : sumG G x 1 = 0 := rfl
theorem sumG_succ (G : Gt) (x k : Nat) (hk : k ≠ 0) : sumG G x (k + 1) = sumG G x k + cntE (G k).ents x := by
 unfold sumG
 rw [List.range_succ, List.map_append, List.sum_append]
 simp [hk]
theorem sumG_lnk {G : Gt} {T : IT.Tr} (h0 : ∀ k n, T k = some n → 1 ≤ k ∧ k ≤ 200) (h : Tie G T) (x : Nat) : sumG G x 201 = IT.lnk T x := by
 unfold sumG IT.lnk
 refine IT.sum_eq _ fun k hk => ?_
 have hk2 : k ≤ 200 := by have := List.mem_range.1 hk; omega
 cases hT : T k with
 | none =>
   rw [(h.nok k hk2 hT).2]
   show (if k = 0 then 0 else 0) = 0
   split <;> rfl
 | some m =>
   have hk1 := (h0 k m hT).1
   rw [if_neg (by omega)]
   have hp := (h.sok k m hT).names
   show cntE (G k).ents x = (m.names.filter fun p => decide (p.2 = x)).length
   rw [← (hp.filter _).length_eq]
   unfold cntE ents
   rw [List.filter_map, List.length_map]
   rfl
theorem rf_sum {w : World} {t B : Nat} {G : Gt} (h : Rf w t B G) (x : Nat) (hs : ∀ k, k ≤ 200 → (G k).ents.length ≤ 40) :
  Calls Tryz.prog 107 #[.pointer (some ⟨t, 0, none⟩), .int .i64 (x : Int)] w fun e w' => e = .returned (.int .i64 (sumG G x 201 : Nat)) ∧ w = w' := by
 have c0 := h.cellT
 have H := Hd h
 have HS := Hd hs
 have hle : ∀ k, k ≤ 201 → sumG G x k ≤ 40 * k := fun k => by
  induction k with
  | zero => intro _; exact Nat.le_refl _
  | succ k ih =>
    intro hk
    by_cases hz : k = 0
    · subst hz; rw [sumG_one]; omega
    · rw [sumG_succ G x k hz]
      have := ih (by omega)
      have := cntE_le (G k).ents x
      have := hs k (by omega)
      omega
 have HLE := Hd hle
 clear h hs hle
 go_enter Tryz.func107, Tryz.ntmps107
 go_wp2
 go_loopg [5, 6] 200 (fun g n i wr => ∃ k m : Nat, 1 ≤ k ∧ k + g = 201 ∧ i = .int .i64 (k : Int) ∧ m = sumG G x k ∧ n = .int .i64 (m : Int) ∧ wr = w)
 case atStart => exact ⟨1, 0, by omega, by omega, rfl, (sumG_one G x).symm, rfl, rfl⟩
 case round =>
  obtain ⟨k, m, hk1, hk2, rfl, hm, rfl, rfl⟩ := hrel
  have HM := Hd hm
  have hmle : m ≤ 40 * 201 := by rw [hm]; have := HLE.out k (by omega); omega
  clear hm
  by_cases hlt : k ≤ 200
  · obtain ⟨og, rfl⟩ : ∃ og, gk = og + 1 := ⟨gk - 1, by omega⟩
    have b9 := H.out.c9 k hlt
    obtain ⟨a, cap, hs, hl1, hl2, hl3⟩ := (H.out.ents k hlt).lit
    have hen := HS.out k hlt
    rw [hs] at b9
    have HSC := Hd (sumG_succ G x k (by omega))
    generalize (G k).ents = E at *
    have HL := Hd hl3
    have HHH : Hid (m + cntE E x = sumG G x (k + 1)) := Hd (by rw [HSC.out, HM.out])
    clear hs hl1 hl2 hl3
    go_wp2
    go_loopg [5, 7] E.length (fun g2 n i wr2 => ∃ j m2 : Nat, j + g2 = E.length ∧ i = .int .i64 (j : Int) ∧ m2 = m + cntE (E.take j) x ∧ n = .int .i64 (m2 : Int) ∧ wr2 = wr)
    case atStart => exact ⟨0, m, Nat.zero_add _, rfl, rfl, rfl, rfl⟩
    case round =>
     obtain ⟨j, m2, hj, rfl, hm2, rfl, rfl⟩ := hrel
     have HM2 := Hd hm2
     have hm2le : m2 ≤ 40 * 201 + 40 := by have := cntE_le (E.take j) x; have : (E.take j).length ≤ E.length := by rw [List.length_take]; omega
                                           omega
     clear hm2
     by_cases hjl : j < E.length
     · obtain ⟨p, hp⟩ : ∃ p, E[j]? = some p := ⟨E[j], List.getElem?_eq_getElem hjl⟩
       obtain ⟨g, rfl, f1, f2⟩ := HL.out j p hp
       have HCT := Hd (cntE_take hp x)
       clear hp f1
       by_cases hx : p.2 = x
       · have HX := Hd hx
         have hxx : (p.2 == x) = true := by simpa using hx
         clear hx
         go_wp2
         go_roundg (gk - 1)
         case measure => omega
         case rel => exact ⟨j + 1, m2 + 1, by omega, by go_num, by rw [HCT.out, if_pos HX.out, HM2.out]; omega, by go_num, rfl⟩
       · have HX := Hd hx
         have hxx : (p.2 == x) = false := by simpa using hx
         clear hx
         go_wp2
         go_roundg (gk - 1)
         case measure => omega
         case rel => exact ⟨j + 1, m2, by omega, by go_num, by rw [HCT.out, if_neg HX.out, HM2.out]; rfl, rfl, rfl⟩
     · go_wp2
       go_roundg og
       case measure => omega
       case rel => exact ⟨k + 1, m2, by omega, by omega, by go_num, by rw [← HHH.out, HM2.out, List.take_of_length_le (by omega)], rfl, rfl⟩
  · obtain rfl : k = 201 := by omega
    go_wp2
    go_ret
    exact ⟨congrArg (fun z : Nat => Ending.returned (.int .i64 (z : Int))) HM.out, rfl⟩
def putA : Array Value → Nat → List Value → Array Value
 | C, _, [] => C
 | C, o, v :: r => putA (C.setIfInBounds o v) (o + 1) r
theorem heap_setCells {R : Nat} {T : TypeId} {f : Nat × Nat} : ∀ (vs : List Value) (o : Nat) (C : Array Value) (W : World), W.heap[R]? = some (.cells C T f) → (W.setCells R o vs).heap[R]? = some (.cells (putA C o vs) T f)
 | [], _, _, _, h => h
 | v :: r, o, C, W, h => heap_setCells r (o + 1) _ _ (heap_setCell_same h v)
theorem setCells_size {R : Nat} : ∀ (vs : List Value) (o : Nat) (W : World), (W.setCells R o vs).heap.size = W.heap.size
 | [], _, _ => rfl
 | v :: r, o, W => by rw [World.setCells, setCells_size r]; simp [World.setCell]
theorem below_setCells {R n : Nat} {w : World} (hn : n ≤ R) : ∀ (vs : List Value) (o : Nat) (W : World), Below n w W → Below n w (W.setCells R o vs)
 | [], _, _, h => h
 | v :: r, o, W, h => below_setCells hn r (o + 1) _ (h.setCell hn _)
theorem heap_setCells_other {R b : Nat} (hb : b ≠ R) : ∀ (vs : List Value) (o : Nat) (W : World), (W.setCells R o vs).heap[b]? = W.heap[b]?
 | [], _, _ => rfl
 | v :: r, o, W => by rw [World.setCells, heap_setCells_other hb r, Below.heap_setCell _ _ _ _ hb]
theorem setCells_os {R : Nat} : ∀ (vs : List Value) (o : Nat) (W : World), (W.setCells R o vs).os = W.os ∧ (W.setCells R o vs).tape = W.tape ∧ (W.setCells R o vs).output = W.output
 | [], _, _ => ⟨rfl, rfl, rfl⟩
 | v :: r, o, W => by
   obtain ⟨a, b, c⟩ := setCells_os r (o + 1) (W.setCell ⟨R, o, none⟩ v)
   exact ⟨a, b, c⟩
theorem putA_get : ∀ (vs : List Value) (o : Nat) (C : Array Value) (i : Nat), o + vs.length ≤ C.size → (putA C o vs)[i]? = if o ≤ i ∧ i < o + vs.length then vs[i - o]? else C[i]?
 | [], o, C, i, _ => by
   rw [if_neg (fun hh => by simp at hh; omega)]; rfl
 | v :: r, o, C, i, h => by
   have h' : o + 1 + r.length ≤ (C.setIfInBounds o v).size := by simp at h ⊢; omega
   rw [putA, putA_get r (o + 1) _ i h']
   simp only [List.length_cons] at h ⊢
   by_cases e : o + 1 ≤ i ∧ i < o + 1 + r.length
   · rw [if_pos e, if_pos (by omega), show i - o = i - (o + 1) + 1 by omega, List.getElem?_cons_succ]
   · rw [if_neg e, Array.getElem?_setIfInBounds]
     by_cases e2 : o = i
     · subst e2
       rw [if_pos rfl, if_pos (by omega), if_pos (by omega), Nat.sub_self]; rfl
     · rw [if_neg e2, if_neg (by omega)]
theorem rowA_put (G : Gt) {k : Nat} (hk : k ≤ 200) (n : RN) : putA (rowA G) (k * 10) n.cells = rowA (updG G k n) := by
 apply Array.ext_getElem?
 intro i
 rw [putA_get _ _ _ _ (by rw [rowA_size, cells_len]; omega), cells_len]
 by_cases hi : i < 2010
 · rw [rowA_get _ i hi]
   by_cases e : i / 10 = k
   · subst e
     rw [if_pos (by omega), rowA_get _ i hi, updG_same, show i - i / 10 * 10 = i % 10 by omega]
   · rw [if_neg (by omega), rowA_get _ i hi, updG_other _ _ e]
 · rw [if_neg (by omega), Array.getElem?_eq_none (by rw [rowA_size]; omega), Array.getElem?_eq_none (by rw [rowA_size]; omega)]
theorem Rf.setAll {w : World} {t B : Nat} {G : Gt} (h : Rf w t B G) {k : Nat} (hk : k ≤ 200) (n : RN) (he : EntAt w n) : Rf (w.setCells B (k * 10) n.cells) t B (updG G k n) := by
 have hot : ∀ b, b ≠ B → (w.setCells B (k * 10) n.cells).heap[b]? = w.heap[b]? := fun b hb => heap_setCells_other hb _ _ _
 have hne : ∀ (g : Nat) (C : Array Value) (f : Nat × Nat), w.heap[g]? = some (Obj.cells C 148 f) → (w.setCells B (k * 10) n.cells).heap[g]? = w.heap[g]? := fun g C f hg => hot g (fun e => by
  subst e
  have := hg.symm.trans h.row
  simp at this)
 refine ⟨(hot t h.ne).trans h.tree, ?_, fun i hi => ?_⟩
 · rw [heap_setCells _ _ _ _ h.row, rowA_put G hk]
 · by_cases e : i = k
   · subst e; rw [updG_same]; exact he.same hne
   · rw [updG_other _ _ e]; exact (h.ents i hi).same hne
theorem Rf.there {w : World} {t B : Nat} {G : Gt} (h : Rf w t B G) {k : Nat} (hk : k ≤ 200) : w.there B (k * 10) 10 := fun j hj => by
 rw [h.cell hk hj, List.getElem?_eq_getElem (by rw [cells_len]; exact hj)]
 exact ⟨rfl, h.frozen _⟩
theorem EntAt.nil (w : World) (n : RN) (h1 : n.sl = .slice none 0 0) (h2 : n.ents = []) : EntAt w n := by
 unfold EntAt
 rw [h1, h2]
 exact ⟨rfl, .inl ⟨rfl, rfl⟩⟩
theorem Mo.setCells {b : Nat} {a w : World} (h : Mo b a w) (o : Nat) (vs : List Value) : Mo b a (w.setCells b o vs) where
 os := (setCells_os vs o w).1.trans h.os
 tape := (setCells_os vs o w).2.1.trans h.tape
 output := (setCells_os vs o w).2.2.trans h.output
 size := by rw [setCells_size]; exact h.size
 block := fun k hk hb => (heap_setCells_other hb _ _ _).trans (h.block k hk hb)
def WithinP (T : IT.Tr) (x d : Nat) (w : World) (e : Ending) (w' : World) : Prop := ∃ b : Bool, e = .returned (.bool b) ∧ (b = true ↔ IT.Bel T x d) ∧ w = w'
theorem rf_within {w : World} {t B : Nat} {G : Gt} {T : IT.Tr} (h : Trf w t B G T) (d x : Nat) {n : IT.Nd} (hd : T d = some n) (hdk : n.kind = 1) :
  Calls Tryz.prog 124 #[.pointer (some ⟨t, 0, none⟩), .int .i64 (d : Int), .int .i64 (x : Int)] w (WithinP T x d w) := by
 obtain ⟨rk, hr1, hr2⟩ := h.snd.1.rank
 have c0 := h.rep.cellT
 have H := Hd h
 have HR2 := Hd hr2
 have HR1 := Hd (hr1 d n hd)
 have HD := Hd hd
 have HK := Hd hdk
 clear h hr1 hr2 hd hdk
 go_enter Tryz.func124, Tryz.ntmps124
 go_wp2
 go_loopg [1, 7] 201 (fun g dv iv wr => ∃ (k kd : Nat), k + g = 201 ∧ dv = .int .i64 (kd : Int) ∧ iv = .int .i64 (k : Int) ∧ wr = w ∧ Hid (∃ m, T kd = some m ∧ m.kind = 1 ∧ (IT.Bel T x d ↔ IT.Bel T x kd) ∧ (rk kd + k ≤ rk d ∨ (m.parent = kd ∧ kd ≠ x))))
 case atStart => exact ⟨0, d, by omega, rfl, rfl, rfl, Hd ⟨n, HD.out, HK.out, Iff.rfl, .inl (Nat.le_refl _)⟩⟩
 case round =>
  obtain ⟨k, kd, hkg, rfl, rfl, rfl, HH⟩ := hrel
  by_cases hlt : k ≤ 200
  · obtain ⟨og, rfl⟩ : ∃ og, gk = og + 1 := ⟨gk - 1, by omega⟩
    by_cases hx : kd = x
    · subst hx
      go_wp2
      go_ret
      obtain ⟨m, h1, h2, h3, h4⟩ := HH.out
      exact ⟨true, rfl, ⟨fun _ => h3.2 .self, fun _ => rfl⟩, rfl⟩
    · have hxx : (kd == x) = false := by simpa using hx
      have HX := Hd hx
      clear hx
      by_cases h1 : kd = 1
      · subst h1
        go_wp2
        go_ret
        obtain ⟨m, h1, h2, h3, h4⟩ := HH.out
        refine ⟨false, rfl, ⟨(fun hh => by cases hh), fun hh => ?_⟩, rfl⟩
        obtain ⟨r, e1, e2, e3⟩ := H.out.snd.1.root
        exact absurd (h3.1 hh) (IT.bel_top e1 HX.out e3)
      · have h11 : (kd == 1) = false := by simpa using h1
        have HKD := Hd h1
        clear h1
        obtain ⟨m, e1, e2, e3, e4⟩ := HH.out
        have hkd := (H.out.snd.1.rng kd m e1).2
        have b7 := H.out.rep.c7 kd hkd
        rw [(H.out.ties.sok kd m e1).parent e2] at b7
        have HM : Hid (∃ m', T m.parent = some m' ∧ m'.kind = 1 ∧ (IT.Bel T x d ↔ IT.Bel T x m.parent) ∧ (rk m.parent + (k + 1) ≤ rk d ∨ (m'.parent = m.parent ∧ m.parent ≠ x))) := Hd (by
         by_cases hp : m.parent = kd
         · rw [hp]
           refine ⟨m, e1, e2, e3, .inr ⟨hp, HX.out⟩⟩
         · obtain ⟨g1, m', g2, g3⟩ := HR2.out kd m e1 e2 hp
           refine ⟨m', g2, g3, e3.trans (IT.bel_step e1 e2 HX.out hp), ?_⟩
           rcases e4 with e4 | e4
           · exact .inl (by omega)
           · exact absurd e4.1 hp)
        clear e1 e2 e3 e4
        generalize m.parent = pa at *
        go_wp2
        go_roundg og
        case measure => omega
        case rel => exact ⟨k + 1, pa, by omega, rfl, by go_num, rfl, HM⟩
  · have h3 : 200 < k := by omega
    clear hlt
    go_wp2
    go_ret
    obtain ⟨m, e1, e2, e3, e4⟩ := HH.out
    refine ⟨false, rfl, ⟨(fun hh => by cases hh), fun hh => ?_⟩, rfl⟩
    have := HR1.out
    rcases e4 with e4 | e4
    · omega
    · exact absurd (e3.1 hh) (IT.bel_top e1 e4.2 e4.1)
def aloneL (T : IT.Tr) (l : List (ByteArray × Nat)) : IT.Tr := fun k => if l.any (fun p => decide (p.2 = k)) = true then (T k).map (IT.alone k) else T k
theorem aloneL_snoc (T : IT.Tr) (l : List (ByteArray × Nat)) (p : ByteArray × Nat) : aloneL T (l ++ [p]) = IT.upd (aloneL T l) p.2 ((aloneL T l p.2).map (IT.alone p.2)) := by
 funext k
 unfold aloneL IT.upd
 by_cases e : k = p.2
 · subst e
   rw [if_pos rfl, if_pos (by simp)]
   by_cases h : l.any (fun q => decide (q.2 = p.2)) = true
   · rw [if_pos h]
     cases T p.2 with
     | none => rfl
     | some m => simp [IT.alone_alone]
   · rw [if_neg h]
 · rw [if_neg e]
   have : (l ++ [p]).any (fun q => decide (q.2 = k)) = l.any (fun q => decide (q.2 = k)) := by
    rw [List.any_append]; simp [Ne.symm e]
   rw [this]
theorem aloneL_some {T : IT.Tr} (l : List (ByteArray × Nat)) {k : Nat} {m : IT.Nd} (h : T k = some m) : ∃ m1, aloneL T l k = some m1 ∧ m1.kind = m.kind := by
 unfold aloneL
 rw [h]
 split
 · exact ⟨_, rfl, IT.alone_kind _ _⟩
 · exact ⟨_, rfl, rfl⟩
theorem aloneL_rem {T : IT.Tr} {i : Nat} {m : IT.Nd} (hi : T i = some m) (l : List (ByteArray × Nat)) (hp : (ents l).Perm m.names) : IT.upd (aloneL T l) i none = IT.rem T i := by
 funext k
 unfold IT.upd IT.rem
 by_cases e : k = i
 · rw [if_pos e, if_pos e]
 · rw [if_neg e, if_neg e]
   unfold aloneL
   have key : IT.leadO k (T i) = 0 ↔ ¬ l.any (fun p => decide (p.2 = k)) = true := by
    rw [hi]
    show IT.lead k m = 0 ↔ _
    unfold IT.lead
    rw [← (hp.filter _).length_eq, List.length_eq_zero_iff, List.filter_eq_nil_iff, List.any_eq_true]
    unfold ents
    constructor
    · rintro h ⟨p, hp1, hp2⟩
      exact h (bs p.1, p.2) (List.mem_map_of_mem (f := fun p : ByteArray × Nat => (bs p.1, p.2)) hp1) hp2
    · rintro h q hq hh
      obtain ⟨p, hp1, rfl⟩ := List.mem_map.1 hq
      exact h ⟨p, hp1, hh⟩
   by_cases h : l.any (fun p => decide (p.2 = k)) = true
   · rw [if_pos h, if_neg (fun hh => key.1 hh h)]
   · rw [if_neg h, if_pos (key.2 h)]
theorem Tie.par {G : Gt} {T : IT.Tr} (h : Tie G T) {k : Nat} {m : IT.Nd} (hk : T k = some m) (hm : m.kind = 1) (p : Nat) : Tie (updG G k { G k with parent := (p : Int) }) (IT.upd T k (some { m with parent := p })) where
 nok := fun j hj hn => by
  unfold IT.upd at hn
  by_cases e : j = k
  · rw [if_pos e] at hn; cases hn
  · rw [if_neg e] at hn; rw [updG_other _ _ e]; exact h.nok j hj hn
 sok := fun j q hq => by
  unfold IT.upd at hq
  by_cases e : j = k
  · subst e
    rw [if_pos rfl] at hq
    obtain rfl := oI hq
    rw [updG_same]
    have hh := h.sok j m hk
    exact ⟨hh.is, hh.kind, hh.mode, hh.owner, hh.group, hh.tty, hh.holds, fun _ => rfl, hh.data, hh.names⟩
  · rw [if_neg e] at hq; rw [updG_other _ _ e]; exact h.sok j q hq
theorem Tie.gone {G : Gt} {T : IT.Tr} (h : Tie G T) (k : Nat) : Tie (updG G k noRN) (IT.upd T k none) where
 nok := fun j hj hn => by
  unfold IT.upd at hn
  by_cases e : j = k
  · subst e; rw [updG_same]; exact ⟨rfl, rfl⟩
  · rw [if_neg e] at hn; rw [updG_other _ _ e]; exact h.nok j hj hn
 sok := fun j q hq => by
  unfold IT.upd at hq
  by_cases e : j = k
  · rw [if_pos e] at hq; cases hq
  · rw [if_neg e] at hq; rw [updG_other _ _ e]; exact h.sok j q hq
theorem Tie.few {G : Gt} {T : IT.Tr} (h : Tie G T) (hs : IT.Sound0 okN T) (k : Nat) (hk : k ≤ 200) : (G k).ents.length ≤ 40 := by
 cases hT : T k with
 | none => rw [(h.nok k hk hT).2]; exact Nat.zero_le _
 | some m =>
   have := hs.few k m hT
   have e := (h.sok k m hT).names.length_eq
   unfold ents at e
   rw [List.length_map] at e
   omega
theorem Tie.lead {G : Gt} {T : IT.Tr} (h : Tie G T) (hs : IT.Sound0 okN T) {k : Nat} {m : IT.Nd} (hk : T k = some m) {p : ByteArray × Nat} (hp : p ∈ (G k).ents) : (bs p.1, p.2) ∈ m.names ∧ ∃ q, T p.2 = some q := by
 have hm : (bs p.1, p.2) ∈ m.names := (h.sok k m hk).names.mem_iff.1 (List.mem_map_of_mem (f := fun p : ByteArray × Nat => (bs p.1, p.2)) hp)
 exact ⟨hm, hs.lead k m _ hk hm⟩
structure Gn (w wr : World) (t B : Nat) (T : IT.Tr) (G : Gt) (A : IT.Tr) : Prop where
 rep : Rf wr t B G
 ties : Tie G A
 snd : IT.Sound0 okN A
 mo : Mo B w wr
 st : IT.Steps T A
theorem Gn.lnk {w wr : World} {t B : Nat} {T A : IT.Tr} {G : Gt} (h : Gn w wr t B T G A) (x : Nat) : sumG G x 201 = IT.lnk A x := by
 unfold sumG IT.lnk
 refine IT.sum_eq _ fun k hk => ?_
 have hk2 : k ≤ 200 := by have := List.mem_range.1 hk; omega
 cases hT : A k with
 | none =>
   rw [(h.ties.nok k hk2 hT).2]
   show (if k = 0 then 0 else 0) = 0
   split <;> rfl
 | some m =>
   have hk1 := (h.snd.rng k m hT).1
   rw [if_neg (by omega)]
   have hp := (h.ties.sok k m hT).names
   show cntE (G k).ents x = (m.names.filter fun p => decide (p.2 = x)).length
   rw [← (hp.filter _).length_eq]
   unfold cntE ents
   rw [List.filter_map, List.length_map]
   rfl
def zeroI : List Value := [.bool false, .int .i64 0, .int .i64 0, .int .i64 0, .int .i64 0, .int .i64 0, .int .i64 0, .int .i64 0, .string ⟨#[]⟩, .slice none 0 0]
theorem gone_zero {W : World} {t B : Nat} {G : Gt} (h : Rf W t B G) (k : Nat) (hk : k ≤ 200) : Rf (W.setCells B (k * 10) zeroI) t B (updG G k noRN) := h.setAll hk noRN (EntAt.nil _ _ rfl rfl)
structure Gl (w wr : World) (t B k : Nat) (G : Gt) (A : IT.Tr) (E : List (ByteArray × Nat)) (j : Nat) : Prop where
 rep : Rf wr t B G
 ties : Tie G (aloneL A (E.take j))
 mo : Mo B w wr
 ents : (G k).ents = E
theorem Gl.start {w wr : World} {t B k : Nat} {T A : IT.Tr} {G : Gt} (h : Gn w wr t B T G A) : Gl w wr t B k G A (G k).ents 0 := ⟨h.rep, h.ties, h.mo, rfl⟩
theorem Gl.skip {w wr : World} {t B k j : Nat} {A : IT.Tr} {G : Gt} {E : List (ByteArray × Nat)} (h : Gl w wr t B k G A E j) {p : ByteArray × Nat} (hp : E[j]? = some p) {m : IT.Nd} (hm : aloneL A (E.take j) p.2 = some m) (hk : m.kind ≠ 1) : Gl w wr t B k G A E (j + 1) := by
 obtain ⟨hj, e⟩ := List.getElem?_eq_some_iff.1 hp
 refine ⟨h.rep, ?_, h.mo, h.ents⟩
 rw [List.take_succ_eq_append_getElem hj, e, aloneL_snoc, hm]
 have : IT.alone p.2 m = m := by unfold IT.alone; rw [if_neg hk]
 rw [Option.map_some, this, ← hm, IT.upd_self]
 exact h.ties
theorem Gl.par {w wr : World} {t B k j : Nat} {A : IT.Tr} {G : Gt} {E : List (ByteArray × Nat)} (h : Gl w wr t B k G A E j) {p : ByteArray × Nat} (hp : E[j]? = some p) {m : IT.Nd} (hm : aloneL A (E.take j) p.2 = some m) (hk : m.kind = 1) (hx : p.2 ≤ 200) (hne : p.2 ≠ k) : Gl w (wr.setCell ⟨B, p.2 * 10 + 7, none⟩ (.int .i64 (p.2 : Int))) t B k (updG G p.2 { G p.2 with parent := (p.2 : Int) }) A E (j + 1) := by
 obtain ⟨hj, e⟩ := List.getElem?_eq_some_iff.1 hp
 refine ⟨h.rep.set hx (by omega) _ _ rfl (h.rep.ents _ hx), ?_, h.mo.set _, ?_⟩
 · rw [List.take_succ_eq_append_getElem hj, e, aloneL_snoc, hm]
   have : IT.alone p.2 m = { m with parent := p.2 } := by unfold IT.alone; rw [if_pos hk]
   rw [Option.map_some, this]
   exact h.ties.par hm hk p.2
 · rw [updG_other _ _ (Ne.symm hne)]; exact h.ents
theorem Gl.rem {w wr : World} {t B k : Nat} {T A : IT.Tr} {G : Gt} {E : List (ByteArray × Nat)} (h : Gl w wr t B k G A E E.length) (hA : IT.Sound0 okN A) (hst : IT.Steps T A) (hc : IT.can A k) {m : IT.Nd} (hm : A k = some m) (hp : (Go.Proofs.YtafonmnfeibaiaaGreat.ents E).Perm m.names) : Gn w (wr.setCells B (k * 10) zeroI) t B T (updG G k noRN) (IT.rem A k) where
 rep := gone_zero h.rep k hc.2.1
 ties := by
  rw [← aloneL_rem hm E hp, ← List.take_length (l := E)]
  exact h.ties.gone k
 snd := hA.rem hc
 mo := h.mo.setCells _ _
 st := hst.trans (.step hc .refl)
def Fl (A A2 : IT.Tr) (k : Nat) (f : Bool) : Prop := if f = true then IT.cnt A2 < IT.cnt A else A2 = A ∧ ∀ j, j < k → ¬ IT.can A j
theorem Fl.keep {A A2 : IT.Tr} {k : Nat} {f : Bool} (h : Fl A A2 k f) (hk : ¬ IT.can A2 k) : Fl A A2 (k + 1) f := by
 unfold Fl at h ⊢
 cases f with
 | true => exact h
 | false =>
   rw [if_neg (by decide)] at h ⊢
   obtain ⟨rfl, h2⟩ := h
   exact ⟨rfl, fun j hj => by
    by_cases e : j = k
    · subst e; exact hk
    · exact h2 j (by omega)⟩
theorem Fl.rem {A A2 : IT.Tr} {k : Nat} {f : Bool} (h : Fl A A2 k f) (hk : IT.can A2 k) : Fl A (IT.rem A2 k) (k + 1) true := by
 have h1 := IT.cnt_rem (S := A2) (i := k) hk.2.1 (by obtain ⟨n, hn, _⟩ := hk.2.2.1; rw [hn]; intro e; cases e)
 unfold Fl at h ⊢
 rw [if_pos rfl]
 cases f with
 | true => rw [if_pos rfl] at h; omega
 | false => rw [if_neg (by decide)] at h; obtain ⟨rfl, _⟩ := h; exact h1
theorem rf_gone {w : World} {t B : Nat} {G : Gt} {T : IT.Tr} (h : Rf w t B G) (ht : Tie G T) (hs : IT.Sound0 okN T) :
  Calls Tryz.prog 106 #[.pointer (some ⟨t, 0, none⟩)] w fun e w' => e = .returned (.tuple #[]) ∧ Stf w t B (fun T' => IT.NF T T') w' := by
 have HH := Hd (show Gn w w t B T G T from ⟨h, ht, hs, Mo.refl _ _, .refl⟩)
 clear h ht hs
 go_enter Tryz.func106, Tryz.ntmps106
 go_wp2
 go_loopg [2] (IT.cnt T + 1) (fun g mv wr => ∃ (f : Bool) (G : Gt) (A : IT.Tr), mv = .bool f ∧ Hid (Gn w wr t B T G A) ∧ Hid (if f = true then g = IT.cnt A + 1 else ∀ i, ¬ IT.can A i))
 case atStart => exact ⟨true, G, T, rfl, HH, Hd (by rw [if_pos rfl])⟩
 case round =>
  obtain ⟨f, G1, A, rfl, HG, HF⟩ := hrel
  cases f with
  | false =>
    go_wp2
    refine bodyPost_end (results_none rfl _ _ _) rfl ⟨rfl, G1, A, HG.out.mo, HG.out.rep, HG.out.ties, ?_⟩
    have := HF.out
    rw [if_neg (by decide)] at this
    exact HG.out.st.nf this
  | true =>
    have HK : Hid (gk = IT.cnt A + 1) := Hd (by have := HF.out; rw [if_pos rfl] at this; exact this)
    clear HF
    have ct := HG.out.rep.cellT
    have HFL : Hid (Fl A A 2 false) := Hd (by
     unfold Fl
     rw [if_neg (by decide)]
     refine ⟨rfl, fun j hj hc => ?_⟩
     obtain ⟨n, hn, _⟩ := hc.2.2.1
     have := HG.out.snd.rng j n hn
     have := hc.1
     omega)
    go_wp2
    clear ct
    obtain ⟨og, hog⟩ : ∃ og, gk = og + 1 := ⟨IT.cnt A, HK.out⟩
    have HOG : Hid (og = IT.cnt A) := Hd (by have := HK.out; omega)
    subst hog
    go_loopg [2, 3] 199 (fun g2 mv iv wr2 => ∃ (k : Nat) (f : Bool) (G2 : Gt) (A2 : IT.Tr), 2 ≤ k ∧ k + g2 = 201 ∧ iv = .int .i64 (k : Int) ∧ mv = .bool f ∧ Hid (Gn w wr2 t B T G2 A2) ∧ Hid (Fl A A2 k f))
    case atStart => exact ⟨2, false, G1, A, by omega, by omega, rfl, rfl, HG, HFL⟩
    case round =>
     obtain ⟨k, f, G2, A2, hk2, hkg, rfl, rfl, HG2, HF2⟩ := hrel
     have ct := HG2.out.rep.cellT
     by_cases hlt : k ≤ 200
     · obtain ⟨ig, rfl⟩ : ∃ ig, gk = ig + 1 := ⟨gk - 1, by omega⟩
       have b0 := HG2.out.rep.c0 k hlt
       cases hA : A2 k with
       | none =>
         rw [(HG2.out.ties.nok k hlt hA).1] at b0
         have HF3 := Hd (HF2.out.keep (k := k) (fun hc => by obtain ⟨n, hn, _⟩ := hc.2.2.1; rw [hA] at hn; cases hn))
         clear hA
         go_wp2
         go_roundg ig
         case measure => omega
         case rel => exact ⟨k + 1, f, G2, A2, by omega, by omega, by go_num, rfl, HG2, HF3⟩
       | some m =>
         have hkp := HG2.out.ties.sok k m hA
         rw [hkp.is] at b0
         have b6 := HG2.out.rep.c6 k hlt
         rw [hkp.holds] at b6
         by_cases hh : m.holds = 0
         · rw [hh] at b6
           have hS := HG2.out.lnk k
           have hfew : ∀ j, j ≤ 200 → (G2 j).ents.length ≤ 40 := HG2.out.ties.few HG2.out.snd
           by_cases hl : IT.lnk A2 k = 0
           · have HCAN : Hid (IT.can A2 k) := Hd ⟨by omega, hlt, ⟨m, hA, hh⟩, hl⟩
             have HCL : Hid (Calls Tryz.prog 107 #[.pointer (some ⟨t, 0, none⟩), .int .i64 (k : Int)] wr fun e w' => e = .returned (.int .i64 0) ∧ wr = w') := Hd (by
              have := rf_sum HG2.out.rep k hfew
              rw [hS, hl] at this
              exact this)
             have HA := Hd hA
             have HP := Hd hkp.names
             clear hA hkp hS hfew hl hh
             go_wp2_with fail
             refine HCL.out.mono ?_
             rintro e w5 ⟨rfl, rfl⟩
             have HL0 := Hd (Gl.start HG2.out (k := k))
             have hE : ∃ E, E = (G2 k).ents := ⟨_, rfl⟩
             obtain ⟨E, hE⟩ := hE
             rw [← hE] at HL0 HP
             have HLEN : Hid (E.length ≤ 40) := Hd (by rw [hE]; exact HG2.out.ties.few HG2.out.snd k hlt)
             have hlen := HLEN.out
             clear hE b0 b6
             go_wp2
             go_loopg [4, 5] E.length (fun g3 jv xv wr3 => ∃ (j : Nat) (G3 : Gt), j + g3 = E.length ∧ jv = .int .i64 (j : Int) ∧ Hid (Gl w wr3 t B k G3 A2 E j))
             case atStart => exact ⟨0, G2, by omega, rfl, HL0⟩
             case round =>
              obtain ⟨j, G3, hj, rfl, HL3⟩ := hrel
              have ct := HL3.out.rep.cellT
              have b9 := HL3.out.rep.c9 k hlt
              have hents := HL3.out.rep.ents k hlt
              obtain ⟨a, cap, hs, hl1, hl2, hl3⟩ := hents.lit
              rw [HL3.out.ents] at hs hl1 hl3
              rw [hs] at b9
              have HLL := Hd hl3
              clear hents hs hl1 hl2 hl3
              by_cases hjl : j < E.length
              · obtain ⟨jg, rfl⟩ : ∃ jg, gk = jg + 1 := ⟨gk - 1, by omega⟩
                obtain ⟨p, hp⟩ : ∃ p, E[j]? = some p := ⟨E[j], List.getElem?_eq_getElem hjl⟩
                obtain ⟨g, rfl, f1, f2⟩ := HLL.out j p hp
                have hmem : (bs p.1, p.2) ∈ m.names := HP.out.mem_iff.1 (List.mem_map_of_mem (f := fun p : ByteArray × Nat => (bs p.1, p.2)) (List.mem_of_getElem? hp))
                obtain ⟨q0, hq0⟩ := HG2.out.snd.lead k m _ HA.out hmem
                have hx2 : p.2 ≤ 200 := (HG2.out.snd.rng _ q0 hq0).2
                have hne : p.2 ≠ k := fun e => by
                 have h0 := IT.none_lead HCAN.out.2.2.2 hlt
                 rw [HA.out] at h0
                 exact IT.mem_lead hmem e h0
                obtain ⟨q1, hq1, hqk⟩ := aloneL_some (E.take j) hq0
                have b1 := HL3.out.rep.c1 p.2 hx2
                have hkp := (HL3.out.ties.sok p.2 q1 hq1).kind
                rw [hkp] at b1
                have HPP := Hd hp
                have HQ1 := Hd hq1
                have HNE := Hd hne
                clear hp hmem hq0 hne hqk hkp hq1 f1
                by_cases hk1 : q1.kind = 1
                · have HN := Hd (HL3.out.par HPP.out HQ1.out hk1 hx2 HNE.out)
                  rw [hk1] at b1
                  have b7 := HL3.out.rep.c7 p.2 hx2
                  have s7 := HL3.out.rep.frozen (p.2 * 10 + 7)
                  clear hk1
                  go_wp2
                  go_roundg jg
                  case measure => omega
                  case rel => exact ⟨j + 1, _, by omega, by go_num, HN⟩
                · have HN := Hd (HL3.out.skip HPP.out HQ1.out hk1)
                  have hz : (q1.kind == 1) = false := by simpa using hk1
                  clear hk1
                  go_wp2
                  go_roundg jg
                  case measure => omega
                  case rel => exact ⟨j + 1, _, by omega, by go_num, HN⟩
              · obtain rfl : j = E.length := by omega
                have HR := HL3.out.rem HG2.out.snd HG2.out.st HCAN.out HA.out HP.out
                have hT : wr.there B (k * 10) zeroI.toArray.size := HL3.out.rep.there hlt
                have hI : (Tryz.prog.info? 112).map (·.size) = some zeroI.toArray.size := rfl
                have h1C : zeroI.toArray.all (·.oneCell') = true := by simp [zeroI, Value.oneCell']
                have HF4 := Hd (HF2.out.rem HCAN.out)
                go_wp2_with (refine wpList_store_mid rfl 112 _ _ rfl B (k * 10) zeroI.toArray rfl rfl hT hI h1C ?_; generalize World.setCells wr B (k * 10) zeroI.toArray.toList = W5 at HR ⊢; have HR5 := Hd HR; clear HR hT hI h1C)
                go_roundg ig
                case measure => omega
                case rel => exact ⟨k + 1, true, _, _, by omega, by omega, by go_num, rfl, HR5, HF4⟩
           · have hz : (((IT.lnk A2 k : Nat) : Int) == 0) = false := by simpa using hl
             have HCL : Hid (Calls Tryz.prog 107 #[.pointer (some ⟨t, 0, none⟩), .int .i64 (k : Int)] wr fun e w' => e = .returned (.int .i64 (IT.lnk A2 k : Nat)) ∧ wr = w') := Hd (by
              have := rf_sum HG2.out.rep k hfew
              rw [hS] at this
              exact this)
             have HF3 := Hd (HF2.out.keep (k := k) (fun hc => hl hc.2.2.2))
             clear hA hkp hS hfew hl hh
             generalize IT.lnk A2 k = ln at *
             go_wp2_with fail
             refine HCL.out.mono ?_
             rintro e w5 ⟨rfl, rfl⟩
             go_wp2
             go_roundg ig
             case measure => omega
             case rel => exact ⟨k + 1, f, G2, A2, by omega, by omega, by go_num, rfl, HG2, HF3⟩
         · have hz : (((m.holds : Nat) : Int) == 0) = false := by simpa using hh
           have HF3 := Hd (HF2.out.keep (k := k) (fun hc => by
            obtain ⟨n, hn, h0⟩ := hc.2.2.1
            rw [hA] at hn
            obtain rfl := oI hn
            exact hh h0))
           clear hA hkp hh
           go_wp2
           go_roundg ig
           case measure => omega
           case rel => exact ⟨k + 1, f, G2, A2, by omega, by omega, by go_num, rfl, HG2, HF3⟩
     · obtain rfl : k = 201 := by omega
       go_wp2
       have HX := HF2.out
       unfold Fl at HX
       cases f with
       | true =>
         rw [if_pos rfl] at HX
         go_roundg (IT.cnt A2 + 1)
         case measure => have := HOG.out; omega
         case rel => exact ⟨true, G2, A2, rfl, HG2, Hd (by rw [if_pos rfl])⟩
       | false =>
         rw [if_neg (by decide)] at HX
         go_roundg 0
         case measure => omega
         case rel => exact ⟨false, G2, A2, rfl, HG2, Hd (by
          rw [if_neg (by decide), HX.1]
          exact fun j hc => HX.2 j (by have := hc.2.1; omega) hc)⟩
end Go.Proofs.YtafonmnfeibaiaaGreat.RF
namespace Go.Proofs.YtafonmnfeibaiaaGreat
open Go.RowKit
theorem lnk_steps {S A : IT.Tr} (h : IT.Steps S A) (x : Nat) : IT.lnk A x ≤ IT.lnk S x := by
 induction h with
 | refl => exact Nat.le_refl _
 | step _ _ ih => exact Nat.le_trans ih (IT.lnk_rem_le _ _ x)
def pt (pend : Nat → Nat) (todo : List (ByteArray × Nat)) : Nat → Nat := fun x => pend x + IT.pendL (ents todo) x
theorem pt_perm {pend : Nat → Nat} {a b : List (ByteArray × Nat)} (h : a.Perm b) : pt pend a = pt pend b := by
 funext x
 show pend x + IT.pendL (ents a) x = pend x + IT.pendL (ents b) x
 have e : (ents a).Perm (ents b) := h.map _
 rw [IT.pendL_perm e]
theorem pt_less (pend : Nat → Nat) (p : ByteArray × Nat) (l : List (ByteArray × Nat)) : IT.less (pt pend (p :: l)) p.2 = pt pend l := IT.less_cons pend (bs p.1, p.2) (ents l)
theorem pt_nil (pend : Nat → Nat) : pt pend [] = pend := by funext x; rfl
theorem pt_mem {pend : Nat → Nat} {p : ByteArray × Nat} {l : List (ByteArray × Nat)} (h : p ∈ l) : pt pend l p.2 ≠ 0 := by
 unfold pt IT.pendL
 have hm : (bs p.1, p.2) ∈ (ents l).filter fun q => decide (q.2 = p.2) := List.mem_filter.2 ⟨List.mem_map.2 ⟨p, h, rfl⟩, by simp⟩
 have : ((ents l).filter fun q => decide (q.2 = p.2)).length ≠ 0 := fun e => by rw [List.eq_nil_of_length_eq_zero e] at hm; cases hm
 omega
theorem foot_upd_none {S : Tab} {t k b : Nat} (h : foot (upd S k none) t b) : b = t ∨ ∃ j c n, j ≠ k ∧ S j = some (c, n) ∧ (b = c ∨ n.mp = some b) := by
 rcases h with e | ⟨j, c, n, hj, h⟩
 · exact .inl e
 · by_cases e : j = k
   · subst e; rw [uY] at hj; cases hj
   · rw [uX _ _ e] at hj; exact .inr ⟨j, c, n, e, hj, h⟩
def GL (w0 : World) (t r m : Nat) (S0 : Tab) (l : List (ByteArray × Nat)) (pend : Nat → Nat) (R : IT.Tr) (wr : World) : Prop :=
 ∃ (S1 : Tab) (T1 : IT.Tr) (todo : List (ByteArray × Nat)), Mv w0 t S0 wr S1 ∧ ¬ foot S1 t m ∧ ¬ foot S1 t r ∧ w0.heap.size ≤ r ∧ Iter wr r m l todo ∧ IT.Sound0 okN T1 ∧ IT.Ties (kpOf S1) T1 (pt pend todo) ∧ IT.StepsP pend R T1 ∧ IT.Only T1 (pt pend todo) ∧ (∀ p ∈ todo, ∃ q, T1 p.2 = some q) ∧ ∀ x, IT.lnk T1 x + pt pend todo x ≤ 8
theorem pl_lead {n : Nd} {m : IT.Nd} (h : (ents n.names).Perm m.names) (pend : Nat → Nat) : (fun x => pend x + IT.lead x m) = pt pend n.names := by
 funext x
 show pend x + IT.lead x m = pend x + IT.pendL (ents n.names) x
 rw [IT.pendL_perm h]; rfl
section
variable {w : World} {t b k : Nat} {S : Tab} {n : Nd} {T : IT.Tr} {pend : Nat → Nat}
theorem can_of (h : Rep w t S) (hties : IT.Ties (kpOf S) T pend) (hk : S k = some (b, n)) (hl : n.links ≤ 0) (hh : n.holds ≤ 0) (hi : n.ino ≠ 1) : IT.can T k ∧ pend k = 0 ∧ ∃ m, T k = some m ∧ (ents n.names).Perm m.names := by
 obtain ⟨m, hm⟩ := hties.get (kpOf_some hk)
 obtain ⟨_, _, _, _, _, a6, _, a8, a9, _⟩ := hties.some k _ m (kpOf_some hk) hm
 have a6 : n.holds = (m.holds : Int) := a6
 have a9 : n.links = ((IT.lnk T k + pend k : Nat) : Int) := a9
 have hr := h.rng k _ hk
 have hino := h.ino k b n hk
 refine ⟨⟨by omega, hr.2, ⟨m, hm, by omega⟩, by omega⟩, by omega, m, hm, a8⟩
theorem gl_start (h : Rep w t S) (hsd : IT.Sound0 okN T) (hties : IT.Ties (kpOf S) T pend) (hbd : ∀ x, IT.lnk T x + pend x ≤ 8) (hcan : ∀ j, IT.can T j → pend j ≠ 0 ∨ j = k) (hk : S k = some (b, n)) (hc : IT.can T k) {m : IT.Nd} (hm : T k = some m) (hp : (ents n.names).Perm m.names)
  {mb : Nat} (hmp : n.mp = some mb) {w1 : World} (hmv : Mv w t S w1 (upd S k none)) {r : Nat} (hr : w.heap.size ≤ r) (hit : Iter w1 r mb n.names n.names) : GL w t r mb S n.names pend (IT.rem T k) w1 := by
 have hk2 := (h.rng k _ hk).2
 have hb := h.map k b n mb hk hmp
 refine ⟨upd S k none, IT.rem T k, n.names, hmv, fun hf => ?_, fun hf => ?_, hr, hit, hsd.rem hc, ?_, .refl, ?_, fun p hpm => ?_, fun x => ?_⟩
 · rcases foot_upd_none hf with e | ⟨j, c, n', hj, hS, e | e⟩
   · exact absurd e (hb.ne_cells h.tree)
   · exact absurd e (hb.ne_cells (h.node j c n' hS))
   · exact hj (h.injm j k c n' b n mb hS hk e hmp)
 · rcases foot_upd_none hf with e | ⟨j, c, n', hj, hS, e | e⟩
   · have := h.ltT; omega
   · have := h.ltN hS; omega
   · have := (h.map j c n' r hS e).lt; omega
 · rw [kpOf_del, ← pl_lead hp]; exact hties.rem hm hk2
 · rw [← pl_lead hp]; exact IT.Only.rem hcan hm hk2
 · have hpm2 : (bs p.1, p.2) ∈ m.names := hp.mem_iff.1 (List.mem_map.2 ⟨p, hpm, rfl⟩)
   obtain ⟨q, hq⟩ := hsd.lead k m _ hm hpm2
   have hne : p.2 ≠ k := fun e => by
    have h1 : IT.leadO k (T k) ≠ 0 := by rw [hm]; exact IT.mem_lead hpm2 e
    exact h1 (IT.none_lead hc.2.2.2 hk2)
   obtain ⟨q1, hq1, _⟩ := IT.rem_some (i := k) hq hne
   exact ⟨q1, hq1⟩
 · rw [← pl_lead hp, IT.pend_rem hm hk2]; exact hbd x
end
theorem gl_next {f : Nat} (L : LosesOk f) {w0 wr : World} {t r m : Nat} {S0 : Tab} {l} {pend : Nat → Nat} {R : IT.Tr} (hR : IT.cnt R ≤ f) (h : GL w0 t r m S0 l pend R wr) :
  ((∀ ty, (Instr.next (.pointer (some ⟨r, 0, none⟩)) false ty).run Tryz.prog wr = .ok (.tuple #[.bool false]) wr) ∧ ∃ S1 T1, Mv w0 t S0 wr S1 ∧ IT.Ties (kpOf S1) T1 pend ∧ IT.StepsP pend R T1 ∧ IT.Only T1 pend) ∨
  ∃ (p : ByteArray × Nat) (w' : World) (b : Nat), (∀ ty, (Instr.next (.pointer (some ⟨r, 0, none⟩)) false ty).run Tryz.prog wr = .ok (.tuple #[.bool true, .string p.1, .int .i64 (p.2 : Int)]) w') ∧
   (Instr.entry (.pointer (some ⟨r, 0, none⟩))).run Tryz.prog w' = .ok (.tuple #[.string p.1, .int .i64 (p.2 : Int)]) w' ∧ 1 ≤ (p.2 : Int) ∧ (p.2 : Int) ≤ 200 ∧ w'.cell? ⟨t, p.2, none⟩ = some (.pointer (some ⟨b, 0, none⟩)) ∧
   Calls Tryz.prog 81 #[.pointer (some ⟨t, 0, none⟩), .pointer (some ⟨b, 0, none⟩)] w' fun e w'' => e = .returned (.tuple #[]) ∧ GL w0 t r m S0 l pend R w'' ∧ w''.rangeLeft m r < wr.rangeLeft m r := by
 obtain ⟨S1, T1, todo, hmv, hfm, hfr, hrs, hit, hsd, hties, hst, hon, hall, hbd⟩ := h
 rcases Iter.next (P := Tryz.prog) hit with ⟨rfl, hn⟩ | ⟨p, rest, w', hperm, hn, hen, hit', ho, htp, hou, hsz, hbl⟩
 · rw [pt_nil] at hties hon
   exact .inl ⟨hn, S1, T1, hmv, hties, hst, hon⟩
 · obtain ⟨q, hq⟩ := hall p (hperm.mem_iff.2 (by simp))
   have hmv' := hmv.other r hrs hfr ho htp hou hsz hbl
   obtain ⟨b, nn, hS⟩ : ∃ b nn, S1 p.2 = some (b, nn) := by
    cases hk : S1 p.2 with
    | none => rw [(hties.none p.2).1 (kpOf_none hk)] at hq; cases hq
    | some x => exact ⟨x.1, x.2, rfl⟩
   have hrg := hmv'.rep.rng p.2 _ hS
   refine .inr ⟨p, w', b, hn, hen, by omega, by omega, ?_, ?_⟩
   · rw [hmv'.rep.cellT _ (by omega), hS]; rfl
   · rw [pt_perm hperm] at hties hon hbd
     have hcnt : IT.cnt T1 ≤ f := Nat.le_trans hst.steps.cnt hR
     refine (L w' t S1 T1 (pt pend (p :: rest)) p.2 b nn hmv'.rep hsd hties hbd hon (pt_mem (by simp)) hS hcnt).mono ?_
     rintro e w'' ⟨rfl, S2, T2, g1, g2, g3⟩
     rw [pt_less] at g2 g3
     have hlt := hit'.lt
     have nf : ∀ c, ¬ foot S1 t c → c < w'.heap.size → ¬ foot S2 t c := fun c hc hl hf => by
      rcases g1.grow c hf with e | e
      · exact hc e
      · omega
     have hit'' : Iter w'' r m l rest := hit'.same (g1.block m hlt.1 hfm) (g1.block r hlt.2 hfr)
     refine ⟨rfl, ⟨S2, T2, rest, hmv'.trans g1, nf m hfm hlt.1, nf r hfr hlt.2, hrs, hit'', g3.1.steps.sound hsd, g2, hst.trans (g3.1.mono fun i hi => ?_), g3.2, fun p' hp' => ?_, fun x => ?_⟩, ?_⟩
     · have : pend i + IT.pendL (ents rest) i = 0 := hi
       omega
     · obtain ⟨q', hq'⟩ := hall p' (hperm.mem_iff.2 (by simp [hp']))
       exact g3.1.keep (pt_mem hp') hq'
     · have h1 := lnk_steps g3.1.steps x
       have h2 := hbd x
       have h3 := less_le (pt pend (p :: rest)) p.2 x
       rw [pt_less] at h3
       omega
     · rw [hit''.left_eq, hit.left_eq, hperm.length_eq]; simp
theorem gone_of {f : Nat} (L : LosesOk f) : GoneOk (f + 1) := by
 intro w t S T pend k b n h hsd hties hbd hcan hk hcnt
 by_cases hstay : 0 < n.links ∨ 0 < n.holds ∨ n.ino = 1
 · refine (gone_keep h hk hstay).mono ?_
   rintro e w' ⟨rfl, rfl⟩
   refine ⟨rfl, S, T, Mv.refl h, hties, IT.gone_stay hcan ?_⟩
   obtain ⟨m, hm⟩ := hties.get (kpOf_some hk)
   obtain ⟨_, _, _, _, _, a6, _, _, a9, _⟩ := hties.some k _ m (kpOf_some hk) hm
   have a6 : n.holds = (m.holds : Int) := a6
   have a9 : n.links = ((IT.lnk T k + pend k : Nat) : Int) := a9
   have hino := h.ino k b n hk
   by_cases hp : pend k = 0
   · refine .inl fun hc => ?_
     obtain ⟨c1, _, ⟨m', hm', c3⟩, c4⟩ := hc
     rw [hm] at hm'; obtain rfl := oI hm'
     omega
   · exact .inr hp
 · have hl : n.links ≤ 0 := by omega
   have hh : n.holds ≤ 0 := by omega
   have hi : n.ino ≠ 1 := by omega
   obtain ⟨hc, hz, m, hm, hp⟩ := can_of h hties hk hl hh hi
   have hr := h.rng k _ hk
   have hcr : IT.cnt (IT.rem T k) ≤ f := by
    have := IT.cnt_rem (S := T) hr.2 (by rw [hm]; intro e; cases e)
    omega
   have c0 := h.c0 hk
   have c5 := h.c5 hk
   have c8 := h.c8 hk
   have c10 := h.c10 hk
   have hino := h.ino k b n hk
   obtain ⟨x, hx⟩ : ∃ x, w.cell? ⟨t, k, none⟩ = some x := ⟨_, h.cellT k (by omega)⟩
   have hf := h.frozenT k
   have htb : b ≠ t := h.neT hk
   rw [hino] at c0
   have hi' : ((k : Int) == 1) = false := by rw [hino] at hi; simpa using hi
   have hb1 : (1 : Int) ≤ k := by omega
   have hb2 : (k : Int) ≤ 200 := by omega
   have hl1 : decide (0 < n.links) = false := by simp; omega
   have hh1 : decide (0 < n.holds) = false := by simp; omega
   have HM := (Mv.refl h).setNone k
   have e3 : (w.setCell ⟨t, k, none⟩ (.pointer none)).drew.heap.size = w.heap.size := by simp [World.setCell, World.drew]
   cases hmp : n.mp with
   | none =>
     have hnil := h.nomap k b n hk hmp
     rw [hmp] at c10
     have hr1 : (Instr.range 81 (.map none)).run Tryz.prog (w.setCell ⟨t, k, none⟩ (.pointer none)).drew = .ok (.pointer (some ⟨w.heap.size, 0, none⟩)) ((w.setCell ⟨t, k, none⟩ (.pointer none)).alloc (.mapIter none 0 #[] 0)).drew := by
      have e := run_range_nilMap (w.setCell ⟨t, k, none⟩ (.pointer none)).drew 81 9 3 Tryz.underlying81
      rw [e3] at e; exact e
     have hr2 : ∀ ty, (Instr.next (.pointer (some ⟨w.heap.size, 0, none⟩)) false ty).run Tryz.prog ((w.setCell ⟨t, k, none⟩ (.pointer none)).alloc (.mapIter none 0 #[] 0)).drew = .ok (.tuple #[.bool false]) ((w.setCell ⟨t, k, none⟩ (.pointer none)).alloc (.mapIter none 0 #[] 0)).drew := by
      intro ty
      have e := run_next_nilMap (P := Tryz.prog) (w.setCell ⟨t, k, none⟩ (.pointer none)).drew ty 0 0 #[]
      rw [e3] at e; exact e
     have HT : ∃ S' T', Mv w t S (((w.setCell ⟨t, k, none⟩ (.pointer none)).alloc (.mapIter none 0 #[] 0)).drew) S' ∧ IT.Ties (kpOf S') T' pend ∧ IT.goneP pend T T' := by
      refine ⟨upd S k none, IT.rem T k, (HM.alloc (.mapIter none 0 #[] 0)).drew, ?_, IT.gone_goes hc hz ⟨.refl, ?_⟩⟩
      · have e := hties.rem hm hr.2
        rw [pl_lead hp, hnil, pt_nil] at e
        rw [kpOf_del]; exact e
      · have e := IT.Only.rem hcan hm hr.2
        rw [pl_lead hp, hnil, pt_nil] at e
        exact e
     have HH := Hd HT
     clear e3 HM hr hi h hk hl hh hsd hties hbd hcan hcnt hstay hc hz hm hp hcr HT hmp hino
     go_enter Tryz.func82, Tryz.ntmps82
     go_wp2
     go_region
     go_wp2
     refine wp_loop_rounds 1 ?_
     rw [rounds_succ]
     go_wp2
     go_end0
     exact ⟨rfl, HH.out⟩
   | some mb =>
     obtain ⟨es, cl, hm1, hm2, hst⟩ := iter_start (w := (w.setCell ⟨t, k, none⟩ (.pointer none)).drew) (l := n.names) ((h.map k b n mb hk hmp).setCell h.tree _)
     have hr1 : (Instr.range 81 (.map (some mb))).run Tryz.prog (w.setCell ⟨t, k, none⟩ (.pointer none)).drew = .ok (.pointer (some ⟨w.heap.size, 0, none⟩)) ((w.setCell ⟨t, k, none⟩ (.pointer none)).alloc (.mapIter (some mb) cl #[] cl)).drew := by
      have e := run_range_map (w.setCell ⟨t, k, none⟩ (.pointer none)).drew 81 9 3 mb es cl Tryz.underlying81 hm1
      rw [e3] at e; exact e
     rw [hmp] at c10
     have hgl : GL w t w.heap.size mb S n.names pend (IT.rem T k) (((w.setCell ⟨t, k, none⟩ (.pointer none)).alloc (.mapIter (some mb) cl #[] cl)).drew) := by
      refine gl_start h hsd hties hbd hcan hk hc hm hp hmp (HM.alloc (.mapIter (some mb) cl #[] cl)).drew (Nat.le_refl _) ?_
      rw [e3] at hst; exact hst
     have HS := Hd hgl
     have HG : Hid (∀ S' T', Mv w t S S' T' → True) := Hd (fun _ _ _ => trivial)
     have HF : Hid (∀ T', IT.StepsP pend (IT.rem T k) T' → IT.Only T' pend → IT.goneP pend T T') := Hd (fun T' h1 h2 => IT.gone_goes hc hz ⟨h1, h2⟩)
     have HL := Hd L
     have HC := Hd hcr
     clear e3 HM hr hi h hk hl hh hsd hties hbd hcan hcnt hstay hc hz hm hp hcr hmp hino hgl L hst hm1 hm2 HG
     go_enter Tryz.func82, Tryz.ntmps82
     go_wp2
     go_region
     go_wp2
     go_loopw [5] (fun _ wr => GL w t w.heap.size mb S n.names pend (IT.rem T k) wr) (fun _ wr => wr.rangeLeft mb w.heap.size)
     case atStart => exact HS.out
     case round =>
      rcases gl_next HL.out HC.out hrel with ⟨hn, hend⟩ | ⟨p, w', c, hn, hen, hp1, hp2, hct, hcall⟩
      · have HE := Hd hend
        clear hend hrel
        go_wp2
        go_end0
        obtain ⟨S1, T1, g1, g2, g3, g4⟩ := HE.out
        exact ⟨rfl, S1, T1, g1, g2, HF.out T1 g3 g4⟩
      · have HK := Hd hcall
        clear hcall hrel
        go_wp2_with fail
        refine HK.out.mono ?_
        rintro e w'' ⟨rfl, hg, hlt⟩
        have HGL := Hd hg
        have HLT := Hd hlt
        clear hg hlt
        go_wp2
        go_roundw
        case rel => exact HGL.out
        case measure => exact HLT.out
theorem cnt_pos {T : IT.Tr} {k : Nat} {m : IT.Nd} (hk : k ≤ 200) (hm : T k = some m) : 0 < IT.cnt T := by
 have := IT.cnt_rem (S := T) hk (by rw [hm]; intro e; cases e)
 omega
theorem gone_ok : ∀ f, GoneOk f
 | 0 => by
   intro w t S T pend k b n h hsd hties hbd hcan hk hcnt
   obtain ⟨m, hm⟩ := hties.get (kpOf_some hk)
   have := cnt_pos (h.rng k _ hk).2 hm
   omega
 | f + 1 => gone_of (loses_of (gone_ok f))
theorem loses_ok (f : Nat) : LosesOk f := loses_of (gone_ok f)
end Go.Proofs.YtafonmnfeibaiaaGreat
namespace Go.Proofs.YtafonmnfeibaiaaGreat
open Go.RowKit
def HB (T : IT.Tr) (B : Nat) : Prop := ∀ k m, T k = some m → m.holds ≤ B
theorem gone_calm {w w1 : World} {t : Nat} {S S1 : Tab} {T1 : IT.Tr} {k b : Nat} {n : Nd} (hmv : Mv w t S w1 S1) (hsd : IT.Sound0 okN T1) (hties : IT.Ties (kpOf S1) T1 IT.calm) (hcan : ∀ j, IT.can T1 j → j = k) (hk : S1 k = some (b, n)) :
  Calls Tryz.prog 82 #[.pointer (some ⟨t, 0, none⟩), .pointer (some ⟨b, 0, none⟩)] w1 fun e w' => e = .returned (.tuple #[]) ∧ Stp w t S (fun T' => IT.NF T1 T') w' := by
 refine (gone_ok (IT.cnt T1) w1 t S1 T1 IT.calm k b n hmv.rep hsd hties (fun x => ?_) (fun j hj => .inr (hcan j hj)) hk (Nat.le_refl _)).mono ?_
 · show IT.lnk T1 x + 0 ≤ 8
   rw [Nat.add_zero]; exact hsd.many x
 · rintro e w' ⟨rfl, S', T', g1, g2, g3⟩
   exact ⟨rfl, S', T', hmv.trans g1, g2, IT.gone_nf g3⟩
theorem loses_one {w w1 : World} {t : Nat} {S S1 : Tab} {T1 : IT.Tr} {x b : Nat} {n : Nd} (hmv : Mv w t S w1 S1) (hsd : IT.Sound0 okN T1) (hties : IT.Ties (kpOf S1) T1 (IT.single x)) (hbd : ∀ y, IT.lnk T1 y + IT.single x y ≤ 8) (hcan : ∀ j, IT.can T1 j → j = x) (hk : S1 x = some (b, n)) :
  Calls Tryz.prog 81 #[.pointer (some ⟨t, 0, none⟩), .pointer (some ⟨b, 0, none⟩)] w1 fun e w' => e = .returned (.tuple #[]) ∧ Stp w t S (fun T' => IT.NF T1 T') w' := by
 refine (loses_ok (IT.cnt T1) w1 t S1 T1 (IT.single x) x b n hmv.rep hsd hties hbd (fun j hj => ?_) (by rw [IT.single_same]; omega) hk (Nat.le_refl _)).mono ?_
 · rw [hcan j hj, IT.single_same]; omega
 · rintro e w' ⟨rfl, S', T', g1, g2, g3⟩
   rw [IT.less_one] at g2 g3
   exact ⟨rfl, S', T', hmv.trans g1, g2, IT.gone_nf g3⟩
theorem kept_holds {n : Nd} {m : IT.Nd} {l : Nat} (h : IT.Kept (kp n) m l) (a : Int) (b : Nat) (hab : a = b) : IT.Kept (kp { n with holds := a }) { m with holds := b } l :=
 ⟨h.kind, h.mode, h.owner, h.group, h.tty, hab, h.data, h.names, h.links, h.parent⟩
theorem drop_any {w : World} {t : Nat} {S : Tab} {T : IT.Tr} (h : Tre w t S T) (hb : HB T 1000000) (ki : Int) :
  Calls Tryz.prog 46 #[.pointer (some ⟨t, 0, none⟩), .int .i64 ki] w fun e w' => ∃ r, e = .returned (.bool r) ∧ Stp w t S (fun T' => IT.isDrop T ki.toNat r T') w' := by
 cases hk : S ki.toNat with
 | none =>
   have hT := (h.none_iff _).1 hk
   have HP : Hid (Stp w t S (fun T' => IT.isDrop T ki.toNat false T') w) := Hd (Stp.keep h (by unfold IT.isDrop; rw [hT]; exact ⟨rfl, rfl⟩))
   have H := Hd h.rep
   have HK := Hd hk
   clear h hk hT hb
   go_enter Tryz.func46, Tryz.ntmps46
   go_wp2_with fail
   refine (H.out.at_none _ HK.out).mono ?_
   rintro e w' ⟨rfl, rfl⟩
   go_wp2
   go_ret
   exact ⟨_, rfl, HP.out⟩
 | some q =>
   obtain ⟨b, n⟩ := q
   obtain ⟨m, hT, hkp⟩ := h.get hk
   have hh : n.holds = (m.holds : Int) := hkp.holds
   have hB := hb _ m hT
   have c8 := h.rep.c8 hk
   have f8 := h.rep.frozenN hk 8
   have H := Hd h.rep
   have HK := Hd hk
   by_cases hz : m.holds = 0
   · have HP : Hid (Stp w t S (fun T' => IT.isDrop T ki.toNat false T') w) := Hd (Stp.keep h (by unfold IT.isDrop; rw [hT]; show (if m.holds = 0 then _ else _); rw [if_pos hz]; exact ⟨rfl, rfl⟩))
     have hb3 : (n.holds == 0) = true := by simp; omega
     clear h hk hT hb hB hkp hz hh
     go_enter Tryz.func46, Tryz.ntmps46
     go_wp2_with fail
     refine (H.out.at_some _ HK.out).mono ?_
     rintro e w' ⟨rfl, rfl⟩
     go_wp2
     go_ret
     exact ⟨_, rfl, HP.out⟩
   · have hb1 : 1 ≤ n.holds := by omega
     have hb2 : n.holds ≤ 1000000 := by omega
     have hb3 : (n.holds == 0) = false := by simp; omega
     have hk2 := (h.rep.rng _ _ hk).2
     have hkn : IT.Kept (kp { n with holds := n.holds - 1 }) { m with holds := m.holds - 1 } (IT.lnk T ki.toNat) := kept_holds hkp _ _ (by omega)
     have hmv : Mv w t S (w.setCell ⟨b, 8, none⟩ (.int .i64 (n.holds - 1))) (upd S ki.toNat (some (b, { n with holds := n.holds - 1 }))) :=
      (Mv.refl h.rep).setNode hk 8 (.int .i64 (n.holds - 1)) { n with holds := n.holds - 1 } rfl rfl rfl rfl rfl (h.rep.small _ b n hk).1
     have hties : IT.Ties (kpOf (upd S ki.toNat (some (b, { n with holds := n.holds - 1 })))) (IT.upd T ki.toNat (some { m with holds := m.holds - 1 })) IT.calm := by
      rw [kpOf_upd]; exact h.ties.same hT hk2 rfl hkn
     have HG := Hd (gone_calm hmv (h.snd.1.same (n' := { m with holds := m.holds - 1 }) hT rfl rfl rfl (h.snd.1.size _ m hT)) hties (fun j hj => by
      rcases IT.same_can (n' := { m with holds := m.holds - 1 }) hT hk2 rfl hj with e | e
      · exact e.1
      · exact absurd e (h.snd.2 j)) (uY ..))
     have HR : Hid (∀ T', IT.NF (IT.upd T ki.toNat (some { m with holds := m.holds - 1 })) T' → IT.isDrop T ki.toNat true T') := Hd (fun T' hn => by
      unfold IT.isDrop; rw [hT]
      show (if m.holds = 0 then _ else _)
      rw [if_neg hz]; exact ⟨rfl, hn⟩)
     clear h hk hT hb hB hkp hz hh hk2 hkn hmv hties
     go_enter Tryz.func46, Tryz.ntmps46
     go_wp2_with fail
     refine (H.out.at_some _ HK.out).mono ?_
     rintro e w' ⟨rfl, rfl⟩
     go_wp2_with fail
     refine HG.out.mono ?_
     rintro e w' ⟨rfl, hp⟩
     have HP := Hd hp
     clear hp
     go_wp2
     go_ret
     obtain ⟨S', T', g1, g2, g3⟩ := HP.out
     exact ⟨_, rfl, S', T', g1, g2, HR.out T' g3⟩
theorem hold_any {w : World} {t : Nat} {S : Tab} {T : IT.Tr} (h : Tre w t S T) (hb : HB T 1000000) (ki : Int) :
  Calls Tryz.prog 40 #[.pointer (some ⟨t, 0, none⟩), .int .i64 ki] w fun e w' => ∃ r, e = .returned (.bool r) ∧ Stp w t S (fun T' => IT.isHold T ki.toNat r T') w' := by
 cases hk : S ki.toNat with
 | none =>
   have hT := (h.none_iff _).1 hk
   have HP : Hid (Stp w t S (fun T' => IT.isHold T ki.toNat false T') w) := Hd (Stp.keep h (by unfold IT.isHold; rw [hT]; exact ⟨rfl, rfl⟩))
   have H := Hd h.rep
   have HK := Hd hk
   clear h hk hT hb
   go_enter Tryz.func40, Tryz.ntmps40
   go_wp2_with fail
   refine (H.out.at_none _ HK.out).mono ?_
   rintro e w' ⟨rfl, rfl⟩
   go_wp2
   go_ret
   exact ⟨_, rfl, HP.out⟩
 | some q =>
   obtain ⟨b, n⟩ := q
   obtain ⟨m, hT, hkp⟩ := h.get hk
   have hh : n.holds = (m.holds : Int) := hkp.holds
   have hB := hb _ m hT
   have c8 := h.rep.c8 hk
   have f8 := h.rep.frozenN hk 8
   have H := Hd h.rep
   have HK := Hd hk
   have hb1 : 0 ≤ n.holds := by omega
   have hb2 : n.holds ≤ 1000000 := by omega
   have hk2 := (h.rep.rng _ _ hk).2
   have hkn : IT.Kept (kp { n with holds := n.holds + 1 }) { m with holds := m.holds + 1 } (IT.lnk T ki.toNat) := kept_holds hkp _ _ (by omega)
   have hmv : Mv w t S (w.setCell ⟨b, 8, none⟩ (.int .i64 (n.holds + 1))) (upd S ki.toNat (some (b, { n with holds := n.holds + 1 }))) :=
    (Mv.refl h.rep).setNode hk 8 (.int .i64 (n.holds + 1)) { n with holds := n.holds + 1 } rfl rfl rfl rfl rfl (h.rep.small _ b n hk).1
   have HP : Hid (Stp w t S (fun T' => IT.isHold T ki.toNat true T') (w.setCell ⟨b, 8, none⟩ (.int .i64 (n.holds + 1)))) := Hd ⟨_, IT.upd T ki.toNat (some { m with holds := m.holds + 1 }), hmv, by
    rw [kpOf_upd]; exact h.ties.same hT hk2 rfl hkn, by unfold IT.isHold; rw [hT]; exact ⟨rfl, rfl⟩⟩
   clear h hk hT hb hB hkp hh hk2 hkn hmv
   go_enter Tryz.func40, Tryz.ntmps40
   go_wp2_with fail
   refine (H.out.at_some _ HK.out).mono ?_
   rintro e w' ⟨rfl, rfl⟩
   go_wp2
   go_ret
   exact ⟨_, rfl, HP.out⟩
def rt (m o g : Int) : Prop := rightB m o g = true
theorem kept_set {n : Nd} {m : IT.Nd} {l : Nat} (h : IT.Kept (kp n) m l) (a b c : Int) : IT.Kept (kp { n with mode := a, owner := b, group := c }) { m with mode := a, owner := b, group := c } l :=
 ⟨h.kind, rfl, rfl, rfl, h.tty, h.holds, h.data, h.names, h.links, h.parent⟩
theorem set_any {w : World} {t : Nat} {S : Tab} {T : IT.Tr} (h : Tre w t S T) (ki mo o g : Int) :
  Calls Tryz.prog 43 #[.pointer (some ⟨t, 0, none⟩), .int .i64 ki, .int .i64 mo, .int .i64 o, .int .i64 g] w fun e w' => ∃ r, e = .returned (.int .i64 r) ∧ Stp w t S (fun T' => IT.isSet rt T ki.toNat mo o g r T') w' := by
 cases hk : S ki.toNat with
 | none =>
   have hT := (h.none_iff _).1 hk
   have HP : Hid (Stp w t S (fun T' => IT.isSet rt T ki.toNat mo o g 3 T') w) := Hd (Stp.keep h (by unfold IT.isSet; rw [hT]; exact ⟨rfl, rfl⟩))
   have H := Hd h.rep
   have HK := Hd hk
   clear h hk hT
   go_enter Tryz.func43, Tryz.ntmps43
   go_wp2_with fail
   refine (H.out.at_none _ HK.out).mono ?_
   rintro e w' ⟨rfl, rfl⟩
   go_wp2
   go_ret
   exact ⟨_, rfl, HP.out⟩
 | some q =>
   obtain ⟨b, n⟩ := q
   obtain ⟨m, hT, hkp⟩ := h.get hk
   have H := Hd h.rep
   have HK := Hd hk
   by_cases hr : rightB mo o g = true
   · have c2 := h.rep.c2 hk
     have c3 := h.rep.c3 hk
     have c4 := h.rep.c4 hk
     have f2 := h.rep.frozenN hk 2
     have f3 := h.rep.frozenN hk 3
     have f4 := h.rep.frozenN hk 4
     have hk2 := (h.rep.rng _ _ hk).2
     have hsm := (h.rep.small _ b n hk).1
     have hmv : Mv w t S (((w.setCell ⟨b, 2, none⟩ (.int .i64 mo)).setCell ⟨b, 3, none⟩ (.int .i64 o)).setCell ⟨b, 4, none⟩ (.int .i64 g)) (upd S ki.toNat (some (b, { n with mode := mo, owner := o, group := g }))) := by
      have h1 := (Mv.refl h.rep).setNode hk 2 (.int .i64 mo) { n with mode := mo } rfl rfl rfl rfl rfl hsm
      have h2 := h1.setNode (uY ..) 3 (.int .i64 o) { n with mode := mo, owner := o } rfl rfl rfl rfl rfl hsm
      have h3 := h2.setNode (uY ..) 4 (.int .i64 g) { n with mode := mo, owner := o, group := g } rfl rfl rfl rfl rfl hsm
      rw [upd_upd, upd_upd] at h3
      exact h3
     have HP : Hid (Stp w t S (fun T' => IT.isSet rt T ki.toNat mo o g 0 T') (((w.setCell ⟨b, 2, none⟩ (.int .i64 mo)).setCell ⟨b, 3, none⟩ (.int .i64 o)).setCell ⟨b, 4, none⟩ (.int .i64 g))) := Hd ⟨_, IT.upd T ki.toNat (some { m with mode := mo, owner := o, group := g }), hmv, by
      rw [kpOf_upd]; exact h.ties.same hT hk2 rfl (kept_set hkp _ _ _), by
      unfold IT.isSet; rw [hT]
      dsimp only
      rw [if_neg (fun hh => hh hr)]; exact ⟨rfl, rfl⟩⟩
     clear h hk hT hkp hk2 hmv hsm
     go_enter Tryz.func43, Tryz.ntmps43
     go_wp2_with fail
     refine (H.out.at_some _ HK.out).mono ?_
     rintro e w' ⟨rfl, rfl⟩
     go_wp2_with fail
     refine (right_any _ _ _ _).mono ?_
     rintro e w' ⟨rfl, rfl⟩
     go_wp2
     go_ret
     exact ⟨_, rfl, HP.out⟩
   · have hr : rightB mo o g = false := by simpa using hr
     have HP : Hid (Stp w t S (fun T' => IT.isSet rt T ki.toNat mo o g 1 T') w) := Hd (Stp.keep h (by
      unfold IT.isSet; rw [hT]
      dsimp only
      rw [if_pos (fun hh : rt mo o g => by unfold rt at hh; rw [hr] at hh; cases hh)]; exact ⟨rfl, rfl⟩))
     clear h hk hT hkp
     go_enter Tryz.func43, Tryz.ntmps43
     go_wp2_with fail
     refine (H.out.at_some _ HK.out).mono ?_
     rintro e w' ⟨rfl, rfl⟩
     go_wp2_with fail
     refine (right_any _ _ _ _).mono ?_
     rintro e w' ⟨rfl, rfl⟩
     go_wp2
     go_ret
     exact ⟨_, rfl, HP.out⟩
def infoT (T : IT.Tr) (k : Nat) (m : IT.Nd) : Value := .agg #[.int .i64 k, .int .i64 m.kind, .int .i64 m.mode, .int .i64 m.owner, .int .i64 m.group, .int .i64 (IT.lnk T k : Nat), .int .i64 (m.data.length + m.names.length : Nat), .int .i64 m.tty]
def statV (T : IT.Tr) (k : Nat) : Value := match T k with
 | none => noInfo
 | some m => infoT T k m
theorem info_eq {w : World} {t k b : Nat} {S : Tab} {T : IT.Tr} {n : Nd} {m : IT.Nd} (h : Rep w t S) (hk : S k = some (b, n)) (hkp : IT.Kept (kp n) m (IT.lnk T k)) : n.info = infoT T k m := by
 have e1 : n.kind = m.kind := hkp.kind
 have e2 : n.mode = m.mode := hkp.mode
 have e3 : n.owner = m.owner := hkp.owner
 have e4 : n.group = m.group := hkp.group
 have e5 : n.links = (IT.lnk T k : Int) := hkp.links
 have e6 : n.tty = m.tty := hkp.tty
 have e7 : bs n.data = m.data := hkp.data
 have e8 : (ents n.names).Perm m.names := hkp.names
 have e9 : n.names.length = m.names.length := by rw [← e8.length_eq]; simp [ents]
 have e10 : n.data.size = m.data.length := by rw [← e7, bs_len]
 unfold Nd.info infoT
 rw [h.ino k b n hk, e1, e2, e3, e4, e5, e6, e9, e10]
 rw [Int.natCast_add]
theorem stat_none {w : World} {t : Nat} {S : Tab} (h : Rep w t S) (k : Int) (hk : S k.toNat = none) :
  Calls Tryz.prog 17 #[.pointer (some ⟨t, 0, none⟩), .int .i64 k] w fun e w' => e = .returned (.tuple #[noInfo, .bool false]) ∧ Below w.heap.size w w' := by
 have H := Hd h
 have HK := Hd hk
 clear h hk
 go_enter Tryz.func17, Tryz.ntmps17
 go_wp2_with fail
 refine (((Mv.refl H.out).alloc _).rep.at_none _ HK.out).mono ?_
 rintro e w' ⟨rfl, rfl⟩
 go_wp2
 exact bodyPost_ret (v := .tuple #[noInfo, .bool false]) (by simp [results, Tryz.results17, go_sem, noInfo]) rfl ⟨rfl, (Below.refl _ _).alloc (Nat.le_refl _) _⟩
theorem stat_any {w : World} {t : Nat} {S : Tab} {T : IT.Tr} (h : Tre w t S T) (ki : Int) :
  Calls Tryz.prog 17 #[.pointer (some ⟨t, 0, none⟩), .int .i64 ki] w fun e w' => e = .returned (.tuple #[statV T ki.toNat, .bool (T ki.toNat).isSome]) ∧ Below w.heap.size w w' := by
 unfold statV
 cases hk : S ki.toNat with
 | none =>
   rw [(h.none_iff _).1 hk]
   exact stat_none h.rep ki hk
 | some q =>
   obtain ⟨b, n⟩ := q
   obtain ⟨m, hT, hkp⟩ := h.get hk
   rw [hT]
   refine (stat_some h.rep ki hk).mono ?_
   rintro e w' ⟨rfl, hb⟩
   exact ⟨by rw [info_eq h.rep hk hkp]; rfl, hb⟩
def dataT (T : IT.Tr) (k : Nat) : IT.Bytes := match T k with
 | none => []
 | some m => m.data
def lookT (T : IT.Tr) (k : Nat) (nm : IT.Bytes) : Option Nat := match T k with
 | none => none
 | some m => if m.kind ≠ 1 then none else if nm = [46] then some k else if nm = [46, 46] then some m.parent else IT.findN nm m.names
def lookV (o : Option Nat) : Value := .tuple #[.int .i64 (o.getD 0 : Nat), .bool o.isSome]
theorem Rep.dir_mp {w : World} {t b k : Nat} {S : Tab} {n : Nd} (h : Rep w t S) (hk : S k = some (b, n)) (hkd : n.kind = 1) : ∃ m, n.mp = some m := by
 have := h.dir k b n hk
 rw [hkd] at this
 exact Option.isSome_iff_exists.1 (by simpa using this)
theorem bs_ne {s : ByteArray} {l : List UInt8} (h : ¬ bs s = l) : ¬ s = tx l := fun e => h (by rw [e, bs_tx])
theorem look_any {w : World} {t : Nat} {S : Tab} {T : IT.Tr} (h : Tre w t S T) (ki : Int) (s : ByteArray) :
  Calls Tryz.prog 14 #[.pointer (some ⟨t, 0, none⟩), .int .i64 ki, .string s] w fun e w' => e = .returned (lookV (lookT T ki.toNat (bs s))) ∧ w = w' := by
 cases hk : S ki.toNat with
 | none =>
   have HE : Hid (lookT T ki.toNat (bs s) = none) := Hd (by unfold lookT; rw [(h.none_iff _).1 hk])
   have H := Hd h.rep
   have HK := Hd hk
   clear h hk
   go_enter Tryz.func14, Tryz.ntmps14
   go_wp2_with fail
   refine (H.out.at_none _ HK.out).mono ?_
   rintro e w' ⟨rfl, rfl⟩
   go_wp2
   go_ret2
   exact ⟨by rw [HE.out]; rfl, rfl⟩
 | some q =>
   obtain ⟨b, n⟩ := q
   obtain ⟨m, hT, hkp⟩ := h.get hk
   have hkd : n.kind = m.kind := hkp.kind
   have hpar : n.parent = m.parent := hkp.parent
   have hrg := h.rep.rng _ _ hk
   have hlk := h.look hk hT s
   have c1 := h.rep.c1 hk
   have c11 := h.rep.c11 hk
   have c10 := h.rep.c10 hk
   have H := Hd h.rep
   have HK := Hd hk
   by_cases h1 : m.kind = 1
   · obtain ⟨mb, hmb⟩ := h.rep.dir_mp hk (hkd.trans h1)
     have hmap := h.rep.map _ b n mb hk hmb
     have hkb : (n.kind == 1) = true := by rw [hkd, h1]; rfl
     rw [hkd, h1] at c1
     rw [hmb] at c10
     by_cases h2 : bs s = [46]
     · have HE : Hid (lookT T ki.toNat (bs s) = some ki.toNat) := Hd (by unfold lookT; rw [hT]; simp [h1, h2])
       obtain rfl : s = ⟨#[46]⟩ := by rw [← tx_bs s, h2]; rfl
       have HI : Hid ((ki.toNat : Int) = ki) := Hd (by omega)
       clear h hk hT hkp hkd hpar hrg hlk hmb hmap hkb h1 h2
       go_enter Tryz.func14, Tryz.ntmps14
       go_wp2_with fail
       refine (H.out.at_some _ HK.out).mono ?_
       rintro e w' ⟨rfl, rfl⟩
       go_wp2
       go_ret2
       exact ⟨by rw [HE.out]; show _ = Ending.returned (.tuple #[.int .i64 ((ki.toNat : Nat) : Int), .bool true]); rw [HI.out]; rfl, rfl⟩
     · by_cases h3 : bs s = [46, 46]
       · have HE : Hid (lookT T ki.toNat (bs s) = some n.parent) := Hd (by unfold lookT; rw [hT]; simp [h1, h3, hpar])
         obtain rfl : s = ⟨#[46, 46]⟩ := by rw [← tx_bs s, h3]; rfl
         clear h hk hT hkp hkd hpar hrg hlk hmb hmap hkb h1 h2 h3
         go_enter Tryz.func14, Tryz.ntmps14
         go_wp2_with fail
         refine (H.out.at_some _ HK.out).mono ?_
         rintro e w' ⟨rfl, rfl⟩
         go_wp2
         go_ret2
         exact ⟨by rw [HE.out]; rfl, rfl⟩
       · have e2 : (s.toList == [46]) = false := by rw [ByteArray.toList_eq]; exact beq_eq_false_iff_ne.2 h2
         have e3 : (s.toList == [46, 46]) = false := by rw [ByteArray.toList_eq]; exact beq_eq_false_iff_ne.2 h3
         have e4 : (s == (⟨#[46]⟩ : ByteArray)) = false := by rw [ba_beq]; exact decide_eq_false (bs_ne h2)
         have e5 : (s == (⟨#[46, 46]⟩ : ByteArray)) = false := by rw [ba_beq]; exact decide_eq_false (bs_ne h3)
         have HE : Hid (lookT T ki.toNat (bs s) = look n.names s) := Hd (by unfold lookT; rw [hT, hlk]; simp [h1, h2, h3])
         cases hl : look n.names s with
         | none =>
           rw [hl] at HE
           have hrun := run_lookup_none Tryz.underlying81 Tryz.underlying9 hmap s hl (by kernel_rfl)
           clear h hk hT hkp hkd hpar hrg hlk hmb hmap hkb h1 h2 h3 hl
           go_enter Tryz.func14, Tryz.ntmps14
           go_wp2_with fail
           refine (H.out.at_some _ HK.out).mono ?_
           rintro e w' ⟨rfl, rfl⟩
           go_wp2
           go_ret2
           exact ⟨by rw [HE.out]; rfl, rfl⟩
         | some x =>
           rw [hl] at HE
           have hrun := run_lookup_some Tryz.underlying81 Tryz.underlying9 hmap s x hl
           clear h hk hT hkp hkd hpar hrg hlk hmb hmap hkb h1 h2 h3 hl
           go_enter Tryz.func14, Tryz.ntmps14
           go_wp2_with fail
           refine (H.out.at_some _ HK.out).mono ?_
           rintro e w' ⟨rfl, rfl⟩
           go_wp2
           go_ret2
           exact ⟨by rw [HE.out]; rfl, rfl⟩
   · have HE : Hid (lookT T ki.toNat (bs s) = none) := Hd (by unfold lookT; rw [hT]; simp [h1])
     have hkb : (n.kind == 1) = false := by rw [hkd]; simpa using h1
     clear h hk hT hkp hkd hpar hrg hlk h1
     go_enter Tryz.func14, Tryz.ntmps14
     go_wp2_with fail
     refine (H.out.at_some _ HK.out).mono ?_
     rintro e w' ⟨rfl, rfl⟩
     go_wp2
     go_ret2
     exact ⟨by rw [HE.out]; rfl, rfl⟩
def rootNd (mode owner group : Int) (mp : Option Nat) : Nd := ⟨1, 1, mode, owner, group, 0, 0, 0, ByteArray.empty, mp, [], 1⟩
theorem rep_empty (w : World) : Own w.heap.size w (w.alloc (.cells (Array.replicate 201 (.pointer none)) 105)) w.heap.size (fun _ => none) := by
 have e : tabArr (fun _ => none) = Array.replicate 201 (.pointer none) := by
  apply Array.ext
  · simp [tabArr]
  · intro i h1 h2; simp [tabArr, ptrOf]
 refine ⟨⟨?_, fun k b n h => (by cases h), fun k b n m h => (by cases h), fun k b n h => (by cases h), fun i j b n m h => (by cases h), fun i j b n b' n' m h => (by cases h), fun k x h => (by cases h), fun k b n h => (by cases h), fun k b n h => (by cases h), fun k b n h => (by cases h)⟩, (Below.refl _ _).alloc (Nat.le_refl _) _, by rw [aZ]; omega, ?_⟩
 · rw [aQ, e]
 · rintro b (rfl | ⟨k, c, n, h, _⟩)
   · exact Nat.le_refl _
   · cases h
structure Tro (B : Nat) (w0 w : World) (t : Nat) (S : Tab) (T : IT.Tr) : Prop where
 own : Own B w0 w t S
 ties : IT.Ties (kpOf S) T IT.calm
 snd : IT.Sound okN T
theorem Tro.tre {B w0 w t S T} (h : Tro B w0 w t S T) : Tre w t S T := ⟨h.own.rep, h.ties, h.snd⟩
theorem Tro.stp {B : Nat} {w0 w w' : World} {t : Nat} {S : Tab} {T : IT.Tr} {R : IT.Tr → Prop} (h : Tro B w0 w t S T) (g : Stp w t S R w') (hR : ∀ T', R T' → IT.Sound okN T') : ∃ S' T', Tro B w0 w' t S' T' ∧ R T' ∧ Mv w t S w' S' := by
 obtain ⟨S', T', g1, g2, g3⟩ := g
 exact ⟨S', T', ⟨h.own.mv g1, g2, hR T' g3⟩, g3, g1⟩
theorem Tro.below {B : Nat} {w0 w w' : World} {t : Nat} {S : Tab} {T : IT.Tr} (h : Tro B w0 w t S T) (hb : Below w.heap.size w w') : Tro B w0 w' t S T := ⟨h.own.mv ((Mv.refl h.own.rep).below hb), h.ties, h.snd⟩
theorem Tro.alloc {B : Nat} {w0 w : World} {t : Nat} {S : Tab} {T : IT.Tr} (h : Tro B w0 w t S T) (o : Obj) : Tro B w0 (w.alloc o) t S T := h.below ((Below.refl _ _).alloc (Nat.le_refl _) _)
theorem Tro.drew {B : Nat} {w0 w : World} {t : Nat} {S : Tab} {T : IT.Tr} (h : Tro B w0 w t S T) : Tro B w0 w.drew t S T := h.below (Below.refl _ _).drew
theorem new_ok (w : World) (mode owner group : Int) (hr : rightB mode owner group = true) :
  Calls Tryz.prog 28 #[.int .i64 mode, .int .i64 owner, .int .i64 group] w fun e w' => ∃ t S, e = .returned (.pointer (some ⟨t, 0, none⟩)) ∧ Tro w.heap.size w w' t S (IT.rootT mode owner group) := by
 have HE := Hd (rep_empty w)
 have hz : ∀ w : World, (zeroValue 105).run Tryz.prog w = .ok (.agg (Array.replicate 201 (.pointer none))) w := fun _ => by kernel_rfl
 go_enter Tryz.func28, Tryz.ntmps28
 go_wp2_with fail
 refine (right_any _ _ _ _).mono ?_
 rintro e w' ⟨rfl, rfl⟩
 go_wp2_with fail
 refine (lay_dir HE.out.rep 1 1 rfl (by omega) (by omega) rfl _ _ _ _ _ _).mono ?_
 rintro e w' ⟨b, mp, rfl, hmv⟩
 have HM := Hd hmv
 clear hmv
 go_wp2
 go_ret
 refine ⟨w.heap.size, _, rfl, HE.out.mv HM.out, ?_, IT.rootT_sound _ _ _ _⟩
 rw [kpOf_upd]
 have e : kpOf (fun _ => none) = fun _ => none := by funext k; rfl
 rw [e]
 exact IT.Ties.root ⟨rfl, rfl, rfl, rfl, rfl, rfl, rfl, List.Perm.refl _, rfl, rfl⟩
theorem make_dir {w : World} {t : Nat} {S : Tab} (h : Rep w t S) (j : Nat) (hj : Free S j) (mode owner group tty : Int) (hr : rightB mode owner group = true) :
  Calls Tryz.prog 78 #[.pointer (some ⟨t, 0, none⟩), .int .i64 1, .int .i64 mode, .int .i64 owner, .int .i64 group, .int .i64 tty] w
   (makePost w t S j ⟨(j : Int) + 1, 1, mode, owner, group, 0, 0, 1, ByteArray.empty, none, [], j + 1⟩) := by
 have H := Hd h
 have HJ := Hd hj
 have hb : (j : Int) < 200 := by have := hj.1; omega
 have hb2 : ((1 + (j : Int)) == 0) = false := by simp; omega
 clear h hj
 go_enter Tryz.func78, Tryz.ntmps78
 go_wp2_with fail
 refine (right_any _ _ _ _).mono ?_
 rintro e w' ⟨rfl, rfl⟩
 go_wp2_with fail
 refine (index_found ((Mv.refl H.out).alloc _).rep j HJ.out.1 HJ.out.2.1 HJ.out.2.2).mono ?_
 rintro e w' ⟨rfl, rfl⟩
 go_wp2_with fail
 refine (lay_dir ((Mv.refl H.out).alloc _).rep _ (j + 1) (by omega) (by omega) (by omega) HJ.out.2.1 _ _ _ _ _ _).mono ?_
 rintro e w' ⟨b, mp, rfl, hmv⟩
 have hc := hmv.rep.cellN (uY ..) 8
 have hfz := hmv.rep.frozenN (uY ..) 8
 replace hc : w'.cell? ⟨b, 8, none⟩ = some (.int .i64 0) := hc
 have HM := Hd hmv
 clear hmv
 go_wp2
 go_ret2
 have h2 := (((Mv.refl H.out).alloc _).trans HM.out).setNode (uY ..) 8 (.int .i64 1) ⟨(j : Int) + 1, 1, mode, owner, group, 0, 0, 1, ByteArray.empty, mp, [], j + 1⟩ rfl rfl rfl rfl rfl (Nat.zero_le _)
 rw [upd_upd] at h2
 exact ⟨b, mp, ret_tup (by omega), h2⟩
theorem make_tty {w : World} {t : Nat} {S : Tab} (h : Rep w t S) (j : Nat) (hj : Free S j) (mode owner group tty : Int) (hr : rightB mode owner group = true) (ht1 : 0 ≤ tty) (ht2 : tty < 4) :
  Calls Tryz.prog 78 #[.pointer (some ⟨t, 0, none⟩), .int .i64 2, .int .i64 mode, .int .i64 owner, .int .i64 group, .int .i64 tty] w
   (makePost w t S j ⟨(j : Int) + 1, 2, mode, owner, group, 0, tty, 1, ByteArray.empty, none, [], 0⟩) := by
 have H := Hd h
 have HJ := Hd hj
 have hb : (j : Int) < 200 := by have := hj.1; omega
 have hb2 : ((1 + (j : Int)) == 0) = false := by simp; omega
 have ht3 : decide (tty < 0) = false := by simp; omega
 have ht4 : decide (4 ≤ tty) = false := by simp; omega
 clear h hj ht1 ht2
 go_enter Tryz.func78, Tryz.ntmps78
 go_wp2_with fail
 refine (right_any _ _ _ _).mono ?_
 rintro e w' ⟨rfl, rfl⟩
 go_wp2_with fail
 refine (index_found (((Mv.refl H.out).alloc _)).rep j HJ.out.1 HJ.out.2.1 HJ.out.2.2).mono ?_
 rintro e w' ⟨rfl, rfl⟩
 go_wp2_with fail
 refine (lay_file (((Mv.refl H.out).alloc _)).rep _ (j + 1) (by omega) (by omega) (by omega) HJ.out.2.1 _ _ _ _ _ _ _ (by decide)).mono ?_
 rintro e w' ⟨b, mp, rfl, hmv⟩
 have hc := hmv.rep.cellN (uY ..) 8
 have hfz := hmv.rep.frozenN (uY ..) 8
 replace hc : w'.cell? ⟨b, 8, none⟩ = some (.int .i64 0) := hc
 have HM := Hd hmv
 clear hmv
 go_wp2
 go_ret2
 have h2 := ((((Mv.refl H.out).alloc _)).trans HM.out).setNode (uY ..) 8 (.int .i64 1) ⟨(j : Int) + 1, 2, mode, owner, group, 0, tty, 1, ByteArray.empty, mp, [], 0⟩ rfl rfl rfl rfl rfl (Nat.zero_le _)
 rw [upd_upd] at h2
 exact ⟨b, mp, ret_tup (by omega), h2⟩
theorem make_bad {w : World} (t : Nat) (kind mode owner group tty : Int) (hk : kind < 0 ∨ 2 < kind ∨ rightB mode owner group = false) :
  Calls Tryz.prog 78 #[.pointer (some ⟨t, 0, none⟩), .int .i64 kind, .int .i64 mode, .int .i64 owner, .int .i64 group, .int .i64 tty] w fun e w' => e = .returned (.tuple #[.int .i64 0, .int .i64 1]) ∧ w = w' := by
 by_cases h1 : kind < 0
 · clear hk
   go_enter Tryz.func78, Tryz.ntmps78
   go_wp2
   go_ret2
   exact ⟨rfl, rfl⟩
 · by_cases h2 : 2 < kind
   · clear hk
     go_enter Tryz.func78, Tryz.ntmps78
     go_wp2
     go_ret2
     exact ⟨rfl, rfl⟩
   · have hr : rightB mode owner group = false := by rcases hk with h | h | h <;> first | omega | exact h
     clear hk
     go_enter Tryz.func78, Tryz.ntmps78
     go_wp2_with fail
     refine (right_any _ _ _ _).mono ?_
     rintro e w' ⟨rfl, rfl⟩
     go_wp2
     go_ret2
     exact ⟨rfl, rfl⟩
theorem make_notty {w : World} (t : Nat) (mode owner group tty : Int) (hr : rightB mode owner group = true) (ht : tty < 0 ∨ 4 ≤ tty) :
  Calls Tryz.prog 78 #[.pointer (some ⟨t, 0, none⟩), .int .i64 2, .int .i64 mode, .int .i64 owner, .int .i64 group, .int .i64 tty] w fun e w' => e = .returned (.tuple #[.int .i64 0, .int .i64 1]) ∧ Below w.heap.size w w' := by
 by_cases h1 : tty < 0
 · clear ht
   go_enter Tryz.func78, Tryz.ntmps78
   go_wp2_with fail
   refine (right_any _ _ _ _).mono ?_
   rintro e w' ⟨rfl, rfl⟩
   go_wp2
   go_ret2
   exact ⟨rfl, (Below.refl _ _).alloc (Nat.le_refl _) _⟩
 · have h2 : 4 ≤ tty := by omega
   clear ht
   go_enter Tryz.func78, Tryz.ntmps78
   go_wp2_with fail
   refine (right_any _ _ _ _).mono ?_
   rintro e w' ⟨rfl, rfl⟩
   go_wp2
   go_ret2
   exact ⟨rfl, (Below.refl _ _).alloc (Nat.le_refl _) _⟩
theorem make_full {w : World} {t : Nat} {S : Tab} (h : Rep w t S) (hs : ∀ i, i < 200 → S (i + 1) ≠ none) (kind mode owner group tty : Int) (hk : kind = 0 ∨ kind = 1) (hr : rightB mode owner group = true) :
  Calls Tryz.prog 78 #[.pointer (some ⟨t, 0, none⟩), .int .i64 kind, .int .i64 mode, .int .i64 owner, .int .i64 group, .int .i64 tty] w fun e w' => e = .returned (.tuple #[.int .i64 0, .int .i64 9]) ∧ Below w.heap.size w w' := by
 have H := Hd h
 have HS := Hd hs
 clear h hs
 rcases hk with rfl | rfl
 all_goals
  go_enter Tryz.func78, Tryz.ntmps78
  go_wp2_with fail
  refine (right_any _ _ _ _).mono ?_
  rintro e w' ⟨rfl, rfl⟩
  go_wp2_with fail
  refine (index_full ((Mv.refl H.out).alloc _).rep HS.out).mono ?_
  rintro e w' ⟨rfl, rfl⟩
  go_wp2
  go_ret2
  exact ⟨rfl, (Below.refl _ _).alloc (Nat.le_refl _) _⟩
theorem make_fullt {w : World} {t : Nat} {S : Tab} (h : Rep w t S) (hs : ∀ i, i < 200 → S (i + 1) ≠ none) (mode owner group tty : Int) (hr : rightB mode owner group = true) (ht1 : 0 ≤ tty) (ht2 : tty < 4) :
  Calls Tryz.prog 78 #[.pointer (some ⟨t, 0, none⟩), .int .i64 2, .int .i64 mode, .int .i64 owner, .int .i64 group, .int .i64 tty] w fun e w' => e = .returned (.tuple #[.int .i64 0, .int .i64 9]) ∧ Below w.heap.size w w' := by
 have H := Hd h
 have HS := Hd hs
 have ht3 : decide (tty < 0) = false := by simp; omega
 have ht4 : decide (4 ≤ tty) = false := by simp; omega
 clear h hs ht1 ht2
 go_enter Tryz.func78, Tryz.ntmps78
 go_wp2_with fail
 refine (right_any _ _ _ _).mono ?_
 rintro e w' ⟨rfl, rfl⟩
 go_wp2_with fail
 refine (index_full ((Mv.refl H.out).alloc _).rep HS.out).mono ?_
 rintro e w' ⟨rfl, rfl⟩
 go_wp2
 go_ret2
 exact ⟨rfl, (Below.refl _ _).alloc (Nat.le_refl _) _⟩
theorem free_or (S : Tab) : (∃ j, Free S j) ∨ ∀ i, i < 200 → S (i + 1) ≠ none := by
 have main : ∀ N, N ≤ 200 → (∃ j, Free S j) ∨ ∀ i, i < N → S (i + 1) ≠ none := by
  intro N
  induction N with
  | zero => intro _; exact .inr (fun i hi => by omega)
  | succ N ih =>
    intro hN
    rcases ih (by omega) with h | h
    · exact .inl h
    · cases hS : S (N + 1) with
      | none => exact .inl ⟨N, by omega, hS, h⟩
      | some x =>
        refine .inr fun i hi => ?_
        by_cases e : i = N
        · subst e; rw [hS]; intro e; cases e
        · exact h i (by omega)
 exact main 200 (Nat.le_refl _)
theorem make_any {w : World} {t : Nat} {S : Tab} {T : IT.Tr} (h : Tre w t S T) (kind mo o g tty : Int) :
  Calls Tryz.prog 78 #[.pointer (some ⟨t, 0, none⟩), .int .i64 kind, .int .i64 mo, .int .i64 o, .int .i64 g, .int .i64 tty] w fun e w' => ∃ (i : Nat) (r : Int), e = .returned (.tuple #[.int .i64 i, .int .i64 r]) ∧ Stp w t S (fun T' => IT.isMake rt T kind mo o g tty i r T') w' := by
 by_cases hbad : kind < 0 ∨ 2 < kind ∨ rightB mo o g = false
 · refine (make_bad t kind mo o g tty hbad).mono ?_
   rintro e w' ⟨rfl, rfl⟩
   refine ⟨0, 1, rfl, Stp.keep h ?_⟩
   unfold IT.isMake
   rw [if_pos]
   · exact ⟨rfl, rfl, rfl⟩
   · rcases hbad with a | a | a
     · exact .inl a
     · exact .inr (.inl a)
     · exact .inr (.inr fun hh => by unfold rt at hh; rw [a] at hh; cases hh)
 · have hr : rightB mo o g = true := by
    cases hb : rightB mo o g with
    | true => rfl
    | false => exact absurd (.inr (.inr hb)) hbad
   have hk0 : ¬ kind < 0 := fun a => hbad (.inl a)
   have hk2 : ¬ 2 < kind := fun a => hbad (.inr (.inl a))
   have n1 : ¬ (kind < 0 ∨ kind > 2 ∨ ¬ rt mo o g) := by
    rintro (a | a | a)
    · exact hk0 a
    · exact hk2 a
    · exact a hr
   by_cases htt : kind = 2 ∧ (tty < 0 ∨ tty ≥ 4)
   · obtain ⟨rfl, ht⟩ := htt
     refine (make_notty t mo o g tty hr ht).mono ?_
     rintro e w' ⟨rfl, hb⟩
     refine ⟨0, 1, rfl, Stp.keepB h hb ?_⟩
     unfold IT.isMake
     rw [if_neg n1, if_pos ⟨rfl, ht⟩]
     exact ⟨rfl, rfl, rfl⟩
   · have hfu : ∀ w', Below w.heap.size w w' → (∀ i, i < 200 → S (i + 1) ≠ none) → Stp w t S (fun T' => IT.isMake rt T kind mo o g tty 0 9 T') w' := by
      intro w' hb hs
      refine Stp.keepB h hb ?_
      unfold IT.isMake
      rw [if_neg n1, if_neg htt, if_pos]
      · exact ⟨rfl, rfl, rfl⟩
      · intro k h1 h2 e
        exact hs (k - 1) (by omega) ((h.none_iff _).2 (by rw [Nat.sub_add_cancel h1]; exact e))
     have hfr : ∀ (j : Nat) (n : Nd) (e : Ending) (w' : World), Free S j → makePost w t S j n e w' → n.names = [] → (∀ mp, IT.Kept (kp { n with mp := mp }) ⟨kind, mo, o, g, if kind = 2 then tty else 0, 1, [], [], if kind = 1 then j + 1 else 0⟩ 0) →
       ∃ (i : Nat) (r : Int), e = .returned (.tuple #[.int .i64 i, .int .i64 r]) ∧ Stp w t S (fun T' => IT.isMake rt T kind mo o g tty i r T') w' := by
      rintro j n e w' hj ⟨b, mp, rfl, hmv⟩ hn hkp
      have hT : T (j + 1) = none := (h.none_iff _).1 hj.2.1
      have hj1 := hj.1
      refine ⟨j + 1, 0, rfl, _, IT.upd T (j + 1) (some ⟨kind, mo, o, g, if kind = 2 then tty else 0, 1, [], [], if kind = 1 then j + 1 else 0⟩), hmv, ?_, ?_⟩
      · rw [kpOf_upd]
        exact h.ties.make hT (by omega) rfl (h.snd.1.free hT) (hkp mp)
      · unfold IT.isMake
        dsimp only
        rw [if_neg n1, if_neg htt, if_neg (fun hh => hh (j + 1) (by omega) (by omega) hT)]
        refine ⟨rfl, by omega, by omega, hT, fun k h1 h2 e => ?_, rfl⟩
        exact hj.2.2 (k - 1) (by omega) ((h.none_iff _).2 (by rw [Nat.sub_add_cancel h1]; exact e))
     rcases free_or S with ⟨j, hj⟩ | hs
     · rcases (show kind = 0 ∨ kind = 1 ∨ kind = 2 by omega) with rfl | rfl | rfl
       · exact (make_file h.rep j hj mo o g tty hr).mono fun e w' hp => hfr j _ e w' hj hp rfl fun mp => ⟨rfl, rfl, rfl, rfl, rfl, rfl, rfl, List.Perm.refl _, rfl, rfl⟩
       · exact (make_dir h.rep j hj mo o g tty hr).mono fun e w' hp => hfr j _ e w' hj hp rfl fun mp => ⟨rfl, rfl, rfl, rfl, rfl, rfl, rfl, List.Perm.refl _, rfl, rfl⟩
       · have ht1 : 0 ≤ tty := Int.not_lt.1 fun a => htt ⟨rfl, .inl a⟩
         have ht2 : tty < 4 := Int.not_le.1 fun a => htt ⟨rfl, .inr a⟩
         exact (make_tty h.rep j hj mo o g tty hr ht1 ht2).mono fun e w' hp => hfr j _ e w' hj hp rfl fun mp => ⟨rfl, rfl, rfl, rfl, rfl, rfl, rfl, List.Perm.refl _, rfl, rfl⟩
     · rcases (show kind = 0 ∨ kind = 1 ∨ kind = 2 by omega) with rfl | rfl | rfl
       · refine (make_full h.rep hs 0 mo o g tty (.inl rfl) hr).mono ?_
         rintro e w' ⟨rfl, hb⟩
         exact ⟨0, 9, rfl, hfu w' hb hs⟩
       · refine (make_full h.rep hs 1 mo o g tty (.inr rfl) hr).mono ?_
         rintro e w' ⟨rfl, hb⟩
         exact ⟨0, 9, rfl, hfu w' hb hs⟩
       · have ht1 : 0 ≤ tty := Int.not_lt.1 fun a => htt ⟨rfl, .inl a⟩
         have ht2 : tty < 4 := Int.not_le.1 fun a => htt ⟨rfl, .inr a⟩
         refine (make_fullt h.rep hs mo o g tty hr ht1 ht2).mono ?_
         rintro e w' ⟨rfl, hb⟩
         exact ⟨0, 9, rfl, hfu w' hb hs⟩
theorem plain_take (s : ByteArray) (k : Nat) (h : k < s.size) : plainB (s.data.toList.take (k + 1)) = (plainB (s.data.toList.take k) && okc s[k]) := by
 unfold plainB
 rw [List.take_succ_eq_append_getElem (by simpa using h), List.all_append]
 simp only [List.all_cons, List.all_nil, Bool.and_true]
 rfl
theorem plain_all (s : ByteArray) (k : Nat) (hk : s.size ≤ k) : s.data.toList.take k = s.data.toList := List.take_of_length_le (by simpa using hk)
theorem plain_bad (s : ByteArray) (k : Nat) (h : k < s.size) (hb : okc s[k] = false) : plainB s.data.toList = false := by
 unfold plainB
 rw [List.all_eq_false]
 exact ⟨s[k], by have : s[k] = s.data.toList[k]'(by simpa using h) := rfl
                 rw [this]; exact List.getElem_mem _, by simp [hb]⟩
theorem plain_any (s : ByteArray) (w : World) (hs : s.size ≤ 1000000) :
  Calls Tryz.prog 47 #[.string s] w fun e w' => e = .returned (.bool (plainB s.data.toList)) ∧ w = w' := by
 go_enter Tryz.func47, Tryz.ntmps47
 go_wp2
 go_loop [6] (fun i => ∃ k : Nat, k ≤ s.size ∧ i = .int .i64 k ∧ plainB (s.data.toList.take k) = true) (fun i => s.size - (intOf i).toNat)
 case atStart => exact ⟨0, Nat.zero_le _, rfl, rfl⟩
 case round =>
  obtain ⟨k, hk, rfl, hp⟩ := hrel
  have HP := Hd hp
  clear hp
  by_cases hlt : k < s.size
  · by_cases h1 : (s[k].toNat : Int) < 32
    · have hb : okc s[k] = false := by simp [okc]; omega
      have HB := Hd hb
      clear hb
      go_wp2
      go_ret
      exact ⟨ret_bool (plain_bad s k hlt HB.out).symm, rfl⟩
    · by_cases h2 : ((s[k].toNat : Int) == 127) = true
      · have hb : okc s[k] = false := by simp at h2; simp [okc]; omega
        have HB := Hd hb
        clear hb
        go_wp2
        go_ret
        exact ⟨ret_bool (plain_bad s k hlt HB.out).symm, rfl⟩
      · have h3 : ((s[k].toNat : Int) == 127) = false := by simpa using h2
        have hb : okc s[k] = true := by simp at h3; simp [okc]; omega
        have HB := Hd hb
        clear hb h2
        go_wp2
        go_round
        case rel => exact ⟨k + 1, by omega, by go_num, by rw [plain_take s k hlt, HP.out, HB.out]; rfl⟩
        case measure => simp [intOf]; omega
  · go_wp2
    go_ret
    exact ⟨ret_bool (by rw [plain_all s k (by omega)] at HP; exact HP.out.symm), rfl⟩
def nameB (s : ByteArray) : Bool := decide (¬ s.data.toList = [] ∧ s.size ≤ 14 ∧ ¬ s.data.toList = [46] ∧ ¬ s.data.toList = [46, 46] ∧ plainB s.data.toList = true ∧ ¬ (0 ≤ Lib.indexByte s.data.toList 47))
theorem tQ (s : ByteArray) : s.toList = s.data.toList := ByteArray.toList_eq s
theorem name_any (s : ByteArray) (w : World) :
  Calls Tryz.prog 23 #[.string s] w fun e w' => e = .returned (.bool (nameB s)) ∧ w = w' := by
 go_enter Tryz.func23, Tryz.ntmps23
 go_wp2_with (first | (go_at_call 47; refine (plain_any _ _ (by omega)).mono ?_; rintro e w' ⟨rfl, rfl⟩) | (go_at_call 48; refine (Tryz.strings_Contains_one _ _ _).mono ?_; rintro e w' ⟨rfl, rfl⟩))
 all_goals (have H := Hd (tQ s))
 all_goals go_ret
 all_goals refine ⟨ret_bool ?_, rfl⟩
 all_goals simp only [H.out] at *
 · simp [nameB, *]
 · simp [nameB, *]
 · simp [nameB, *]
 · have hsz : s.size ≤ 14 := by omega
   have hne : s.data.toList.isEmpty = false := by cases hl : s.data.toList with | nil => exact absurd hl ‹_› | cons => rfl
   have e1 : (s.data.toList == [46]) = false := by simpa using ‹¬ s.data.toList = [46]›
   have e2 : (s.data.toList == [46, 46]) = false := by simpa using ‹¬ s.data.toList = [46, 46]›
   rw [hne, e1, e2, Bool.eq_iff_iff]
   simp only [nameB, decide_eq_true_eq, Bool.not_false, Bool.true_and, Bool.not_eq_true']
   constructor
   · intro h; exact ⟨‹_›, hsz, ‹_›, ‹_›, ‹_›, by simpa using h⟩
   · rintro ⟨_, _, _, _, _, h⟩; simpa using h
 · simp [nameB, *]
 · have hsz : ¬ s.size ≤ 14 := by omega
   simp [nameB, hsz]
theorem nameB_ok (s : ByteArray) : nameB s = okN (bs s) := by
 unfold nameB okN
 rw [bs_len]; rfl
theorem file_none {w : World} {t : Nat} {S : Tab} (h : Rep w t S) (ki : Int) (hk : S ki.toNat = none) :
  Calls Tryz.prog 79 #[.pointer (some ⟨t, 0, none⟩), .int .i64 ki] w fun e w' => w = w' ∧ e = .returned (.tuple #[.pointer none, .int .i64 3]) := by
 have H := Hd h
 have HK := Hd hk
 clear h hk
 go_enter Tryz.func79, Tryz.ntmps79
 go_wp2_with fail
 refine (H.out.at_none _ HK.out).mono ?_
 rintro e w' ⟨rfl, rfl⟩
 go_wp2
 go_ret2
 exact ⟨rfl, rfl⟩
theorem file_dir {w : World} {t : Nat} {S : Tab} (h : Rep w t S) (ki : Int) {b : Nat} {n : Nd} (hk : S ki.toNat = some (b, n)) (hkd : n.kind = 1) :
  Calls Tryz.prog 79 #[.pointer (some ⟨t, 0, none⟩), .int .i64 ki] w fun e w' => w = w' ∧ e = .returned (.tuple #[.pointer none, .int .i64 7]) := by
 have c1 : w.cell? ⟨b, 1, none⟩ = some (.int .i64 1) := by rw [h.c1 hk, hkd]
 clear hkd
 have H := Hd h
 have HK := Hd hk
 clear h hk
 go_enter Tryz.func79, Tryz.ntmps79
 go_wp2_with fail
 refine (H.out.at_some _ HK.out).mono ?_
 rintro e w' ⟨rfl, rfl⟩
 go_wp2
 go_ret2
 exact ⟨rfl, rfl⟩
theorem file_tty {w : World} {t : Nat} {S : Tab} (h : Rep w t S) (ki : Int) {b : Nat} {n : Nd} (hk : S ki.toNat = some (b, n)) (hkd : n.kind = 2) :
  Calls Tryz.prog 79 #[.pointer (some ⟨t, 0, none⟩), .int .i64 ki] w fun e w' => w = w' ∧ e = .returned (.tuple #[.pointer none, .int .i64 1]) := by
 have c1 : w.cell? ⟨b, 1, none⟩ = some (.int .i64 2) := by rw [h.c1 hk, hkd]
 clear hkd
 have H := Hd h
 have HK := Hd hk
 clear h hk
 go_enter Tryz.func79, Tryz.ntmps79
 go_wp2_with fail
 refine (H.out.at_some _ HK.out).mono ?_
 rintro e w' ⟨rfl, rfl⟩
 go_wp2
 go_ret2
 exact ⟨rfl, rfl⟩
theorem file_ok {w : World} {t : Nat} {S : Tab} (h : Rep w t S) (ki : Int) {b : Nat} {n : Nd} (hk : S ki.toNat = some (b, n)) (h1 : ¬ n.kind = 1) (h2 : ¬ n.kind = 2) :
  Calls Tryz.prog 79 #[.pointer (some ⟨t, 0, none⟩), .int .i64 ki] w fun e w' => w = w' ∧ e = .returned (.tuple #[.pointer (some ⟨b, 0, none⟩), .int .i64 0]) := by
 have c1 := h.c1 hk
 have e1 : (n.kind == 1) = false := by simpa using h1
 have e2 : (n.kind == 2) = false := by simpa using h2
 clear h1 h2
 have H := Hd h
 have HK := Hd hk
 clear h hk
 go_enter Tryz.func79, Tryz.ntmps79
 go_wp2_with fail
 refine (H.out.at_some _ HK.out).mono ?_
 rintro e w' ⟨rfl, rfl⟩
 go_wp2
 go_ret2
 exact ⟨rfl, rfl⟩
theorem kept_data {n : Nd} {m : IT.Nd} {l : Nat} (h : IT.Kept (kp n) m l) (a : ByteArray) (b : IT.Bytes) (hab : bs a = b) : IT.Kept (kp { n with data := a }) { m with data := b } l :=
 ⟨h.kind, h.mode, h.owner, h.group, h.tty, h.holds, hab, h.names, h.links, h.parent⟩
theorem cut_any {w : World} {t : Nat} {S : Tab} {T : IT.Tr} (h : Tre w t S T) (ki : Int) :
  Calls Tryz.prog 41 #[.pointer (some ⟨t, 0, none⟩), .int .i64 ki] w fun e w' => ∃ r, e = .returned (.int .i64 r) ∧ Stp w t S (fun T' => IT.isCut T ki.toNat r T') w' := by
 cases hk : S ki.toNat with
 | none =>
   have hfile := file_none h.rep ki hk
   have HF := Hd hfile
   have HP : Hid (Stp w t S (fun T' => IT.isCut T ki.toNat 3 T') w) := Hd (Stp.keep h (by unfold IT.isCut; rw [(h.none_iff _).1 hk]; exact ⟨rfl, rfl⟩))
   clear h hk hfile
   go_enter Tryz.func41, Tryz.ntmps41
   go_wp2_with fail
   refine HF.out.mono ?_
   rintro e w' ⟨rfl, rfl⟩
   go_wp2
   go_ret
   exact ⟨_, rfl, HP.out⟩
 | some q =>
   obtain ⟨b, n⟩ := q
   obtain ⟨m, hT, hkp⟩ := h.get hk
   have hkd : n.kind = m.kind := hkp.kind
   by_cases h1 : m.kind = 1
   · have HP : Hid (Stp w t S (fun T' => IT.isCut T ki.toNat 7 T') w) := Hd (Stp.keep h (by unfold IT.isCut; rw [hT]; dsimp only; rw [if_pos h1]; exact ⟨rfl, rfl⟩))
     have hfile := file_dir h.rep ki hk (hkd.trans h1)
     have HF := Hd hfile
     clear h hk hfile hT hkp hkd h1
     go_enter Tryz.func41, Tryz.ntmps41
     go_wp2_with fail
     refine HF.out.mono ?_
     rintro e w' ⟨rfl, rfl⟩
     go_wp2
     go_ret
     exact ⟨_, rfl, HP.out⟩
   · by_cases h2 : m.kind = 2
     · have HP : Hid (Stp w t S (fun T' => IT.isCut T ki.toNat 1 T') w) := Hd (Stp.keep h (by unfold IT.isCut; rw [hT]; dsimp only; rw [if_neg h1, if_pos h2]; exact ⟨rfl, rfl⟩))
       have hfile := file_tty h.rep ki hk (hkd.trans h2)
       have HF := Hd hfile
       clear h hk hfile hT hkp hkd h1 h2
       go_enter Tryz.func41, Tryz.ntmps41
       go_wp2_with fail
       refine HF.out.mono ?_
       rintro e w' ⟨rfl, rfl⟩
       go_wp2
       go_ret
       exact ⟨_, rfl, HP.out⟩
     · have hk2 := (h.rep.rng _ _ hk).2
       have hmv : Mv w t S (w.setCell ⟨b, 9, none⟩ (.string ByteArray.empty)) (upd S ki.toNat (some (b, { n with data := ByteArray.empty }))) :=
        (Mv.refl h.rep).setNode hk 9 (.string ByteArray.empty) { n with data := ByteArray.empty } rfl rfl rfl rfl rfl (Nat.zero_le _)
       have HP : Hid (Stp w t S (fun T' => IT.isCut T ki.toNat 0 T') (w.setCell ⟨b, 9, none⟩ (.string ByteArray.empty))) := Hd ⟨_, IT.upd T ki.toNat (some { m with data := [] }), hmv, by
        rw [kpOf_upd]; exact h.ties.same hT hk2 rfl (kept_data hkp _ _ rfl), by unfold IT.isCut; rw [hT]; dsimp only; rw [if_neg h1, if_neg h2]; exact ⟨rfl, rfl⟩⟩
       have c9 := h.rep.c9 hk
       have f9 := h.rep.frozenN hk 9
       have hfile := file_ok h.rep ki hk (by rw [hkd]; exact h1) (by rw [hkd]; exact h2)
       have HF := Hd hfile
       clear h hk hfile hT hkp hkd h1 h2 hmv hk2
       go_enter Tryz.func41, Tryz.ntmps41
       go_wp2_with fail
       refine HF.out.mono ?_
       rintro e w' ⟨rfl, rfl⟩
       go_wp2
       go_ret
       exact ⟨_, rfl, HP.out⟩
def putAt (d : ByteArray) (a : Nat) (s : ByteArray) : ByteArray := d.extract 0 a ++ s ++ d.extract (min d.size (a + s.size)) d.size
theorem putAt_le (d : ByteArray) (a : Nat) (s : ByteArray) (hd : d.size ≤ 4096) (ha : a ≤ d.size) (hs : s.size + a ≤ 4096) : (putAt d a s).size ≤ 4096 := by
 simp only [putAt, ByteArray.size_append, ByteArray.size_extract]; omega
theorem putAt_bs (d : ByteArray) (a : Nat) (s : ByteArray) : bs (putAt d a s) = (bs d).take a ++ bs s ++ (bs d).drop (a + (bs s).length) := by
 have hs := bs_len s
 have hd := bs_len d
 unfold bs at hs hd
 unfold putAt bs
 simp only [ByteArray.data_append, ByteArray.data_extract, Array.toList_append, Array.toList_extract, List.extract_eq_take_drop]
 rw [Nat.sub_zero, List.drop_zero, hs]
 congr 1
 by_cases h : a + s.size ≤ d.size
 · rw [Nat.min_eq_right h]
   apply List.take_of_length_le
   rw [List.length_drop, hd]; omega
 · rw [Nat.min_eq_left (by omega), Nat.sub_self, List.take_zero]
   exact (List.drop_of_length_le (by rw [hd]; omega)).symm
theorem put_file {w : World} {t b : Nat} {S : Tab} {n : Nd} (h : Rep w t S) (ki : Int) (hk : S ki.toNat = some (b, n)) (hkd : ¬ n.kind = 1 ∧ ¬ n.kind = 2) (a : Nat) (s : ByteArray) (ha : a ≤ n.data.size) (hs : s.size + a ≤ 4096) :
  Calls Tryz.prog 103 #[.pointer (some ⟨t, 0, none⟩), .int .i64 ki, .int .i64 a, .string s] w fun e w' => e = .returned (.int .i64 0) ∧ Mv w t S w' (upd S ki.toNat (some (b, { n with data := putAt n.data a s }))) := by
 have c9 := h.c9 hk
 have f9 := h.frozenN hk 9
 have hd := (h.small _ b n hk).1
 have hd1 : (n.data.size : Int) ≤ 4096 := by omega
 have ha1 : (a : Int) ≤ n.data.size := by omega
 have ha2 : (a : Int) ≤ 4096 := by omega
 have hs1 : (s.size : Int) + a ≤ 4096 := by omega
 have hfile := file_ok h ki hk hkd.1 hkd.2
 have H := Hd h
 have HK := Hd hk
 have HF := Hd hfile
 clear h hk hkd hfile
 go_enter Tryz.func103, Tryz.ntmps103
 go_wp2_with fail
 refine HF.out.mono ?_
 rintro e w' ⟨rfl, rfl⟩
 go_wp2
 go_region
 go_wp2
 go_ret
 have e : (min (n.data.size : Int) ((a : Int) + s.size)).toNat = min n.data.size (a + s.size) := by omega
 rw [e]
 exact ⟨rfl, ((Mv.refl H.out).setNode HK.out 9 (.string (putAt n.data a s)) { n with data := putAt n.data a s } rfl rfl rfl rfl rfl (putAt_le _ _ _ hd ha hs)).drew⟩
theorem put_bad {w : World} {t b : Nat} {S : Tab} {n : Nd} (h : Rep w t S) (ki : Int) (hk : S ki.toNat = some (b, n)) (hkd : ¬ n.kind = 1 ∧ ¬ n.kind = 2) (a : Int) (s : ByteArray) (ha : a < 0 ∨ (n.data.size : Int) < a) :
  Calls Tryz.prog 103 #[.pointer (some ⟨t, 0, none⟩), .int .i64 ki, .int .i64 a, .string s] w fun e w' => e = .returned (.int .i64 1) ∧ w = w' := by
 have c9 := h.c9 hk
 have hfile := file_ok h ki hk hkd.1 hkd.2
 have HF := Hd hfile
 clear h hk hkd hfile
 by_cases h1 : a < 0
 · clear ha
   go_enter Tryz.func103, Tryz.ntmps103
   go_wp2_with fail
   refine HF.out.mono ?_
   rintro e w' ⟨rfl, rfl⟩
   go_wp2
   go_ret
   exact ⟨rfl, rfl⟩
 · have h2 : (n.data.size : Int) < a := by omega
   clear ha
   go_enter Tryz.func103, Tryz.ntmps103
   go_wp2_with fail
   refine HF.out.mono ?_
   rintro e w' ⟨rfl, rfl⟩
   go_wp2
   go_ret
   exact ⟨rfl, rfl⟩
theorem put_full {w : World} {t b : Nat} {S : Tab} {n : Nd} (h : Rep w t S) (ki : Int) (hk : S ki.toNat = some (b, n)) (hkd : ¬ n.kind = 1 ∧ ¬ n.kind = 2) (a : Nat) (s : ByteArray) (ha : a ≤ n.data.size) (hs : 4096 < s.size + a) :
  Calls Tryz.prog 103 #[.pointer (some ⟨t, 0, none⟩), .int .i64 ki, .int .i64 a, .string s] w fun e w' => e = .returned (.int .i64 9) ∧ w = w' := by
 have c9 := h.c9 hk
 have hd := (h.small _ b n hk).1
 have ha1 : (a : Int) ≤ n.data.size := by omega
 have ha2 : (a : Int) ≤ 4096 := by omega
 have hs1 : 4096 - (a : Int) < s.size := by omega
 have hfile := file_ok h ki hk hkd.1 hkd.2
 have HF := Hd hfile
 clear h hk hkd hfile
 go_enter Tryz.func103, Tryz.ntmps103
 go_wp2_with fail
 refine HF.out.mono ?_
 rintro e w' ⟨rfl, rfl⟩
 go_wp2
 go_ret
 exact ⟨rfl, rfl⟩
theorem put_no {w : World} {t : Nat} (ki a : Int) (s : ByteArray) (e0 : Int) (he : e0 = 1 ∨ e0 = 3 ∨ e0 = 7)
  (hfile : Calls Tryz.prog 79 #[.pointer (some ⟨t, 0, none⟩), .int .i64 ki] w fun e w' => w = w' ∧ e = .returned (.tuple #[.pointer none, .int .i64 e0])) :
  Calls Tryz.prog 103 #[.pointer (some ⟨t, 0, none⟩), .int .i64 ki, .int .i64 a, .string s] w fun e w' => e = .returned (.int .i64 e0) ∧ w = w' := by
 have HF := Hd hfile
 clear hfile
 rcases he with rfl | rfl | rfl
 all_goals
  go_enter Tryz.func103, Tryz.ntmps103
  go_wp2_with fail
  refine HF.out.mono ?_
  rintro e w' ⟨rfl, rfl⟩
  go_wp2
  go_ret
  exact ⟨rfl, rfl⟩
theorem put_any {w : World} {t : Nat} {S : Tab} {T : IT.Tr} (h : Tre w t S T) (ki a : Int) (s : ByteArray) :
  Calls Tryz.prog 103 #[.pointer (some ⟨t, 0, none⟩), .int .i64 ki, .int .i64 a, .string s] w fun e w' => ∃ r, e = .returned (.int .i64 r) ∧ Stp w t S (fun T' => IT.isPut T ki.toNat a (bs s) r T') w' := by
 cases hk : S ki.toNat with
 | none =>
   have hfile := file_none h.rep ki hk
   refine (put_no ki a s 3 (.inr (.inl rfl)) hfile).mono ?_
   rintro e w' ⟨rfl, rfl⟩
   exact ⟨_, rfl, Stp.keep h (by unfold IT.isPut; rw [(h.none_iff _).1 hk]; exact ⟨rfl, rfl⟩)⟩
 | some q =>
   obtain ⟨b, n⟩ := q
   obtain ⟨m, hT, hkp⟩ := h.get hk
   have hkd : n.kind = m.kind := hkp.kind
   have hda : bs n.data = m.data := hkp.data
   have hsz : n.data.size = m.data.length := by rw [← hda, bs_len]
   have hss := bs_len s
   by_cases h1 : m.kind = 1
   · have hfile := file_dir h.rep ki hk (hkd.trans h1)
     refine (put_no ki a s 7 (.inr (.inr rfl)) hfile).mono ?_
     rintro e w' ⟨rfl, rfl⟩
     exact ⟨_, rfl, Stp.keep h (by unfold IT.isPut; rw [hT]; dsimp only; rw [if_pos h1]; exact ⟨rfl, rfl⟩)⟩
   · by_cases h2 : m.kind = 2
     · have hfile := file_tty h.rep ki hk (hkd.trans h2)
       refine (put_no ki a s 1 (.inl rfl) hfile).mono ?_
       rintro e w' ⟨rfl, rfl⟩
       exact ⟨_, rfl, Stp.keep h (by unfold IT.isPut; rw [hT]; dsimp only; rw [if_neg h1, if_pos h2]; exact ⟨rfl, rfl⟩)⟩
     · have hkd2 : ¬ n.kind = 1 ∧ ¬ n.kind = 2 := by rw [hkd]; exact ⟨h1, h2⟩
       by_cases h3 : a < 0 ∨ (n.data.size : Int) < a
       · refine (put_bad h.rep ki hk hkd2 a s h3).mono ?_
         rintro e w' ⟨rfl, rfl⟩
         refine ⟨_, rfl, Stp.keep h (by
          unfold IT.isPut; rw [hT]; dsimp only; rw [if_neg h1, if_neg h2, if_pos]
          · exact ⟨rfl, rfl⟩
          · rcases h3 with h3 | h3
            · exact .inl h3
            · exact .inr (by rw [hsz] at h3; exact h3))⟩
       · have h4 : 0 ≤ a := by omega
         obtain ⟨an, rfl⟩ := Int.eq_ofNat_of_zero_le h4
         have h5 : an ≤ n.data.size := by omega
         have n3 : ¬ ((an : Int) < 0 ∨ (an : Int) > (m.data.length : Int)) := by omega
         by_cases h6 : s.size + an ≤ 4096
         · refine (put_file h.rep ki hk hkd2 an s h5 h6).mono ?_
           rintro e w' ⟨rfl, hmv⟩
           refine ⟨0, rfl, _, IT.upd T ki.toNat (some { m with data := m.data.take an ++ bs s ++ m.data.drop (an + (bs s).length) }), hmv, ?_, ?_⟩
           · rw [kpOf_upd]
             exact h.ties.same hT (h.rep.rng _ _ hk).2 rfl (kept_data hkp _ _ (by rw [putAt_bs, hda]))
           · unfold IT.isPut; rw [hT]; dsimp only; rw [if_neg h1, if_neg h2, if_neg n3, if_neg (by omega)]
             exact ⟨rfl, rfl⟩
         · refine (put_full h.rep ki hk hkd2 an s h5 (by omega)).mono ?_
           rintro e w' ⟨rfl, rfl⟩
           refine ⟨_, rfl, Stp.keep h (by
            unfold IT.isPut; rw [hT]; dsimp only; rw [if_neg h1, if_neg h2, if_neg n3, if_pos (by omega)]
            exact ⟨rfl, rfl⟩)⟩
theorem entry_none {w : World} {t b k : Nat} {S : Tab} {n : Nd} (h : Rep w t S) (hk : S k = some (b, n)) (hkd : n.kind = 1) (s : ByteArray) (hs : look n.names s = none) :
  Calls Tryz.prog 80 #[.pointer (some ⟨t, 0, none⟩), .pointer (some ⟨b, 0, none⟩), .string s] w fun e w' => e = .returned (.pointer none) ∧ w = w' := by
 obtain ⟨m, hm⟩ := h.dir_mp hk hkd
 have c10 : w.cell? ⟨b, 10, none⟩ = some (.map (some m)) := by rw [h.c10 hk, hm]
 have hl := run_lookup_none Tryz.underlying81 Tryz.underlying9 (h.map k b n m hk hm) s hs (by kernel_rfl)
 clear h hk hkd hs hm
 go_enter Tryz.func80, Tryz.ntmps80
 go_wp2
 go_ret
 exact ⟨rfl, rfl⟩
theorem entry_some {w : World} {t b k c : Nat} {S : Tab} {n m' : Nd} (h : Rep w t S) (hk : S k = some (b, n)) (hkd : n.kind = 1) (s : ByteArray) (x : Nat) (hs : look n.names s = some x) (hx : S x = some (c, m')) :
  Calls Tryz.prog 80 #[.pointer (some ⟨t, 0, none⟩), .pointer (some ⟨b, 0, none⟩), .string s] w fun e w' => e = .returned (.pointer (some ⟨c, 0, none⟩)) ∧ w = w' := by
 obtain ⟨m, hm⟩ := h.dir_mp hk hkd
 have c10 : w.cell? ⟨b, 10, none⟩ = some (.map (some m)) := by rw [h.c10 hk, hm]
 have hl := run_lookup_some Tryz.underlying81 Tryz.underlying9 (h.map k b n m hk hm) s x hs
 have hr := h.rng _ _ hx
 have hx1 : 1 ≤ (x : Int) := by omega
 have hx2 : (x : Int) ≤ 200 := by omega
 have ct : w.cell? ⟨t, x, none⟩ = some (.pointer (some ⟨c, 0, none⟩)) := by rw [h.cellT _ (by omega), hx]; rfl
 clear h hk hkd hs hm hx hr
 go_enter Tryz.func80, Tryz.ntmps80
 go_wp2
 go_ret
 exact ⟨rfl, rfl⟩
theorem pair_ok {w : World} {t b c : Nat} {S : Tab} {n m : Nd} (h : Rep w t S) (x y : Int) (hx : S x.toNat = some (b, n)) (hy : S y.toNat = some (c, m)) :
  Calls Tryz.prog 84 #[.pointer (some ⟨t, 0, none⟩), .int .i64 x, .int .i64 y] w fun e w' => e = .returned (.tuple #[.pointer (some ⟨b, 0, none⟩), .pointer (some ⟨c, 0, none⟩), .int .i64 0]) ∧ w = w' := by
 have H := Hd h
 have HX := Hd hx
 have HY := Hd hy
 clear h hx hy
 go_enter Tryz.func84, Tryz.ntmps84
 go_wp2_with fail
 refine (H.out.at_some _ HX.out).mono ?_
 rintro e w' ⟨rfl, rfl⟩
 go_wp2_with fail
 refine (H.out.at_some _ HY.out).mono ?_
 rintro e w' ⟨rfl, rfl⟩
 go_wp2
 go_ret3
 exact ⟨rfl, rfl⟩
theorem pair_none {w : World} {t : Nat} {S : Tab} (h : Rep w t S) (x y : Int) (hn : S x.toNat = none ∨ S y.toNat = none) :
  Calls Tryz.prog 84 #[.pointer (some ⟨t, 0, none⟩), .int .i64 x, .int .i64 y] w fun e w' => e = .returned (.tuple #[.pointer none, .pointer none, .int .i64 3]) ∧ w = w' := by
 have H := Hd h
 clear h
 cases hx : S x.toNat with
 | none =>
   have HX := Hd hx
   clear hx hn
   cases hy : S y.toNat with
   | none =>
     have HY := Hd hy
     clear hy
     go_enter Tryz.func84, Tryz.ntmps84
     go_wp2_with fail
     refine (H.out.at_none _ HX.out).mono ?_
     rintro e w' ⟨rfl, rfl⟩
     go_wp2_with fail
     refine (H.out.at_none _ HY.out).mono ?_
     rintro e w' ⟨rfl, rfl⟩
     go_wp2
     go_ret3
     exact ⟨rfl, rfl⟩
   | some q =>
     obtain ⟨c, m⟩ := q
     have HY := Hd hy
     clear hy
     go_enter Tryz.func84, Tryz.ntmps84
     go_wp2_with fail
     refine (H.out.at_none _ HX.out).mono ?_
     rintro e w' ⟨rfl, rfl⟩
     go_wp2_with fail
     refine (H.out.at_some _ HY.out).mono ?_
     rintro e w' ⟨rfl, rfl⟩
     go_wp2
     go_ret3
     exact ⟨rfl, rfl⟩
 | some q =>
   obtain ⟨b, n⟩ := q
   have hy : S y.toNat = none := by rcases hn with h | h; rw [hx] at h; cases h; exact h
   have HX := Hd hx
   have HY := Hd hy
   clear hx hy hn
   go_enter Tryz.func84, Tryz.ntmps84
   go_wp2_with fail
   refine (H.out.at_some _ HX.out).mono ?_
   rintro e w' ⟨rfl, rfl⟩
   go_wp2_with fail
   refine (H.out.at_none _ HY.out).mono ?_
   rintro e w' ⟨rfl, rfl⟩
   go_wp2
   go_ret3
   exact ⟨rfl, rfl⟩
end Go.Proofs.YtafonmnfeibaiaaGreat
namespace Go.Proofs.YtafonmnfeibaiaaGreat.Md
open Go.RowKit
abbrev Bytes := List UInt8
abbrev big : Nat := 9223372036854775808
theorem and_nat {a b : Nat} (ha : a < big) (hb : b < big) : bits .and .i64 (a : Int) (b : Int) = ((a &&& b : Nat) : Int) :=
 (bits_nat .i64 63 (by decide) (fun n h0 h1 => by rw [IntKind.wrap_i64]; omega) a b (by simpa using ha) (by simpa using hb)).1
theorem andNot_nat {a b : Nat} (ha : a < big) (hb : b < big) : bits .andNot .i64 (a : Int) (b : Int) = ((a &&& (18446744073709551615 - b) : Nat) : Int) := by
 have h1 : (BitVec.ofInt 64 (a : Int)).toNat = a := by rw [BitVec.ofInt_natCast, BitVec.toNat_ofNat]; exact Nat.mod_eq_of_lt (by unfold big at ha; omega)
 have h2 : (BitVec.ofInt 64 (b : Int)).toNat = b := by rw [BitVec.ofInt_natCast, BitVec.toNat_ofNat]; exact Nat.mod_eq_of_lt (by unfold big at hb; omega)
 have h3 : (BitVec.ofInt 64 (a : Int) &&& ~~~(BitVec.ofInt 64 (b : Int))).toNat = a &&& (18446744073709551615 - b) := by
  rw [BitVec.toNat_and, BitVec.toNat_not, h1, h2]
 have h4 : a &&& (18446744073709551615 - b) ≤ a := Nat.and_le_left
 show IntKind.i64.wrap ((BitVec.ofInt 64 (a : Int) &&& ~~~(BitVec.ofInt 64 (b : Int))).toNat : Int) = _
 rw [h3, IntKind.wrap_i64]
 unfold big at ha
 omega
theorem andNot_zero {a b : Nat} (ha : a < big) (hb : b < big) : a &&& (18446744073709551615 - b) = 0 ↔ a &&& b = a := by
 have hbit : ∀ i, (18446744073709551615 - b).testBit i = (decide (i < 64) && !b.testBit i) := fun i => by
  have := Nat.testBit_two_pow_sub_succ (x := b) (n := 64) (by unfold big at hb; omega) i
  rw [← this]
  congr 1
  omega
 have hai : ∀ i, 64 ≤ i → a.testBit i = false := fun i hi => Nat.testBit_lt_two_pow (Nat.lt_of_lt_of_le (show a < 2 ^ 64 by unfold big at ha; omega) (Nat.pow_le_pow_right (by decide) hi))
 constructor
 · intro h
   apply Nat.eq_of_testBit_eq
   intro i
   have hi := congrArg (fun x => x.testBit i) h
   simp only [Nat.testBit_and, hbit, Nat.zero_testBit] at hi
   rw [Nat.testBit_and]
   by_cases h64 : i < 64
   · simp only [h64, decide_true, Bool.true_and] at hi
     cases h1 : a.testBit i <;> cases h2 : b.testBit i <;> simp_all
   · rw [hai i (by omega)]; rfl
 · intro h
   apply Nat.eq_of_testBit_eq
   intro i
   have hi := congrArg (fun x => x.testBit i) h
   simp only [Nat.testBit_and] at hi
   rw [Nat.testBit_and, hbit, Nat.zero_testBit]
   cases h1 : a.testBit i <;> cases h2 : b.testBit i <;> simp_all
def rightB (m : Int) : Bool := bits .and .i64 m 3071 == m
theorem right_nat {m : Int} (h : rightB m = true) : ∃ n : Nat, m = n ∧ n ≤ 3071 := by
 unfold rightB at h
 rw [beq_iff_eq] at h
 have h2 : (BitVec.ofInt 64 (3071 : Int)).toNat = 3071 := by decide
 have hle : (BitVec.ofInt 64 m &&& BitVec.ofInt 64 (3071 : Int)).toNat ≤ 3071 := by
  rw [BitVec.toNat_and, h2]; exact Nat.and_le_right
 have h3 : bits .and .i64 m 3071 = IntKind.i64.wrap ((BitVec.ofInt 64 m &&& BitVec.ofInt 64 (3071 : Int)).toNat : Int) := rfl
 rw [h3, IntKind.wrap_i64] at h
 exact ⟨(BitVec.ofInt 64 m &&& BitVec.ofInt 64 (3071 : Int)).toNat, by omega, hle⟩
theorem right_iff {n : Nat} (h : n < big) : rightB (n : Int) = true ↔ n &&& 3071 = n := by
 unfold rightB
 have := and_nat (b := 3071) h (by decide)
 rw [show ((3071 : Nat) : Int) = 3071 from rfl] at this
 rw [this, beq_iff_eq]
 omega
theorem right_any (m : Int) (w : World) : Calls Tryz.prog 36 #[.int .i64 m] w fun e w' => e = .returned (.bool (rightB m)) ∧ w' = w := by
 go_enter Tryz.func36, Tryz.ntmps36
 go_wp2
 go_ret
 exact ⟨rfl, rfl⟩
def yS (m : Nat) (owner group uid gid : Int) : Nat := if uid = owner then m / 64 else if gid = group then m / 8 else m
def mayS (m owner group : Int) (dir : Bool) (uid gid want : Int) : Bool :=
 if rightB m = false ∨ want < 1 ∨ 7 < want then false
 else if uid = 0 then dir || ((want.toNat &&& 1) == 0) || !((m.toNat &&& 73) == 0)
 else (want.toNat &&& yS m.toNat owner group uid gid) == want.toNat
theorem cast_beq (a b : Nat) : ((a : Int) == (b : Int)) = (a == b) := by
 rw [Bool.eq_iff_iff, beq_iff_eq, beq_iff_eq]; omega
theorem zero_beq (a : Nat) : ((a : Int) == 0) = (a == 0) := cast_beq a 0
theorem may_any (m owner group : Int) (dir : Bool) (uid gid want : Int) (w : World) :
  Calls Tryz.prog 35 #[.int .i64 m, .int .i64 owner, .int .i64 group, .bool dir, .int .i64 uid, .int .i64 gid, .int .i64 want] w fun e w' => e = .returned (.bool (mayS m owner group dir uid gid want)) ∧ w' = w := by
 unfold mayS
 by_cases hr : rightB m = true
 · by_cases h1 : want < 1
   · rw [if_pos (.inr (.inl h1))]
     go_enter Tryz.func35, Tryz.ntmps35
     go_wp2_with fail
     refine (right_any _ _).mono ?_
     rintro e w' ⟨he, rfl⟩
     rw [hr] at he
     subst he
     clear hr
     go_wp2
     go_ret
     exact ⟨rfl, rfl⟩
   · by_cases h7 : 7 < want
     · rw [if_pos (.inr (.inr h7))]
       go_enter Tryz.func35, Tryz.ntmps35
       go_wp2_with fail
       refine (right_any _ _).mono ?_
       rintro e w' ⟨he, rfl⟩
       rw [hr] at he
       subst he
       clear hr
       go_wp2
       go_ret
       exact ⟨rfl, rfl⟩
     · rw [if_neg (by rw [hr]; simp; omega)]
       obtain ⟨n, rfl, hn⟩ := right_nat hr
       obtain ⟨v, rfl⟩ : ∃ v : Nat, want = v := ⟨want.toNat, by omega⟩
       have a1 : bits .and .i64 (v : Int) 1 = ((v &&& 1 : Nat) : Int) := and_nat (b := 1) (by unfold big; omega) (by decide)
       have a2 : bits .and .i64 (n : Int) 73 = ((n &&& 73 : Nat) : Int) := and_nat (b := 73) (by unfold big; omega) (by decide)
       have a3 : ∀ y : Nat, y < big → (bits .andNot .i64 (v : Int) (y : Int) == 0) = ((v &&& y) == v) := fun y hy => by
        rw [andNot_nat (by unfold big; omega) hy, zero_beq, Bool.eq_iff_iff, beq_iff_eq, beq_iff_eq]
        exact andNot_zero (by unfold big; omega) hy
       rw [Int.toNat_natCast, Int.toNat_natCast]
       by_cases hu : uid = 0
       · rw [if_pos hu]
         subst hu
         have z1 := zero_beq (v &&& 1)
         have z2 := zero_beq (n &&& 73)
         rw [← z1, ← z2]
         clear a3 hn z1 z2
         generalize ((v &&& 1 : Nat) : Int) = x1 at *
         generalize ((n &&& 73 : Nat) : Int) = x2 at *
         go_enter Tryz.func35, Tryz.ntmps35
         go_wp2_with fail
         refine (right_any _ _).mono ?_
         rintro e w' ⟨he, rfl⟩
         rw [hr] at he
         subst he
         clear hr
         go_wp2
         all_goals go_ret
         all_goals refine ⟨?_, rfl⟩
         all_goals simp [*, bne]
       · rw [if_neg hu]
         have b0 : (bits .andNot .i64 (v : Int) (n : Int) == 0) = ((v &&& n) == v) := a3 n (by unfold big; omega)
         have b1 : (bits .andNot .i64 (v : Int) ((n : Int) / 64) == 0) = ((v &&& (n / 64)) == v) := by
          rw [show (n : Int) / 64 = ((n / 64 : Nat) : Int) by omega]; exact a3 _ (by unfold big; omega)
         have b2 : (bits .andNot .i64 (v : Int) ((n : Int) / 8) == 0) = ((v &&& (n / 8)) == v) := by
          rw [show (n : Int) / 8 = ((n / 8 : Nat) : Int) by omega]; exact a3 _ (by unfold big; omega)
         unfold yS
         by_cases ho : uid = owner
         · rw [if_pos ho, ← b1]
           clear a1 a2 a3 b0 b1 b2 hn
           subst ho
           go_enter Tryz.func35, Tryz.ntmps35
           go_wp2_with fail
           refine (right_any _ _).mono ?_
           rintro e w' ⟨he, rfl⟩
           rw [hr] at he
           subst he
           clear hr
           go_wp2
           go_ret
           exact ⟨rfl, rfl⟩
         · rw [if_neg ho]
           by_cases hg : gid = group
           · rw [if_pos hg, ← b2]
             clear a1 a2 a3 b0 b1 b2 hn
             subst hg
             go_enter Tryz.func35, Tryz.ntmps35
             go_wp2_with fail
             refine (right_any _ _).mono ?_
             rintro e w' ⟨he, rfl⟩
             rw [hr] at he
             subst he
             clear hr
             go_wp2
             go_ret
             exact ⟨rfl, rfl⟩
           · rw [if_neg hg, ← b0]
             clear a1 a2 a3 b0 b1 b2 hn
             go_enter Tryz.func35, Tryz.ntmps35
             go_wp2_with fail
             refine (right_any _ _).mono ?_
             rintro e w' ⟨he, rfl⟩
             rw [hr] at he
             subst he
             clear hr
             go_wp2
             go_ret
             exact ⟨rfl, rfl⟩
 · have hr2 : rightB m = false := by simpa using hr
   rw [if_pos (.inl hr2)]
   go_enter Tryz.func35, Tryz.ntmps35
   go_wp2_with fail
   refine (right_any _ _).mono ?_
   rintro e w' ⟨he, rfl⟩
   rw [hr2] at he
   subst he
   clear hr hr2
   go_wp2
   go_ret
   exact ⟨rfl, rfl⟩
theorem rright_any (m : Int) (hm : m < 9223372036854775808) (w : World) : Calls Tryz.prog 55 #[.int .i64 m] w fun e w' => e = .returned (.bool (rightB m)) ∧ w' = w := by
 by_cases h0 : 0 ≤ m
 · obtain ⟨n, rfl⟩ : ∃ n : Nat, m = n := ⟨m.toNat, by omega⟩
   have hn : n < big := by unfold big; omega
   have hk : bits .andNot .i64 (n : Int) 3071 = ((n &&& (18446744073709551615 - 3071) : Nat) : Int) := andNot_nat (b := 3071) hn (by decide)
   have hr : rightB (n : Int) = (((n &&& (18446744073709551615 - 3071) : Nat) : Int) == 0) := by
    rw [Bool.eq_iff_iff, right_iff hn, beq_iff_eq, ← andNot_zero (b := 3071) hn (by decide)]
    omega
   rw [hr]
   clear hr
   generalize ((n &&& (18446744073709551615 - 3071) : Nat) : Int) = k at *
   go_enter Tryz.func55, Tryz.ntmps55
   go_wp2
   go_ret
   exact ⟨rfl, rfl⟩
 · have hr : rightB m = false := by
    cases hh : rightB m with
    | false => rfl
    | true => obtain ⟨n, rfl, _⟩ := right_nat hh; omega
   rw [hr]
   have h1 : m < 0 := by omega
   clear hr h0
   go_enter Tryz.func55, Tryz.ntmps55
   go_wp2
   go_ret
   exact ⟨rfl, rfl⟩
end Go.Proofs.YtafonmnfeibaiaaGreat.Md
namespace Go.Proofs.YtafonmnfeibaiaaGreat.RF
open Go.RowKit
theorem Tie.set {G : Gt} {T : IT.Tr} (h : Tie G T) (k : Nat) {n : RN} {m : IT.Nd} (hk : Kept n m) : Tie (updG G k n) (IT.upd T k (some m)) where
 nok := fun j hj hn => by
  unfold IT.upd at hn
  by_cases e : j = k
  · rw [if_pos e] at hn; cases hn
  · rw [if_neg e] at hn; rw [updG_other _ _ e]; exact h.nok j hj hn
 sok := fun j q hq => by
  unfold IT.upd at hq
  by_cases e : j = k
  · subst e
    rw [if_pos rfl] at hq
    obtain rfl := oI hq
    rw [updG_same]; exact hk
  · rw [if_neg e] at hq; rw [updG_other _ _ e]; exact h.sok j q hq
theorem upd_one (G : Gt) (k : Nat) (a b : RN) : updG (updG G k a) k b = updG G k b := by
 funext j
 unfold updG
 by_cases e : j = k
 · rw [if_pos e, if_pos e]
 · rw [if_neg e, if_neg e, if_neg e]
theorem rf_hold {w : World} {t B : Nat} {G : Gt} {T : IT.Tr} (h : Trf w t B G T) (hb : HB T 1000000) (ki : Int) :
  Calls Tryz.prog 95 #[.pointer (some ⟨t, 0, none⟩), .int .i64 ki] w fun e w' => ∃ r, e = .returned (.bool r) ∧ Stf w t B (fun T' => IT.isHold T ki.toNat r T') w' := by
 cases hm : T ki.toNat with
 | none =>
   have HI := Hd (rf_is_no h ki hm)
   have HP : Hid (Stf w t B (fun T' => IT.isHold T ki.toNat false T') w) := Hd (Stf.keep h (Below.refl _ _) (by unfold IT.isHold; rw [hm]; exact ⟨rfl, rfl⟩))
   clear h hm
   go_enter Tryz.func95, Tryz.ntmps95
   go_wp2_with fail
   refine HI.out.mono ?_
   rintro e w' ⟨rfl, rfl⟩
   go_wp2
   go_ret
   exact ⟨false, rfl, HP.out⟩
 | some m =>
   have HI := Hd (rY h ki hm)
   obtain ⟨k, rfl, hk1, hk2, hk⟩ := h.nat hm
   have c0 := h.rep.cellT
   have hkp := h.ties.sok k m hk
   have b6 := h.rep.c6 k hk2
   rw [hkp.holds] at b6
   have s6 := h.rep.frozen (k * 10 + 6)
   have hle : (m.holds : Int) ≤ 1000000 := by have := hb k m hk; omega
   have HP : Hid (Stf w t B (fun T' => IT.isHold T (k : Int).toNat true T') (w.setCell ⟨B, k * 10 + 6, none⟩ (.int .i64 ((m.holds : Int) + 1)))) := Hd (by
    have hkp' : Kept { G k with holds := (m.holds : Int) + 1 } { m with holds := m.holds + 1 } := ⟨hkp.is, hkp.kind, hkp.mode, hkp.owner, hkp.group, hkp.tty, rfl, hkp.parent, hkp.data, hkp.names⟩
    exact ⟨_, _, (Mo.refl _ _).set _, h.rep.set hk2 (show 6 < 10 by omega) _ { G k with holds := (m.holds : Int) + 1 } rfl (h.rep.ents k hk2), h.ties.set k hkp', by unfold IT.isHold; rw [hm]; exact ⟨rfl, rfl⟩⟩)
   clear h hm hk hkp
   go_enter Tryz.func95, Tryz.ntmps95
   go_wp2_with fail
   refine HI.out.mono ?_
   rintro e w' ⟨rfl, rfl⟩
   go_wp2
   go_ret
   exact ⟨true, rfl, HP.out⟩
theorem Stf.pre {w w1 w' : World} {t B : Nat} {R : IT.Tr → Prop} (g : Mo B w w1) (s : Stf w1 t B R w') : Stf w t B R w' := by
 obtain ⟨G', T', h1, h2, h3, h4⟩ := s
 exact ⟨G', T', g.trans h1, h2, h3, h4⟩
theorem Stf.imp {w w' : World} {t B : Nat} {R R' : IT.Tr → Prop} (s : Stf w t B R w') (f : ∀ T', R T' → R' T') : Stf w t B R' w' := by
 obtain ⟨G', T', h1, h2, h3, h4⟩ := s
 exact ⟨G', T', h1, h2, h3, f T' h4⟩
theorem rf_drop {w : World} {t B : Nat} {G : Gt} {T : IT.Tr} (h : Trf w t B G T) (hb : HB T 1000000) (ki : Int) :
  Calls Tryz.prog 68 #[.pointer (some ⟨t, 0, none⟩), .int .i64 ki] w fun e w' => ∃ r, e = .returned (.bool r) ∧ Stf w t B (fun T' => IT.isDrop T ki.toNat r T') w' := by
 cases hm : T ki.toNat with
 | none =>
   have HI := Hd (rf_is_no h ki hm)
   have HP : Hid (Stf w t B (fun T' => IT.isDrop T ki.toNat false T') w) := Hd (Stf.keep h (Below.refl _ _) (by unfold IT.isDrop; rw [hm]; exact ⟨rfl, rfl⟩))
   clear h hm
   go_enter Tryz.func68, Tryz.ntmps68
   go_wp2_with fail
   refine HI.out.mono ?_
   rintro e w' ⟨rfl, rfl⟩
   go_wp2
   go_ret
   exact ⟨false, rfl, HP.out⟩
 | some m =>
   have HI := Hd (rY h ki hm)
   obtain ⟨k, rfl, hk1, hk2, hk⟩ := h.nat hm
   have c0 := h.rep.cellT
   have hkp := h.ties.sok k m hk
   have b6 := h.rep.c6 k hk2
   rw [hkp.holds] at b6
   have s6 := h.rep.frozen (k * 10 + 6)
   by_cases hz : m.holds = 0
   · have HP : Hid (Stf w t B (fun T' => IT.isDrop T (k : Int).toNat false T') w) := Hd (Stf.keep h (Below.refl _ _) (by unfold IT.isDrop; rw [hm]; dsimp only; rw [if_pos hz]; exact ⟨rfl, rfl⟩))
     rw [hz] at b6
     clear h hm hk hkp hz
     go_enter Tryz.func68, Tryz.ntmps68
     go_wp2_with fail
     refine HI.out.mono ?_
     rintro e w' ⟨rfl, rfl⟩
     go_wp2
     go_ret
     exact ⟨false, rfl, HP.out⟩
   · have hz1 : ((m.holds : Int) == 0) = false := by simpa using hz
     have hle : (m.holds : Int) ≤ 1000000 := by have := hb k m hk; omega
     have hge : (1 : Int) ≤ m.holds := by omega
     have hkp' : Kept { G k with holds := (m.holds : Int) - 1 } { m with holds := m.holds - 1 } := ⟨hkp.is, hkp.kind, hkp.mode, hkp.owner, hkp.group, hkp.tty, (by show (m.holds : Int) - 1 = ((m.holds - 1 : Nat) : Int); omega), hkp.parent, hkp.data, hkp.names⟩
     have HRF := Hd (h.rep.set hk2 (show 6 < 10 by omega) (.int .i64 ((m.holds : Int) - 1)) { G k with holds := (m.holds : Int) - 1 } rfl (h.rep.ents k hk2))
     have HTI := Hd (h.ties.set k hkp')
     have HSN := Hd (h.snd.1.same hk (n' := { m with holds := m.holds - 1 }) rfl rfl rfl (h.snd.1.size k m hk))
     have HM := Hd hm
     have HNZ := Hd hz
     have HMO := Hd ((Mo.refl B w).set (i := k * 10 + 6) (.int .i64 ((m.holds : Int) - 1)))
     clear h hm hk hkp hz hkp'
     generalize hmh : (m.holds : Int) = mh at *
     have HMH := Hd hmh
     clear hmh
     go_enter Tryz.func68, Tryz.ntmps68
     go_wp2_with fail
     refine HI.out.mono ?_
     rintro e w' ⟨rfl, rfl⟩
     go_wp2_with fail
     refine (rf_gone HRF.out HTI.out HSN.out).mono ?_
     rintro e w' ⟨rfl, hs⟩
     have HS := Hd (Stf.pre HMO.out hs)
     clear hs
     go_wp2
     go_ret
     refine ⟨true, rfl, HS.out.imp fun T' hT' => ?_⟩
     unfold IT.isDrop
     rw [HM.out]
     dsimp only
     rw [if_neg HNZ.out]
     exact ⟨rfl, hT'⟩
def idB (n : Int) : Bool := decide (0 ≤ n ∧ n ≤ 65535)
theorem rf_id (n : Int) (w : World) : Calls Tryz.prog 56 #[.int .i64 n] w fun e w' => e = .returned (.bool (idB n)) ∧ w = w' := by
 go_enter Tryz.func56, Tryz.ntmps56
 go_wp2
 all_goals go_ret
 all_goals exact ⟨ret_bool (by rw [Bool.eq_iff_iff]; simp [idB, *]; try omega), rfl⟩
theorem right_ids (m o g : Int) : rightB m o g = (Md.rightB m && (idB o && idB g)) := by
 unfold rightB Md.rightB idB
 congr 1
 rw [← Bool.decide_and]
 exact decide_eq_decide.2 ⟨fun ⟨a, b, c, d⟩ => ⟨⟨a, c⟩, b, d⟩, fun ⟨⟨a, c⟩, b, d⟩ => ⟨a, b, c, d⟩⟩
theorem rf_set_no {w : World} {t B : Nat} {G : Gt} {T : IT.Tr} (h : Trf w t B G T) (ki mo o g : Int) (hm : T ki.toNat = none) :
  Calls Tryz.prog 102 #[.pointer (some ⟨t, 0, none⟩), .int .i64 ki, .int .i64 mo, .int .i64 o, .int .i64 g] w fun e w' => e = .returned (.int .i64 3) ∧ w = w' := by
 have HI := Hd (rf_is_no h ki hm)
 clear h hm
 go_enter Tryz.func102, Tryz.ntmps102
 go_wp2_with fail
 refine HI.out.mono ?_
 rintro e w' ⟨rfl, rfl⟩
 go_wp2
 go_ret
 exact ⟨rfl, rfl⟩
theorem rf_set_bad {w : World} {t B : Nat} {G : Gt} {T : IT.Tr} (h : Trf w t B G T) (ki mo o g : Int) (hmo : mo < 9223372036854775808) {m : IT.Nd} (hm : T ki.toNat = some m) (hr : rightB mo o g = false) :
  Calls Tryz.prog 102 #[.pointer (some ⟨t, 0, none⟩), .int .i64 ki, .int .i64 mo, .int .i64 o, .int .i64 g] w fun e w' => e = .returned (.int .i64 1) ∧ w = w' := by
 have HI := Hd (rY h ki hm)
 have HR := Hd (Md.rright_any mo hmo w)
 have HO := Hd (rf_id o w)
 have HG := Hd (rf_id g w)
 rw [right_ids] at hr
 clear h hm hmo
 cases h1 : Md.rightB mo with
 | false =>
   rw [h1] at HR
   clear hr h1
   go_enter Tryz.func102, Tryz.ntmps102
   go_wp2_with fail
   refine HI.out.mono ?_
   rintro e w' ⟨rfl, rfl⟩
   go_wp2_with fail
   refine HR.out.mono ?_
   rintro e w' ⟨rfl, rfl⟩
   go_wp2
   go_ret
   exact ⟨rfl, rfl⟩
 | true =>
   rw [h1] at HR hr
   cases h2 : idB o with
   | false =>
     rw [h2] at HO
     clear hr h1 h2
     go_enter Tryz.func102, Tryz.ntmps102
     go_wp2_with fail
     refine HI.out.mono ?_
     rintro e w' ⟨rfl, rfl⟩
     go_wp2_with fail
     refine HR.out.mono ?_
     rintro e w' ⟨rfl, rfl⟩
     go_wp2_with fail
     refine HO.out.mono ?_
     rintro e w' ⟨rfl, rfl⟩
     go_wp2
     go_ret
     exact ⟨rfl, rfl⟩
   | true =>
     have h3 : idB g = false := by rw [h2] at hr; simpa using hr
     rw [h2] at HO
     rw [h3] at HG
     clear hr h1 h2 h3
     go_enter Tryz.func102, Tryz.ntmps102
     go_wp2_with fail
     refine HI.out.mono ?_
     rintro e w' ⟨rfl, rfl⟩
     go_wp2_with fail
     refine HR.out.mono ?_
     rintro e w' ⟨rfl, rfl⟩
     go_wp2_with fail
     refine HO.out.mono ?_
     rintro e w' ⟨rfl, rfl⟩
     go_wp2_with fail
     refine HG.out.mono ?_
     rintro e w' ⟨rfl, rfl⟩
     go_wp2
     go_ret
     exact ⟨rfl, rfl⟩
theorem right_parts {m o g : Int} (h : rightB m o g = true) : Md.rightB m = true ∧ idB o = true ∧ idB g = true := by
 rw [right_ids] at h
 simpa using h
theorem Rf.set3 {w : World} {t B : Nat} {G : Gt} (h : Rf w t B G) {k : Nat} (hk : k ≤ 200) (mo o g : Int) : Rf (((w.setCell ⟨B, k * 10 + 2, none⟩ (.int .i64 mo)).setCell ⟨B, k * 10 + 3, none⟩ (.int .i64 o)).setCell ⟨B, k * 10 + 4, none⟩ (.int .i64 g)) t B (updG G k { G k with mode := mo, owner := o, group := g }) := by
 have h1 := h.set hk (show 2 < 10 by omega) (.int .i64 mo) { G k with mode := mo } rfl (h.ents k hk)
 have h2 := h1.set hk (show 3 < 10 by omega) (.int .i64 o) { G k with mode := mo, owner := o } (by rw [updG_same]; rfl) (by have := h1.ents k hk; rw [updG_same] at this; exact this)
 have h3 := h2.set hk (show 4 < 10 by omega) (.int .i64 g) { G k with mode := mo, owner := o, group := g } (by rw [updG_same]; rfl) (by have := h2.ents k hk; rw [updG_same] at this; exact this)
 rw [upd_one, upd_one] at h3
 exact h3
theorem rf_set {w : World} {t B : Nat} {G : Gt} {T : IT.Tr} (h : Trf w t B G T) (ki mo o g : Int) (hmo : mo < 9223372036854775808) :
  Calls Tryz.prog 102 #[.pointer (some ⟨t, 0, none⟩), .int .i64 ki, .int .i64 mo, .int .i64 o, .int .i64 g] w fun e w' => ∃ r, e = .returned (.int .i64 r) ∧ Stf w t B (fun T' => IT.isSet rt T ki.toNat mo o g r T') w' := by
 cases hm : T ki.toNat with
 | none =>
   refine (rf_set_no h ki mo o g hm).mono ?_
   rintro e w' ⟨rfl, rfl⟩
   exact ⟨3, rfl, Stf.keep h (Below.refl _ _) (by unfold IT.isSet; rw [hm]; exact ⟨rfl, rfl⟩)⟩
 | some m =>
   cases hr : rightB mo o g with
   | false =>
     refine (rf_set_bad h ki mo o g hmo hm hr).mono ?_
     rintro e w' ⟨rfl, rfl⟩
     exact ⟨1, rfl, Stf.keep h (Below.refl _ _) (by unfold IT.isSet; rw [hm]; dsimp only; rw [if_pos (by unfold rt; rw [hr]; decide)]; exact ⟨rfl, rfl⟩)⟩
   | true =>
     obtain ⟨r1, r2, r3⟩ := right_parts hr
     have HI := Hd (rY h ki hm)
     have HR := Hd (Md.rright_any mo hmo w)
     have HO := Hd (rf_id o w)
     have HG := Hd (rf_id g w)
     rw [r1] at HR
     rw [r2] at HO
     rw [r3] at HG
     obtain ⟨k, rfl, hk1, hk2, hk⟩ := h.nat hm
     have c0 := h.rep.cellT
     have hkp := h.ties.sok k m hk
     have b2 := h.rep.c2 k hk2
     have b3 := h.rep.c3 k hk2
     have b4 := h.rep.c4 k hk2
     have s2 := h.rep.frozen (k * 10 + 2)
     have s3 := h.rep.frozen (k * 10 + 3)
     have s4 := h.rep.frozen (k * 10 + 4)
     have hne : t ≠ B := h.rep.ne
     have hkp' : Kept { G k with mode := mo, owner := o, group := g } { m with mode := mo, owner := o, group := g } := ⟨hkp.is, hkp.kind, rfl, rfl, rfl, hkp.tty, hkp.holds, hkp.parent, hkp.data, hkp.names⟩
     have HP : Hid (Stf w t B (fun T' => IT.isSet rt T (k : Int).toNat mo o g 0 T') _) := Hd ⟨_, _, (((Mo.refl _ _).set _).set _).set _, h.rep.set3 hk2 mo o g, h.ties.set k hkp', by
      unfold IT.isSet; rw [hm]; dsimp only; rw [if_neg (fun hh => hh hr)]; exact ⟨rfl, rfl⟩⟩
     clear h hm hk hkp hkp' hr r1 r2 r3 hmo
     go_enter Tryz.func102, Tryz.ntmps102
     go_wp2_with fail
     refine HI.out.mono ?_
     rintro e w' ⟨rfl, rfl⟩
     go_wp2_with fail
     refine HR.out.mono ?_
     rintro e w' ⟨rfl, rfl⟩
     go_wp2_with fail
     refine HO.out.mono ?_
     rintro e w' ⟨rfl, rfl⟩
     go_wp2_with fail
     refine HG.out.mono ?_
     rintro e w' ⟨rfl, rfl⟩
     go_wp2
     go_ret
     exact ⟨0, rfl, HP.out⟩
theorem fileE_bad {o : Option IT.Nd} (h : fileE o ≠ 0) : fileE o = 1 ∨ fileE o = 3 ∨ fileE o = 7 := by
 unfold fileE at h ⊢
 cases o with
 | none => exact .inr (.inl rfl)
 | some m =>
   dsimp only at h ⊢
   split
   · exact .inr (.inr rfl)
   · split
     · exact .inl rfl
     · rename_i h1 h2; rw [if_neg h1, if_neg h2] at h; exact absurd rfl h
theorem fileE_ok {o : Option IT.Nd} (h : fileE o = 0) : ∃ m, o = some m ∧ m.kind ≠ 1 ∧ m.kind ≠ 2 := by
 unfold fileE at h
 cases o with
 | none => cases h
 | some m =>
   dsimp only at h
   split at h
   · cases h
   · split at h
     · cases h
     · rename_i h1 h2; exact ⟨m, rfl, h1, h2⟩
theorem cut_stay {T : IT.Tr} {k : Nat} (h : fileE (T k) ≠ 0) : IT.isCut T k (fileE (T k)) T := by
 unfold IT.isCut fileE at *
 cases hk : T k with
 | none => exact ⟨rfl, rfl⟩
 | some m =>
   rw [hk] at h
   dsimp only at h ⊢
   split
   · exact ⟨rfl, rfl⟩
   · split
     · exact ⟨rfl, rfl⟩
     · rename_i h1 h2; rw [if_neg h1, if_neg h2] at h; exact absurd rfl h
theorem put_stay {T : IT.Tr} {k : Nat} (a : Int) (s : IT.Bytes) (h : fileE (T k) ≠ 0) : IT.isPut T k a s (fileE (T k)) T := by
 unfold IT.isPut fileE at *
 cases hk : T k with
 | none => exact ⟨rfl, rfl⟩
 | some m =>
   rw [hk] at h
   dsimp only at h ⊢
   split
   · exact ⟨rfl, rfl⟩
   · split
     · exact ⟨rfl, rfl⟩
     · rename_i h1 h2; rw [if_neg h1, if_neg h2] at h; exact absurd rfl h
theorem Kept.setData {n : RN} {m : IT.Nd} (h : Kept n m) (a : ByteArray) (b : IT.Bytes) (hab : bs a = b) : Kept { n with data := a } { m with data := b } := ⟨h.is, h.kind, h.mode, h.owner, h.group, h.tty, h.holds, h.parent, hab, h.names⟩
theorem rf_cut {w : World} {t B : Nat} {G : Gt} {T : IT.Tr} (h : Trf w t B G T) (ki : Int) :
  Calls Tryz.prog 96 #[.pointer (some ⟨t, 0, none⟩), .int .i64 ki] w fun e w' => ∃ r, e = .returned (.int .i64 r) ∧ Stf w t B (fun T' => IT.isCut T ki.toNat r T') w' := by
 have HF := Hd (rf_file h ki)
 by_cases hz : fileE (T ki.toNat) = 0
 · obtain ⟨m, hm, hm1, hm2⟩ := fileE_ok hz
   rw [hz] at HF
   obtain ⟨k, rfl, hk1, hk2, hk⟩ := h.nat hm
   have c0 := h.rep.cellT
   have hkp := h.ties.sok k m hk
   have b8 := h.rep.c8 k hk2
   have s8 := h.rep.frozen (k * 10 + 8)
   have HP : Hid (Stf w t B (fun T' => IT.isCut T (k : Int).toNat 0 T') (w.setCell ⟨B, k * 10 + 8, none⟩ (.string ⟨#[]⟩))) := Hd ⟨_, _, (Mo.refl _ _).set _, h.rep.set hk2 (show 8 < 10 by omega) _ { G k with data := ⟨#[]⟩ } rfl (h.rep.ents k hk2), h.ties.set k (hkp.setData ⟨#[]⟩ [] rfl), by
    unfold IT.isCut; rw [hm]; dsimp only; rw [if_neg hm1, if_neg hm2]; exact ⟨rfl, rfl⟩⟩
   clear h hm hk hkp hm1 hm2 hz
   go_enter Tryz.func96, Tryz.ntmps96
   go_wp2_with fail
   refine HF.out.mono ?_
   rintro e w' ⟨rfl, rfl⟩
   go_wp2
   go_ret
   exact ⟨0, rfl, HP.out⟩
 · have HP := Hd (Stf.keep h (Below.refl _ _) (R := fun T' => IT.isCut T ki.toNat (fileE (T ki.toNat)) T') (cut_stay hz))
   have hb := fileE_bad hz
   generalize fileE (T ki.toNat) = e0 at *
   clear hz h
   rcases hb with rfl | rfl | rfl
   all_goals
    go_enter Tryz.func96, Tryz.ntmps96
    go_wp2_with fail
    refine HF.out.mono ?_
    rintro e w' ⟨rfl, rfl⟩
    go_wp2
    go_ret
    exact ⟨_, rfl, HP.out⟩
theorem rest_small (d : ByteArray) (a : Nat) (s : ByteArray) (h : a + s.size < d.size) : putAt d a s = d.extract 0 a ++ s ++ d.extract (a + s.size) d.size := by
 unfold putAt; rw [Nat.min_eq_right (by omega)]
theorem rest_none (d : ByteArray) (a : Nat) (s : ByteArray) (h : ¬ a + s.size < d.size) : putAt d a s = d.extract 0 a ++ s ++ ⟨#[]⟩ := by
 unfold putAt; rw [Nat.min_eq_left (by omega)]
 congr 1
 apply ByteArray.ext
 simp
theorem rf_put {w : World} {t B : Nat} {G : Gt} {T : IT.Tr} (h : Trf w t B G T) (ki a : Int) (s : ByteArray) (hsz : s.size ≤ maxLen) (ha1 : -9223372036854775808 ≤ a):
  Calls Tryz.prog 104 #[.pointer (some ⟨t, 0, none⟩), .int .i64 ki, .int .i64 a, .string s] w fun e w' => ∃ r, e = .returned (.int .i64 r) ∧ Stf w t B (fun T' => IT.isPut T ki.toNat a (bs s) r T') w' := by
 have HF := Hd (rf_file h ki)
 by_cases hz : fileE (T ki.toNat) = 0
 · obtain ⟨m, hm, hm1, hm2⟩ := fileE_ok hz
   rw [hz] at HF
   obtain ⟨k, rfl, hk1, hk2, hk⟩ := h.nat hm
   have c0 := h.rep.cellT
   have hkp := h.ties.sok k m hk
   have b8 := h.rep.c8 k hk2
   have s8 := h.rep.frozen (k * 10 + 8)
   have hd4 : (G k).data.size ≤ 4096 := by have := h.snd.1.size k m hk; rw [← hkp.data, bs_len] at this; exact this
   have hdl : m.data.length = (G k).data.size := by rw [← hkp.data, bs_len]
   have hsl := bs_len s
   have hstay : ∀ r : Int, IT.isPut T (k : Int).toNat a (bs s) r T → Hid (Stf w t B (fun T' => IT.isPut T (k : Int).toNat a (bs s) r T') w) := fun r hr => Hd (Stf.keep h (Below.refl _ _) hr)
   by_cases hbad : a < 0 ∨ ((G k).data.size : Int) < a
   · have HP := hstay 1 (by unfold IT.isPut; rw [hm]; dsimp only; rw [if_neg hm1, if_neg hm2, if_pos (by rw [hdl]; omega)]; exact ⟨rfl, rfl⟩)
     clear hstay h hm hk hkp hm1 hm2 hz hdl hsl hd4
     generalize (G k).data = d at *
     by_cases h1 : a < 0
     · clear hbad
       go_enter Tryz.func104, Tryz.ntmps104
       go_wp2_with fail
       refine HF.out.mono ?_
       rintro e w' ⟨rfl, rfl⟩
       go_wp2
       go_ret
       exact ⟨1, rfl, HP.out⟩
     · have h2 : (d.size : Int) < a := by omega
       clear hbad
       go_enter Tryz.func104, Tryz.ntmps104
       go_wp2_with fail
       refine HF.out.mono ?_
       rintro e w' ⟨rfl, rfl⟩
       go_wp2
       go_ret
       exact ⟨1, rfl, HP.out⟩
   · obtain ⟨n, rfl⟩ : ∃ n : Nat, a = (n : Int) := ⟨a.toNat, by omega⟩
     have hn : n ≤ (G k).data.size := by omega
     by_cases hfull : 4096 < s.size + n
     · have HP := hstay 9 (by unfold IT.isPut; rw [hm]; dsimp only; rw [if_neg hm1, if_neg hm2, if_neg (by rw [hdl]; omega), if_pos (by rw [hsl]; omega)]; exact ⟨rfl, rfl⟩)
       have e1 : (n : Int) ≤ (G k).data.size := by omega
       have e2 : (n : Int) ≤ 4096 := by omega
       have e3 : 4096 - (n : Int) < s.size := by omega
       clear hstay h hm hk hkp hm1 hm2 hz hdl hsl hd4 hbad hn hfull ha1
       generalize (G k).data = d at *
       go_enter Tryz.func104, Tryz.ntmps104
       go_wp2_with fail
       refine HF.out.mono ?_
       rintro e w' ⟨rfl, rfl⟩
       go_wp2
       go_ret
       exact ⟨9, rfl, HP.out⟩
     · have hkp' := hkp.setData (putAt (G k).data n s) _ (putAt_bs (G k).data n s)
       have hle := putAt_le (G k).data n s hd4 hn (by omega)
       have HP : Hid (Stf w t B (fun T' => IT.isPut T (k : Int).toNat (n : Int) (bs s) 0 T') (w.setCell ⟨B, k * 10 + 8, none⟩ (.string (putAt (G k).data n s))).drew) := Hd (by
        refine ⟨_, _, ((Mo.refl _ _).set _).drew, (h.rep.set hk2 (show 8 < 10 by omega) (.string (putAt (G k).data n s)) { G k with data := putAt (G k).data n s } rfl (h.rep.ents k hk2)).below (Below.refl _ _).drew, h.ties.set k hkp', ?_⟩
        unfold IT.isPut; rw [hm]; dsimp only; rw [if_neg hm1, if_neg hm2, if_neg (by rw [hdl]; omega), if_neg (by rw [hsl]; omega), hkp.data]; exact ⟨rfl, rfl⟩)
       have e1 : (n : Int) ≤ (G k).data.size := by omega
       have e2 : (n : Int) ≤ 4096 := by omega
       have e3 : (s.size : Int) + n ≤ 4096 := by omega
       have e4 : ((G k).data.size : Int) ≤ 4096 := by omega
       have hr1 := rest_small (G k).data n s
       have hr2 := rest_none (G k).data n s
       have HR1 := Hd hr1
       have HR2 := Hd hr2
       clear hstay h hm hk hkp hm1 hm2 hz hdl hsl hd4 hbad hn hfull ha1 hkp' hle hr1 hr2
       generalize (G k).data = d at *
       by_cases hrest : n + s.size < d.size
       · have HX := Hd (HR1.out hrest)
         have hi : (n : Int) + s.size < d.size := by omega
         clear HR1 HR2 hrest
         go_enter Tryz.func104, Tryz.ntmps104
         go_wp2_with fail
         refine HF.out.mono ?_
         rintro e w' ⟨rfl, rfl⟩
         go_wp2
         go_region
         go_wp2
         go_ret
         rw [← HX.out]
         exact ⟨0, rfl, HP.out⟩
       · have HX := Hd (HR2.out hrest)
         have hi : (d.size : Int) ≤ (n : Int) + s.size := by omega
         clear HR1 HR2 hrest
         go_enter Tryz.func104, Tryz.ntmps104
         go_wp2_with fail
         refine HF.out.mono ?_
         rintro e w' ⟨rfl, rfl⟩
         go_wp2
         go_region
         go_wp2
         go_ret
         rw [← HX.out]
         exact ⟨0, rfl, HP.out⟩
 · have HP := Hd (Stf.keep h (Below.refl _ _) (R := fun T' => IT.isPut T ki.toNat a (bs s) (fileE (T ki.toNat)) T') (put_stay a (bs s) hz))
   have hb := fileE_bad hz
   generalize fileE (T ki.toNat) = e0 at *
   clear hz h hsz ha1
   rcases hb with rfl | rfl | rfl
   all_goals
    go_enter Tryz.func104, Tryz.ntmps104
    go_wp2_with fail
    refine HF.out.mono ?_
    rintro e w' ⟨rfl, rfl⟩
    go_wp2
    go_ret
    exact ⟨_, rfl, HP.out⟩
theorem look_idx (s : ByteArray) : ∀ l : List (ByteArray × Nat), (look l s = none ∧ ∀ p ∈ l, p.1 ≠ s) ∨ ∃ i x, look l s = some x ∧ l[i]? = some (s, x) ∧ ∀ (j : Nat) (p : ByteArray × Nat), j < i → l[j]? = some p → p.1 ≠ s
 | [] => .inl ⟨rfl, fun p hp => by cases hp⟩
 | q :: l => by
   by_cases hq : q.1 = s
   · refine .inr ⟨0, q.2, ?_, ?_, fun j p hj => by omega⟩
     · unfold look; rw [List.find?_cons, decide_eq_true hq]; rfl
     · rw [← hq]; rfl
   · have e : look (q :: l) s = look l s := by unfold look; rw [List.find?_cons, decide_eq_false hq]
     rcases look_idx s l with ⟨h1, h2⟩ | ⟨i, x, h1, h2, h3⟩
     · refine .inl ⟨e.trans h1, fun p hp => ?_⟩
       rcases List.mem_cons.1 hp with rfl | hp
       · exact hq
       · exact h2 p hp
     · refine .inr ⟨i + 1, x, e.trans h1, h2, fun j p hj hp => ?_⟩
       cases j with
       | zero => obtain rfl : q = p := by simpa using hp
                 exact hq
       | succ j => exact h3 j p (by omega) (by simpa using hp)
theorem Tie.find {G : Gt} {T : IT.Tr} (h : Tie G T) (hs : IT.Sound0 okN T) {k : Nat} {m : IT.Nd} (hk : T k = some m) (s : ByteArray) : (IT.findN (bs s) m.names = none ∧ ∀ p ∈ (G k).ents, p.1 ≠ s) ∨ ∃ i x, IT.findN (bs s) m.names = some x ∧ (G k).ents[i]? = some (s, x) ∧ ∀ (j : Nat) (p : ByteArray × Nat), j < i → (G k).ents[j]? = some p → p.1 ≠ s := by
 have e : IT.findN (bs s) m.names = look (G k).ents s := by
  rw [← IT.perm_find (hs.ord k m hk) (h.sok k m hk).names, look_find]
 rw [e]
 exact look_idx s _
theorem rf_look_no {w : World} {t B : Nat} {G : Gt} {T : IT.Tr} (h : Trf w t B G T) (ki : Int) (s : ByteArray) (hd : dirB (T ki.toNat) = false) :
  Calls Tryz.prog 93 #[.pointer (some ⟨t, 0, none⟩), .int .i64 ki, .string s] w fun e w' => e = .returned (.tuple #[.int .i64 0, .bool false]) ∧ w = w' := by
 have HD := Hd (rf_dir h ki)
 rw [hd] at HD
 clear h hd
 go_enter Tryz.func93, Tryz.ntmps93
 go_wp2_with fail
 refine HD.out.mono ?_
 rintro e w' ⟨rfl, rfl⟩
 go_wp2
 go_ret2
 exact ⟨rfl, rfl⟩
theorem rf_look_dir {w : World} {t B : Nat} {G : Gt} {T : IT.Tr} (h : Trf w t B G T) (ki : Int) (s : ByteArray) {m : IT.Nd} (hm : T ki.toNat = some m) (hd : m.kind = 1) :
  Calls Tryz.prog 93 #[.pointer (some ⟨t, 0, none⟩), .int .i64 ki, .string s] w fun e w' => e = .returned (lookV (lookT T ki.toNat (bs s))) ∧ w = w' := by
 obtain ⟨k, rfl, hk1, hk2, hk⟩ := h.nat hm
 have HD := Hd (rf_dir h (k : Int))
 rw [hm, show dirB (some m) = true from by unfold dirB; simpa using hd] at HD
 have c0 := h.rep.cellT
 have hkp := h.ties.sok k m hk
 have e1 : s.toList = bs s := ByteArray.toList_eq s
 have HL : Hid (lookT T (k : Int).toNat (bs s) = if bs s = [46] then some k else if bs s = [46, 46] then some m.parent else IT.findN (bs s) m.names) := Hd (by
  unfold lookT; rw [hm]; dsimp only; rw [if_neg (fun hh => hh hd)]; rfl)
 by_cases d1 : bs s = [46]
 · have z1 : (s.toList == [46]) = true := by rw [e1, d1]; rfl
   rw [HL.out, if_pos d1]
   clear h hm hk hkp e1 HL d1
   go_enter Tryz.func93, Tryz.ntmps93
   go_wp2_with fail
   refine HD.out.mono ?_
   rintro e w' ⟨rfl, rfl⟩
   go_wp2
   go_ret2
   exact ⟨rfl, rfl⟩
 · have z1 : (s.toList == [46]) = false := by rw [e1]; exact beq_eq_false_iff_ne.2 d1
   by_cases d2 : bs s = [46, 46]
   · have z2 : (s.toList == [46, 46]) = true := by rw [e1, d2]; rfl
     have b7 := h.rep.c7 k hk2
     rw [hkp.parent hd] at b7
     rw [HL.out, if_neg d1, if_pos d2]
     clear h hm hk hkp e1 HL d1 d2
     go_enter Tryz.func93, Tryz.ntmps93
     go_wp2_with fail
     refine HD.out.mono ?_
     rintro e w' ⟨rfl, rfl⟩
     go_wp2
     go_ret2
     exact ⟨rfl, rfl⟩
   · have z2 : (s.toList == [46, 46]) = false := by rw [e1]; exact beq_eq_false_iff_ne.2 d2
     rw [HL.out, if_neg d1, if_neg d2]
     rcases h.ties.find h.snd.1 hk s with ⟨g1, g2⟩ | ⟨i, x, g1, g2, g3⟩
     · have HA := Hd (rf_at_none h.rep k hk2 s g2)
       rw [g1]
       clear h hm hk hkp e1 HL d1 d2 g1 g2
       go_enter Tryz.func93, Tryz.ntmps93
       go_wp2_with fail
       refine HD.out.mono ?_
       rintro e w' ⟨rfl, rfl⟩
       go_wp2_with fail
       refine HA.out.mono ?_
       rintro e w' ⟨rfl, rfl⟩
       go_wp2
       go_ret2
       exact ⟨rfl, rfl⟩
     · have HA := Hd (rf_at_some h.rep k hk2 s g2 g3)
       rw [g1]
       have b9 := h.rep.c9 k hk2
       obtain ⟨a, cap, hs, hl1, hl2, hl3⟩ := (h.rep.ents k hk2).lit
       rw [hs] at b9
       obtain ⟨g, rfl, f1, f2⟩ := hl3 i _ g2
       have hil : i < (G k).ents.length := (List.getElem?_eq_some_iff.1 g2).1
       have hl40 : (G k).ents.length ≤ 40 := h.ties.few h.snd.1 k hk2
       generalize (G k).ents.length = L at *
       clear h hm hk hkp e1 HL d1 d2 g1 g2 g3 hl1 hl2 hl3 hs f1
       go_enter Tryz.func93, Tryz.ntmps93
       go_wp2_with fail
       refine HD.out.mono ?_
       rintro e w' ⟨rfl, rfl⟩
       go_wp2_with fail
       refine HA.out.mono ?_
       rintro e w' ⟨rfl, rfl⟩
       go_wp2
       go_ret2
       exact ⟨rfl, rfl⟩
theorem rf_look {w : World} {t B : Nat} {G : Gt} {T : IT.Tr} (h : Trf w t B G T) (ki : Int) (s : ByteArray) :
  Calls Tryz.prog 93 #[.pointer (some ⟨t, 0, none⟩), .int .i64 ki, .string s] w fun e w' => e = .returned (lookV (lookT T ki.toNat (bs s))) ∧ w = w' := by
 cases hm : T ki.toNat with
 | none =>
   refine (rf_look_no h ki s (by rw [hm]; rfl)).mono ?_
   rintro e w' ⟨rfl, rfl⟩
   refine ⟨?_, rfl⟩
   unfold lookT; rw [hm]; rfl
 | some m =>
   by_cases hd : m.kind = 1
   · exact rf_look_dir h ki s hm hd
   · refine (rf_look_no h ki s (by rw [hm]; unfold dirB; simpa using hd)).mono ?_
     rintro e w' ⟨rfl, rfl⟩
     refine ⟨?_, rfl⟩
     unfold lookT; rw [hm]; dsimp only; rw [if_pos hd]; rfl
end Go.Proofs.YtafonmnfeibaiaaGreat.RF
namespace Go.Proofs.YtafonmnfeibaiaaGreat
open Go.RowKit
theorem belowDrewN {B : Nat} {a w : World} (h : Below B a w) (n : Nat) : Below B a (w.drewN n) := h.trans ⟨rfl, rfl, rfl, Nat.le_refl _, fun _ _ => rfl⟩
theorem info55 : (Tryz.prog.info? 83).map (fun i => i.size) = some 12 := by kernel_rfl
theorem neq_nodes {w : World} {b c : Nat} {C D : Array Value} {T U : TypeId} (hb : w.heap[b]? = some (.cells C T (0, 0))) (hc : w.heap[c]? = some (.cells D U (0, 0))) (hne : b ≠ c) :
  (binOp .neq 79 (.pointer (some ⟨b, 0, none⟩)) (.pointer (some ⟨c, 0, none⟩))).run Tryz.prog w = .ok (.bool true) w := by
 obtain ⟨j, hj, hsz⟩ : ∃ j, Tryz.prog.info? 83 = some j ∧ j.size = 12 := by
  have := info55
  cases h : Tryz.prog.info? 83 with
  | none => rw [h] at this; simp at this
  | some j => rw [h] at this; exact ⟨j, rfl, by simpa using this⟩
 have h : ∀ d : Nat, (Op.equalIn (d + 1) 79 (.pointer (some ⟨b, 0, none⟩)) (.pointer (some ⟨c, 0, none⟩))).run Tryz.prog w = .ok false w := fun d => by
  simp [Op.equalIn, run_underlying Tryz.underlying79, sizeOf, typeInfo, hj, hsz, run_sameAddr_other (a := ⟨b, 0, none⟩) (b := ⟨c, 0, none⟩) w (fun e => hne (by cases e; rfl)) hb hc]
 simp only [binOp]
 simp [Op.equal, Op.maxDepth, h 9999]
theorem eql_nodes {w : World} {b c : Nat} {C D : Array Value} {T U : TypeId} (hb : w.heap[b]? = some (.cells C T (0, 0))) (hc : w.heap[c]? = some (.cells D U (0, 0))) (hne : b ≠ c) :
  (binOp .eql 79 (.pointer (some ⟨b, 0, none⟩)) (.pointer (some ⟨c, 0, none⟩))).run Tryz.prog w = .ok (.bool false) w := by
 obtain ⟨j, hj, hsz⟩ : ∃ j, Tryz.prog.info? 83 = some j ∧ j.size = 12 := by
  have := info55
  cases h : Tryz.prog.info? 83 with
  | none => rw [h] at this; simp at this
  | some j => rw [h] at this; exact ⟨j, rfl, by simpa using this⟩
 exact run_eql_ptr_other (a := ⟨b, 0, none⟩) (b := ⟨c, 0, none⟩) w Tryz.underlying79 hj (by omega) (fun e => hne (by cases e; rfl)) hb hc
theorem neq_self (w : World) (b : Nat) : (binOp .neq 79 (.pointer (some ⟨b, 0, none⟩)) (.pointer (some ⟨b, 0, none⟩))).run Tryz.prog w = .ok (.bool false) w := by
 obtain ⟨j, hj, hsz⟩ : ∃ j, Tryz.prog.info? 83 = some j ∧ j.size = 12 := by
  have := info55
  cases h : Tryz.prog.info? 83 with
  | none => rw [h] at this; simp at this
  | some j => rw [h] at this; exact ⟨j, rfl, by simpa using this⟩
 exact Lib.run_neq_ptr_same w ⟨b, 0, none⟩ Tryz.underlying79 hj
theorem eql_self (w : World) (b : Nat) : (binOp .eql 79 (.pointer (some ⟨b, 0, none⟩)) (.pointer (some ⟨b, 0, none⟩))).run Tryz.prog w = .ok (.bool true) w := by
 obtain ⟨j, hj, hsz⟩ : ∃ j, Tryz.prog.info? 83 = some j ∧ j.size = 12 := by
  have := info55
  cases h : Tryz.prog.info? 83 with
  | none => rw [h] at this; simp at this
  | some j => rw [h] at this; exact ⟨j, rfl, by simpa using this⟩
 exact run_eql_ptr_same w ⟨b, 0, none⟩ Tryz.underlying79 hj
noncomputable def rkV (S : Tab) (h : Nat → Nat) (v : Value) : Nat := @dite _ (∃ k b n, S k = some (b, n) ∧ v = .pointer (some ⟨b, 0, none⟩)) (Classical.propDecidable _) (fun hh => h (Classical.choose hh)) (fun _ => 0)
theorem rkV_eq {w : World} {t : Nat} {S : Tab} (hr : Rep w t S) (h : Nat → Nat) {k b : Nat} {n : Nd} (hk : S k = some (b, n)) : rkV S h (.pointer (some ⟨b, 0, none⟩)) = h k := by
 have hh : ∃ k' b' n', S k' = some (b', n') ∧ Value.pointer (some ⟨b, 0, none⟩) = .pointer (some ⟨b', 0, none⟩) := ⟨k, b, n, hk, rfl⟩
 unfold rkV
 rw [dif_pos hh]
 obtain ⟨b', n', h1, h2⟩ := Classical.choose_spec hh
 have e : b = b' := by cases h2; rfl
 subst e
 rw [hr.inj _ _ _ _ _ h1 hk]
theorem Rep.drewN {w : World} {t : Nat} {S : Tab} (h : Rep w t S) (n : Nat) : Rep (w.drewN n) t S := h.same (fun _ _ => rfl)
def WL (w : World) (S : Tab) (T : IT.Tr) (x d : Nat) (v : Value) (wr : World) : Prop := ∃ (k b : Nat) (n : Nd) (m : IT.Nd), v = .pointer (some ⟨b, 0, none⟩) ∧ S k = some (b, n) ∧ T k = some m ∧ m.kind = 1 ∧ (IT.Bel T x d ↔ IT.Bel T x k) ∧ ∃ z, wr = w.drewN z
theorem within_any {w : World} {t b c d x : Nat} {S : Tab} {T : IT.Tr} {n m : Nd} {q : IT.Nd} (h : Tre w t S T) (hd : S d = some (b, n)) (hx : S x = some (c, m)) (hq : T d = some q) (hk1 : q.kind = 1) :
  Calls Tryz.prog 85 #[.pointer (some ⟨t, 0, none⟩), .pointer (some ⟨b, 0, none⟩), .pointer (some ⟨c, 0, none⟩)] w fun e w' => ∃ r : Bool, e = .returned (.bool r) ∧ (r = true ↔ IT.Bel T x d) ∧ Below w.heap.size w w' := by
 obtain ⟨rk, hrk1, hrk2⟩ := h.snd.1.rank
 have HR := Hd h
 have HX := Hd hx
 have HS : Hid (WL w S T x d (.pointer (some ⟨b, 0, none⟩)) w) := Hd ⟨d, b, n, q, rfl, hd, hq, hk1, Iff.rfl, 0, rfl⟩
 have HK2 := Hd hrk2
 clear h hx hd hq hk1 hrk1 hrk2
 go_enter Tryz.func85, Tryz.ntmps85
 go_wp2
 go_loopw [1] (fun v wr => WL w S T x d v wr) (fun v _ => rkV S rk v)
 case atStart => exact HS.out
 case round =>
  obtain ⟨k, b', n', m', rfl, hk, hT, hkd, hiff, z, hz⟩ := hrel
  have hrep : Rep wr t S := by rw [hz]; exact HR.out.rep.drewN z
  have HZ := Hd hz
  have HI := Hd hiff
  have HKd := Hd hkd
  have hkp := HR.out.ties.kept (kpOf_some hk) hT
  have hpar : n'.parent = m'.parent := hkp.parent
  have c0 := hrep.c0 hk
  have c11 := hrep.c11 hk
  rw [hrep.ino k b' n' hk] at c0
  by_cases hkx : k = x
  · have hbc : b' = c := by
     have := HX.out
     rw [← hkx, hk] at this
     exact (Prod.mk.inj (oI this)).1
    subst hbc
    have q1 : ∀ i, (binOp .neq 79 (.pointer (some ⟨b', 0, none⟩)) (.pointer (some ⟨b', 0, none⟩))).run Tryz.prog (wr.drewN i) = .ok (.bool false) (wr.drewN i) := fun i => neq_self _ _
    have q2 : ∀ i, (binOp .eql 79 (.pointer (some ⟨b', 0, none⟩)) (.pointer (some ⟨b', 0, none⟩))).run Tryz.prog (wr.drewN i) = .ok (.bool true) (wr.drewN i) := fun i => eql_self _ _
    have HE : Hid (IT.Bel T x d) := Hd (HI.out.2 (by rw [hkx]; exact .self))
    clear hz hiff hkd hkp hpar hk hT hrep hkx
    go_wp2
    go_quiet (fail)
    go_wp2
    go_ret
    refine ⟨true, rfl, ⟨fun _ => HE.out, fun _ => rfl⟩, ?_⟩
    rw [HZ.out]
    exact belowDrewN (belowDrewN (Below.refl _ _) _) _
  · have hbc : b' ≠ c := fun e => hkx (HR.out.rep.inj _ _ _ _ _ hk (e ▸ HX.out))
    have q1 : ∀ i, (binOp .neq 79 (.pointer (some ⟨b', 0, none⟩)) (.pointer (some ⟨c, 0, none⟩))).run Tryz.prog (wr.drewN i) = .ok (.bool true) (wr.drewN i) := fun i => neq_nodes (w := wr.drewN i) ((hrep.drewN i).node k b' n' hk) ((hrep.drewN i).node x c m HX.out) hbc
    have q2 : ∀ i, (binOp .eql 79 (.pointer (some ⟨b', 0, none⟩)) (.pointer (some ⟨c, 0, none⟩))).run Tryz.prog (wr.drewN i) = .ok (.bool false) (wr.drewN i) := fun i => eql_nodes (w := wr.drewN i) ((hrep.drewN i).node k b' n' hk) ((hrep.drewN i).node x c m HX.out) hbc
    by_cases hp : m'.parent = k
    · have HE : Hid (¬ IT.Bel T x d) := Hd (fun hh => IT.bel_top hT hkx hp (HI.out.1 hh))
      rw [hpar, hp] at c11
      clear hz hiff hkd hkp hpar hk hT hrep hkx hp hbc
      go_wp2
      go_quiet (fail)
      go_wp2
      go_ret
      refine ⟨false, rfl, ⟨fun hh => (by cases hh), fun hh => absurd hh HE.out⟩, ?_⟩
      rw [HZ.out]
      exact belowDrewN (belowDrewN (Below.refl _ _) _) _
    · obtain ⟨hlt, m2, hm2, hm2k⟩ := HK2.out k m' hT hkd hp
      obtain ⟨b2, n2, hS2, _⟩ := HR.out.back hm2
      have hrg := HR.out.rep.rng _ _ hS2
      rw [hpar] at c11
      have ct : wr.cell? ⟨t, m'.parent, none⟩ = some (.pointer (some ⟨b2, 0, none⟩)) := by rw [hrep.cellT _ (by omega), hS2]; rfl
      have hn1 : ((m'.parent : Int) != (k : Int)) = true := by
       have : ¬ (m'.parent : Int) = k := by omega
       simpa using this
      have hn2 : ((m'.parent : Int) == (k : Int)) = false := by
       have : ¬ (m'.parent : Int) = k := by omega
       simpa using this
      have hb1 : 1 ≤ (m'.parent : Int) := by omega
      have hb2 : (m'.parent : Int) ≤ 200 := by omega
      have HW : Hid (∀ j, WL w S T x d (.pointer (some ⟨b2, 0, none⟩)) (wr.drewN j)) := Hd (fun j => ⟨m'.parent, b2, n2, m2, rfl, hS2, hm2, hm2k, HI.out.trans (IT.bel_step hT hkd hkx hp), z + j, by rw [hz]; show _ = _; rw [World.drewN_drewN]⟩)
      have HM : Hid (rkV S rk (.pointer (some ⟨b2, 0, none⟩)) < rkV S rk (.pointer (some ⟨b', 0, none⟩))) := Hd (by rw [rkV_eq HR.out.rep rk hS2, rkV_eq HR.out.rep rk hk]; exact hlt)
      clear hz hiff hkd hkp hpar hk hT hrep hkx hp hbc hlt hm2 hm2k hS2 hrg
      go_wp2
      go_quiet (fail)
      go_wp2
      go_quiet (fail)
      go_wp2
      go_roundw
      case rel =>
       have e := HW.out
       first | exact e _ | (simp only [World.drewN_drewN]; exact e _)
      case measure => exact HM.out
end Go.Proofs.YtafonmnfeibaiaaGreat
