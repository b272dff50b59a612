/- Builder.WriteString at this dump, laid by hand. -/
import Derived.Shelf.Strings.Builder1
import Derived.Shelf.Strings.Builder2
import Derived.Test.YtmfbmjnoepcigaaGreatDoorProg
namespace Go.Proofs
open Go.Shelf
def Tryz.laysW_ren : Go.Shelf.Ren := ⟨fun | 166 => 26 | 240 => 44 | 276 => 58 | n => n, fun | 0 => 0 | 3 => 3 | 4 => 4 | 5 => 5 | 9 => 9 | 20 => 20 | 37 => 45 | 70 => 44 | 72 => 47 | 75 => 49 | 80 => 53 | 164 => 79 | n => n, fun | n => n⟩
theorem Tryz.laysW : Go.Proofs.Lays.n166 Tryz.prog Tryz.laysW_ren := {
  mixed := by kernel_rfl
  f166 := Tryz.func26.trans (congrArg some (by kernel_rfl))
  f240 := Tryz.func44.trans (congrArg some (by kernel_rfl))
  f276 := Tryz.func58.trans (congrArg some (by kernel_rfl))
  t0 := Tryz.underlying0
  a0 := Tryz.isAgg0
  z0 := Tryz.sizeOf0
  v0 := Tryz.zeroValue0
  t3 := Tryz.underlying3
  a3 := Tryz.isAgg3
  z3 := Tryz.sizeOf3
  v3 := Tryz.zeroValue3
  t4 := Tryz.underlying4
  a4 := Tryz.isAgg4
  z4 := Tryz.sizeOf4
  v4 := Tryz.zeroValue4
  t9 := Tryz.underlying9
  a9 := Tryz.isAgg9
  z9 := Tryz.sizeOf9
  v9 := Tryz.zeroValue9
  t20 := Tryz.underlying20
  a20 := Tryz.isAgg20
  z20 := Tryz.sizeOf20
  v20 := Tryz.zeroValue20
  t37 := Tryz.underlying45
  a37 := Tryz.isAgg45
  z37 := Tryz.sizeOf45
  v37 := Tryz.zeroValue45
  t70 := Tryz.underlying44
  a70 := Tryz.isAgg44
  z70 := Tryz.sizeOf44
  v70 := Tryz.zeroValue44
  t72 := Tryz.underlying47
  a72 := Tryz.isAgg47
  z72 := Tryz.sizeOf47
  v72 := Tryz.zeroValue47
  t75 := Tryz.underlying49
  a75 := Tryz.isAgg49
  z75 := Tryz.sizeOf49
  v75 := Tryz.zeroValue49
  t164 := Tryz.underlying79
  a164 := Tryz.isAgg79
  z164 := Tryz.sizeOf79
  v164 := Tryz.zeroValue79 }
theorem Tryz.Builder_Extra_W : Builder.Extra Tryz.prog Tryz.laysW_ren where
  sizeBuilder := by kernel_rfl
  liesBuilder := by kernel_rfl
  t5 := Tryz.underlying5
  a5 := Tryz.isAgg5
  z5 := Tryz.sizeOf5
  v5 := Tryz.zeroValue5
  infoByte := by kernel_rfl
  cellsByte := by kernel_rfl
  sizeByte := by kernel_rfl
  neB5 := by decide
open Go.RowKit in
theorem Tryz.Builder_WriteString_h (B b : Nat) (bs : List Value) (s : ByteArray) (w : World) (h : Lib.IsBuilder 47 5 B b bs w) (hlen : bs.length + s.size ≤ 140737488355328) (hBw : B ≤ w.heap.size) :
    Calls Tryz.prog 26 #[.pointer (some ⟨b, 0, none⟩), .string s] w fun e w' => e = .returned (.tuple #[.int .i64 s.size, .nilIface]) ∧ (Lib.BuilderAt 47 5 B b (.pointer (some ⟨b, 0, none⟩)) (bs ++ Lib.strCells s) w' ∧ Below B w w') := Any.Builder_WriteString Tryz.laysW Tryz.Builder_Extra_W B b bs s w h hlen hBw
end Go.Proofs
