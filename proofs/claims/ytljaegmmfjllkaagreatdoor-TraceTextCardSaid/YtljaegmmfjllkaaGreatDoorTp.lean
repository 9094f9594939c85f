/- Layings of slices.SortFunc's closure of functions, in plain words. No condition. -/
import Derived.Test.YtljaegmmfjllkaaGreatDoorProg
import Derived.Shelf.Lays
namespace Go.Proofs.YtljaegmmfjllkaaGreatDoor
open Go.Shelf Go.Proofs
def cutPre_ren : Go.Shelf.Ren := ⟨fun | 103 => 23 | 210 => 41 | 206 => 60 | n => n, fun | 9 => 9 | 4 => 4 | 24 => 61 | 3 => 3 | n => n, fun | n => n⟩
theorem cutPre : Go.Proofs.Lays.n103 Tryz.prog cutPre_ren := {
  mixed := by kernel_rfl,
  f103 := Tryz.func23.trans (congrArg some (by kernel_rfl)),
  f206 := Tryz.func60.trans (congrArg some (by kernel_rfl)),
  f210 := Tryz.func41.trans (congrArg some (by kernel_rfl)),
  t3 := Tryz.underlying3,
  a3 := Tryz.isAgg3,
  z3 := Tryz.sizeOf3,
  v3 := Tryz.zeroValue3,
  t4 := Tryz.underlying4,
  a4 := Tryz.isAgg4,
  z4 := Tryz.sizeOf4,
  v4 := Tryz.zeroValue4,
  t9 := Tryz.underlying9,
  a9 := Tryz.isAgg9,
  z9 := Tryz.sizeOf9,
  v9 := Tryz.zeroValue9,
  t24 := Tryz.underlying61,
  a24 := Tryz.isAgg61,
  z24 := Tryz.sizeOf61,
  v24 := Tryz.zeroValue61 }
end Go.Proofs.YtljaegmmfjllkaaGreatDoor
