/- Layings of slices.SortFunc's closure of functions, in plain words. No condition. -/
import Derived.Test.YthanfjpmcckbhaaGreatDoorProg
import Derived.Shelf.Lays2
namespace Go.Proofs.YthanfjpmcckbhaaGreatDoor
open Go.Shelf Go.Proofs
def searchI_ren : Go.Shelf.Ren := ⟨fun | 25 => 67 | 31 => 93 | 32 => 94 | 37 => 133 | n => n, fun | 22 => 32 | 3 => 3 | 4 => 4 | 40 => 98 | 0 => 0 | n => n, fun | n => n⟩
theorem searchI : Go.Proofs.Lays2.n25 Tryz.prog searchI_ren := {
  mixed := by kernel_rfl,
  f25 := Tryz.func67.trans (congrArg some (by kernel_rfl)),
  f31 := Tryz.func93.trans (congrArg some (by kernel_rfl)),
  f32 := Tryz.func94.trans (congrArg some (by kernel_rfl)),
  f37 := Tryz.func133.trans (congrArg some (by kernel_rfl)),
  t0 := Tryz.underlying0,
  a0 := Tryz.isAgg0,
  z0 := Tryz.sizeOf0,
  v0 := Tryz.zeroValue0,
  t3 := Tryz.underlying3,
  a3 := Tryz.isAgg3,
  z3 := Tryz.sizeOf3,
  v3 := Tryz.zeroValue3,
  t4 := Tryz.underlying4,
  a4 := Tryz.isAgg4,
  z4 := Tryz.sizeOf4,
  v4 := Tryz.zeroValue4,
  t22 := Tryz.underlying32,
  a22 := Tryz.isAgg32,
  z22 := Tryz.sizeOf32,
  v22 := Tryz.zeroValue32,
  t40 := Tryz.underlying98,
  a40 := Tryz.isAgg98,
  z40 := Tryz.sizeOf98,
  v40 := Tryz.zeroValue98 }
end Go.Proofs.YthanfjpmcckbhaaGreatDoor
