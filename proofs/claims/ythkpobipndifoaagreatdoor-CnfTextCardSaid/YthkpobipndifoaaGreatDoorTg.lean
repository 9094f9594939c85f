/- Layings of slices.SortFunc's closure of functions, in plain words. No condition. -/
import Derived.Test.YthkpobipndifoaaGreatDoorProg
import Derived.Shelf.Lays
namespace Go.Proofs.YthkpobipndifoaaGreatDoor
open Go.Shelf Go.Proofs
def bLen_ren : Go.Shelf.Ren := ⟨fun | 170 => 23 | n => n, fun | 70 => 54 | 3 => 3 | 0 => 0 | 72 => 57 | 37 => 55 | 5 => 5 | n => n, fun | n => n⟩
theorem bLen : Go.Proofs.Lays.n170 Tryz.prog bLen_ren := {
  mixed := by kernel_rfl,
  f170 := Tryz.func23.trans (congrArg some (by kernel_rfl)),
  t0 := Tryz.underlying0,
  a0 := Tryz.isAgg0,
  z0 := Tryz.sizeOf0,
  v0 := Tryz.zeroValue0,
  t3 := Tryz.underlying3,
  a3 := Tryz.isAgg3,
  z3 := Tryz.sizeOf3,
  v3 := Tryz.zeroValue3,
  t37 := Tryz.underlying55,
  a37 := Tryz.isAgg55,
  z37 := Tryz.sizeOf55,
  v37 := Tryz.zeroValue55,
  t70 := Tryz.underlying54,
  a70 := Tryz.isAgg54,
  z70 := Tryz.sizeOf54,
  v70 := Tryz.zeroValue54,
  t72 := Tryz.underlying57,
  a72 := Tryz.isAgg57,
  z72 := Tryz.sizeOf57,
  v72 := Tryz.zeroValue57 }
end Go.Proofs.YthkpobipndifoaaGreatDoor
