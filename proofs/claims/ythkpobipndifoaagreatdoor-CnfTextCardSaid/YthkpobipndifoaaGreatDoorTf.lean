/- Layings of slices.SortFunc's closure of functions, in plain words. No condition. -/
import Derived.Test.YthkpobipndifoaaGreatDoorProg
import Derived.Shelf.Lays
namespace Go.Proofs.YthkpobipndifoaaGreatDoor
open Go.Shelf Go.Proofs
def bString_ren : Go.Shelf.Ren := ⟨fun | 169 => 24 | n => n, fun | 70 => 54 | 9 => 9 | 0 => 0 | 72 => 57 | 37 => 55 | 127 => 83 | 3 => 3 | 5 => 5 | n => n, fun | n => n⟩
theorem bString : Go.Proofs.Lays.n169 Tryz.prog bString_ren := {
  mixed := by kernel_rfl,
  f169 := Tryz.func24.trans (congrArg some (by kernel_rfl)),
  t0 := Tryz.underlying0,
  a0 := Tryz.isAgg0,
  z0 := Tryz.sizeOf0,
  v0 := Tryz.zeroValue0,
  t3 := Tryz.underlying3,
  a3 := Tryz.isAgg3,
  z3 := Tryz.sizeOf3,
  v3 := Tryz.zeroValue3,
  t9 := Tryz.underlying9,
  a9 := Tryz.isAgg9,
  z9 := Tryz.sizeOf9,
  v9 := Tryz.zeroValue9,
  t37 := Tryz.underlying55,
  a37 := Tryz.isAgg55,
  z37 := Tryz.sizeOf55,
  v37 := Tryz.zeroValue55,
  t70 := Tryz.underlying54,
  a70 := Tryz.isAgg54,
  z70 := Tryz.sizeOf54,
  v70 := Tryz.zeroValue54,
  t72 := Tryz.underlying57,
  a72 := Tryz.isAgg57,
  z72 := Tryz.sizeOf57,
  v72 := Tryz.zeroValue57,
  t127 := Tryz.underlying83,
  a127 := Tryz.isAgg83,
  z127 := Tryz.sizeOf83,
  v127 := Tryz.zeroValue83 }
end Go.Proofs.YthkpobipndifoaaGreatDoor
