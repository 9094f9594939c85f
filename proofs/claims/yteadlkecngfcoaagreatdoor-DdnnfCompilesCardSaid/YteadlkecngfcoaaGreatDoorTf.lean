/- Layings of slices.SortFunc's closure of functions, in plain words. No condition. -/
import Derived.Test.YteadlkecngfcoaaGreatDoorProg
import Derived.Shelf.Lays
namespace Go.Proofs.YteadlkecngfcoaaGreatDoor
open Go.Shelf Go.Proofs
def bString_ren : Go.Shelf.Ren := ⟨fun | 169 => 39 | n => n, fun | 70 => 79 | 9 => 9 | 0 => 0 | 72 => 82 | 37 => 80 | 127 => 96 | 3 => 3 | 5 => 5 | n => n, fun | n => n⟩
theorem bString : Go.Proofs.Lays.n169 Tryz.prog bString_ren := {
  mixed := by kernel_rfl,
  f169 := Tryz.func39.trans (congrArg some (by kernel_rfl)),
  t0 := Tryz.underlying0,
  a0 := Tryz.isAgg0,
  z0 := Tryz.sizeOf0,
  v0 := Tryz.zeroValue0,
  t3 := Tryz.underlying3,
  a3 := Tryz.isAgg3,
  z3 := Tryz.sizeOf3,
  v3 := Tryz.zeroValue3,
  t9 := Tryz.underlying9,
  a9 := Tryz.isAgg9,
  z9 := Tryz.sizeOf9,
  v9 := Tryz.zeroValue9,
  t37 := Tryz.underlying80,
  a37 := Tryz.isAgg80,
  z37 := Tryz.sizeOf80,
  v37 := Tryz.zeroValue80,
  t70 := Tryz.underlying79,
  a70 := Tryz.isAgg79,
  z70 := Tryz.sizeOf79,
  v70 := Tryz.zeroValue79,
  t72 := Tryz.underlying82,
  a72 := Tryz.isAgg82,
  z72 := Tryz.sizeOf82,
  v72 := Tryz.zeroValue82,
  t127 := Tryz.underlying96,
  a127 := Tryz.isAgg96,
  z127 := Tryz.sizeOf96,
  v127 := Tryz.zeroValue96 }
end Go.Proofs.YteadlkecngfcoaaGreatDoor
