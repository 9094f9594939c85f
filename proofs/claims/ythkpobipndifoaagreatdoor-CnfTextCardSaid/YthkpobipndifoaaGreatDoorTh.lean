/- Layings of slices.SortFunc's closure of functions, in plain words. No condition. -/
import Derived.Test.YthkpobipndifoaaGreatDoorProg
import Derived.Shelf.Lays
namespace Go.Proofs.YthkpobipndifoaaGreatDoor
open Go.Shelf Go.Proofs
def hasPre_ren : Go.Shelf.Ren := ⟨fun | 99 => 35 | 206 => 55 | n => n, fun | 9 => 9 | 4 => 4 | 3 => 3 | n => n, fun | n => n⟩
theorem hasPre : Go.Proofs.Lays.n99 Tryz.prog hasPre_ren := {
  mixed := by kernel_rfl,
  f99 := Tryz.func35.trans (congrArg some (by kernel_rfl)),
  f206 := Tryz.func55.trans (congrArg some (by kernel_rfl)),
  t3 := Tryz.underlying3,
  a3 := Tryz.isAgg3,
  z3 := Tryz.sizeOf3,
  v3 := Tryz.zeroValue3,
  t4 := Tryz.underlying4,
  a4 := Tryz.isAgg4,
  z4 := Tryz.sizeOf4,
  v4 := Tryz.zeroValue4,
  t9 := Tryz.underlying9,
  a9 := Tryz.isAgg9,
  z9 := Tryz.sizeOf9,
  v9 := Tryz.zeroValue9 }
end Go.Proofs.YthkpobipndifoaaGreatDoor
