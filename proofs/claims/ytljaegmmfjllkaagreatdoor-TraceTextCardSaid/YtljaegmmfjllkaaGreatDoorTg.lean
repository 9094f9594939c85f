/- Layings of slices.SortFunc's closure of functions, in plain words. No condition. -/
import Derived.Test.YtljaegmmfjllkaaGreatDoorProg
import Derived.Shelf.Lays
namespace Go.Proofs.YtljaegmmfjllkaaGreatDoor
open Go.Shelf Go.Proofs
def bLen_ren : Go.Shelf.Ren := ⟨fun | 170 => 21 | n => n, fun | 70 => 50 | 3 => 3 | 0 => 0 | 72 => 53 | 37 => 51 | 5 => 5 | n => n, fun | n => n⟩
theorem bLen : Go.Proofs.Lays.n170 Tryz.prog bLen_ren := {
  mixed := by kernel_rfl,
  f170 := Tryz.func21.trans (congrArg some (by kernel_rfl)),
  t0 := Tryz.underlying0,
  a0 := Tryz.isAgg0,
  z0 := Tryz.sizeOf0,
  v0 := Tryz.zeroValue0,
  t3 := Tryz.underlying3,
  a3 := Tryz.isAgg3,
  z3 := Tryz.sizeOf3,
  v3 := Tryz.zeroValue3,
  t37 := Tryz.underlying51,
  a37 := Tryz.isAgg51,
  z37 := Tryz.sizeOf51,
  v37 := Tryz.zeroValue51,
  t70 := Tryz.underlying50,
  a70 := Tryz.isAgg50,
  z70 := Tryz.sizeOf50,
  v70 := Tryz.zeroValue50,
  t72 := Tryz.underlying53,
  a72 := Tryz.isAgg53,
  z72 := Tryz.sizeOf53,
  v72 := Tryz.zeroValue53 }
end Go.Proofs.YtljaegmmfjllkaaGreatDoor
