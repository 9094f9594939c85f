/- Layings of slices.SortFunc's closure of functions, in plain words. No condition. -/
import Derived.Test.YtljaegmmfjllkaaGreatDoorProg
import Derived.Shelf.Lays
namespace Go.Proofs.YtljaegmmfjllkaaGreatDoor
open Go.Shelf Go.Proofs
def bString_ren : Go.Shelf.Ren := ⟨fun | 169 => 22 | n => n, fun | 70 => 50 | 9 => 9 | 0 => 0 | 72 => 53 | 37 => 51 | 127 => 80 | 3 => 3 | 5 => 5 | n => n, fun | n => n⟩
theorem bString : Go.Proofs.Lays.n169 Tryz.prog bString_ren := {
  mixed := by kernel_rfl,
  f169 := Tryz.func22.trans (congrArg some (by kernel_rfl)),
  t0 := Tryz.underlying0,
  a0 := Tryz.isAgg0,
  z0 := Tryz.sizeOf0,
  v0 := Tryz.zeroValue0,
  t3 := Tryz.underlying3,
  a3 := Tryz.isAgg3,
  z3 := Tryz.sizeOf3,
  v3 := Tryz.zeroValue3,
  t9 := Tryz.underlying9,
  a9 := Tryz.isAgg9,
  z9 := Tryz.sizeOf9,
  v9 := Tryz.zeroValue9,
  t37 := Tryz.underlying51,
  a37 := Tryz.isAgg51,
  z37 := Tryz.sizeOf51,
  v37 := Tryz.zeroValue51,
  t70 := Tryz.underlying50,
  a70 := Tryz.isAgg50,
  z70 := Tryz.sizeOf50,
  v70 := Tryz.zeroValue50,
  t72 := Tryz.underlying53,
  a72 := Tryz.isAgg53,
  z72 := Tryz.sizeOf53,
  v72 := Tryz.zeroValue53,
  t127 := Tryz.underlying80,
  a127 := Tryz.isAgg80,
  z127 := Tryz.sizeOf80,
  v127 := Tryz.zeroValue80 }
end Go.Proofs.YtljaegmmfjllkaaGreatDoor
