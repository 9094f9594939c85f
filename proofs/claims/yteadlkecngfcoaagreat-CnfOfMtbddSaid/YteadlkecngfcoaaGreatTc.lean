/- Layings of slices.SortFunc's closure of functions, in plain words. No condition. -/
import Derived.Test.YteadlkecngfcoaaGreatProg
import Derived.Shelf.Lays2
namespace Go.Proofs.YteadlkecngfcoaaGreat
open Go.Shelf Go.Proofs
def compactI_ren : Go.Shelf.Ren := ⟨fun | 20 => 45 | n => n, fun | 22 => 22 | 3 => 3 | 4 => 4 | 0 => 0 | n => n, fun | n => n⟩
theorem compactI : Go.Proofs.Lays2.n20 Tryz.prog compactI_ren := {
  mixed := by kernel_rfl,
  f20 := Tryz.func45.trans (congrArg some (by kernel_rfl)),
  t0 := Tryz.underlying0,
  a0 := Tryz.isAgg0,
  z0 := Tryz.sizeOf0,
  v0 := Tryz.zeroValue0,
  t3 := Tryz.underlying3,
  a3 := Tryz.isAgg3,
  z3 := Tryz.sizeOf3,
  v3 := Tryz.zeroValue3,
  t4 := Tryz.underlying4,
  a4 := Tryz.isAgg4,
  z4 := Tryz.sizeOf4,
  v4 := Tryz.zeroValue4,
  t22 := Tryz.underlying22,
  a22 := Tryz.isAgg22,
  z22 := Tryz.sizeOf22,
  v22 := Tryz.zeroValue22,
  i3 := by kernel_rfl }
end Go.Proofs.YteadlkecngfcoaaGreat
