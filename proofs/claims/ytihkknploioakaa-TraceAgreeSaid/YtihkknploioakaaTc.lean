/- Layings of slices.SortFunc's closure of functions, in plain words. No condition. -/
import Derived.Test.YtihkknploioakaaProg
import Derived.Shelf.Lays2
namespace Go.Proofs.Ytihkknploioakaa
open Go.Shelf Go.Proofs
def compactI_ren : Go.Shelf.Ren := ⟨fun | 20 => 64 | n => n, fun | 22 => 38 | 3 => 3 | 4 => 4 | 0 => 0 | n => n, fun | n => n⟩
theorem compactI : Go.Proofs.Lays2.n20 Try.prog compactI_ren := {
  mixed := by kernel_rfl,
  f20 := Try.func64.trans (congrArg some (by kernel_rfl)),
  t0 := Try.underlying0,
  a0 := Try.isAgg0,
  z0 := Try.sizeOf0,
  v0 := Try.zeroValue0,
  t3 := Try.underlying3,
  a3 := Try.isAgg3,
  z3 := Try.sizeOf3,
  v3 := Try.zeroValue3,
  t4 := Try.underlying4,
  a4 := Try.isAgg4,
  z4 := Try.sizeOf4,
  v4 := Try.zeroValue4,
  t22 := Try.underlying38,
  a22 := Try.isAgg38,
  z22 := Try.sizeOf38,
  v22 := Try.zeroValue38,
  i3 := by kernel_rfl }
end Go.Proofs.Ytihkknploioakaa
