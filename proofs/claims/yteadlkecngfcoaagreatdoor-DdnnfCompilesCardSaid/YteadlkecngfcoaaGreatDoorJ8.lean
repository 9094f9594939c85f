/- (Ddnnf) The listed tables: what a row's condition gives the walks, and that the door's own heap meets it. Condition: the tables lie as laid. -/
import Derived.Test.YteadlkecngfcoaaGreatDoorJ2
import Derived.Test.YteadlkecngfcoaaGreatDoorPb
import Derived.Test.YteadlkecngfcoaaGreatDoorRows
import Derived.Lib.LaidTab
import Derived.LaidMore
import Derived.LaidSub
import Derived.Stop.Joined
namespace Go.Proofs.YteadlkecngfcoaaGreatDoor
open Go.ChangeShapes Go.WideShapes Go.ChangeAt Go.RowKit
set_option linter.unusedVariables false

def laid3 : List (String × DataW Unit) := [("math/bits.deBruijn32tab", Rows.laid_math_bits_deBruijn32tab), ("math/bits.deBruijn64tab", Rows.laid_math_bits_deBruijn64tab), ("internal/strconv.uint64pow10", Rows.laid_internal_strconv_uint64pow10)]
theorem gPow : Tryz.prog.globalNamed "internal/strconv.uint64pow10" = some 0 := by kernel_rfl
theorem tPow : (Tryz.prog.globals[0]?).map (·.type) = some 116 := by kernel_rfl
/-- what the condition gives the walks -/
theorem tab_of {W : World} (h : laidMetH Tryz.prog laid3 W) : TabT W.heap.size W := by
  have h1 := laidMetH.filter (fun x => x.1 == "internal/strconv.uint64pow10") h
  have e : laid3.filter (fun x => x.1 == "internal/strconv.uint64pow10") = [("internal/strconv.uint64pow10", Lib.tabData .u64 Lib.pow10Tab)] := by rfl
  rw [e] at h1
  rw [MakeChecks.laidMetH_plain _ _ _ (by kernel_rfl)] at h1
  exact Lib.tabBelow_of_tabIs (Lib.tabIs_of_head gPow tPow Tryz.underlying116 Tryz.underlying65 (by kernel_rfl) (by kernel_rfl) h1)
/-- the door's own heap meets the condition -/
theorem door_met (os : Os) (args : Array Value) : laidMetH Tryz.prog laid3 ((World.doorLaid Tryz.prog 400 os).forCall (fun _ _ => 0) ⟨#[], args, []⟩).memory := by
  rw [MakeChecks.laidMetH_plain _ _ _ (by kernel_rfl)]
  exact laidMet_of_run' 8 (by kernel_rfl) (by kernel_rfl)
end Go.Proofs.YteadlkecngfcoaaGreatDoor
