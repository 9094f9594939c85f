/- Walks of layer 33: Check. -/
import Derived.Test.YteadlkecngfcoaaGreatDoorDw3
namespace Go.Proofs.YteadlkecngfcoaaGreatDoor
open Go.ChangeShapes Go.WideShapes Go.ChangeAt Go.RowKit
set_option linter.unusedVariables false

set_option maxHeartbeats 1000000 in
theorem Check_any (F : Nat → Prop) (vars : Int) (pv : Value) (ps : List Part) (w : World) (hp : Parts F w pv ps) (hv : I64 vars) :
    Calls Tryz.prog 13 #[.agg #[.int .i64 vars, pv]] w fun e w' => e = .returned (.int .i64 (checkedM ⟨vars, ps⟩).1) ∧ Below w.heap.size w w' := by
  obtain ⟨pa, pc, rfl, hlen⟩ := hp.form
  have hbel : Below w.heap.size w (w.alloc (.cells #[.int .i64 vars, .slice pa ps.length pc] 29)) := (Below.refl _ _).alloc (Nat.le_refl _) _
  have HB := Lib.hid hbel
  have hp1 := hp.below hbel
  clear hbel
  go_enter Tryz.func13, Tryz.ntmps13
  go_wp2_with fail
  refine (checked_any F vars _ ps _ hp1 hv).mono ?_
  rintro e w1 ⟨fv, rfl, hb1, _, _⟩
  have HB1 := Lib.hid hb1
  clear hb1
  go_wp2_with fail
  go_ret
  exact ⟨rfl, HB.out.trans (HB1.out.mono (by simp))⟩
end Go.Proofs.YteadlkecngfcoaaGreatDoor
