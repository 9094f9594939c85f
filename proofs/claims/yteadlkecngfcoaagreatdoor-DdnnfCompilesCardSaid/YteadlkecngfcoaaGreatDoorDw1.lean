/- Walks of layer 33: shaped. -/
import Derived.Test.YteadlkecngfcoaaGreatDoorChecked
import Derived.Test.YteadlkecngfcoaaGreatDoorDd
namespace Go.Proofs.YteadlkecngfcoaaGreatDoor
open Go.ChangeShapes Go.WideShapes Go.ChangeAt Go.RowKit
set_option linter.unusedVariables false

set_option maxHeartbeats 4000000 in
theorem shaped_any (F : Nat → Prop) (p : Part) (kv : Value) (vars : Int) (w : World) (hk : Ints F w kv p.kids) (hv0 : 0 ≤ vars) (hv1 : vars ≤ 40) (i1 : I64 p.kind) (i2 : I64 p.lit) :
    Calls Tryz.prog 32 #[.agg #[.int .i64 p.kind, .int .i64 p.lit, kv], .int .i64 vars] w fun e w' => e = .returned (.int .i64 (shapedM p vars)) ∧ Below w.heap.size w w' := by
  obtain ⟨kind, lit, kids⟩ := p
  obtain ⟨ka, kc, rfl, hkl⟩ := hk.form
  simp only at i1 i2 hk hkl ⊢
  clear hk
  show Calls _ _ _ _ fun e w' => e = .returned (.int .i64 (shapedK kind lit kids.length vars)) ∧ _
  generalize kids.length = n at *
  obtain ⟨i11, i12⟩ := i1
  obtain ⟨i21, i22⟩ := i2
  have hb : ∀ kd lt, Below w.heap.size w (w.alloc (.cells #[.int .i64 kd, .int .i64 lt, .slice ka n kc] 43)) := fun _ _ => (Below.refl _ _).alloc (Nat.le_refl _) _
  have HB := Lib.hid hb
  clear hb
  by_cases hlo : kind < 0
  · go_enter Tryz.func32, Tryz.ntmps32
    go_wp2
    go_ret
    refine ⟨?_, HB.out _ _⟩
    simp [shapedK, hlo]
  by_cases hhi : 4 < kind
  · go_enter Tryz.func32, Tryz.ntmps32
    go_wp2
    go_ret
    refine ⟨?_, HB.out _ _⟩
    simp [shapedK, hhi]
  have hcase : kind = 0 ∨ kind = 1 ∨ kind = 2 ∨ kind = 3 ∨ kind = 4 := by omega
  clear hlo hhi i11 i12
  rcases hcase with rfl | rfl | rfl | rfl | rfl
  all_goals
    go_enter Tryz.func32, Tryz.ntmps32
    go_wp2
    all_goals
      go_ret
      refine ⟨?_, HB.out _ _⟩
      simp_all [shapedK]
      try omega
end Go.Proofs.YteadlkecngfcoaaGreatDoor
