/- Walk: fit. -/
import Derived.Test.YtljljagkccmogaaCp
import Derived.Test.YtljljagkccmogaaDw1
import Derived.Test.YtljljagkccmogaaDw7
namespace Go.Proofs.Ytljljagkccmogaa
open Go.ChangeShapes Go.WideShapes Go.ChangeAt Go.RowKit
set_option linter.unusedVariables false

def fitB (d : Dnnf) : Bool := few d.parts && (decide (d.vars ≤ 8) && (checkL d == 0))

set_option maxHeartbeats 1000000 in
theorem fit_any (F : Nat → Prop) (vars : Int) (pv : Value) (ps : List Part) (w : World) (hp : Parts F w pv ps) (hv : I64 vars) :
    Calls Try.prog 20 #[.agg #[.int .i64 vars, pv]] w fun e w' => e = .returned (.bool (fitB ⟨vars, ps⟩)) ∧ Below w.heap.size w w' := by
  obtain ⟨pa, pc, rfl, hlen⟩ := hp.form
  have hbel : Below w.heap.size w (w.alloc (.cells #[.int .i64 vars, .slice pa ps.length pc] 24)) := (Below.refl _ _).alloc (Nat.le_refl _) _
  have HB := Lib.hid hbel
  have HP := Lib.hid (hp.below hbel)
  obtain ⟨A, hA⟩ : ∃ A, fitB ⟨vars, ps⟩ = A := ⟨_, rfl⟩
  obtain ⟨C, hC⟩ : ∃ C, checkL ⟨vars, ps⟩ = C := ⟨_, rfl⟩
  have HA : Hid (A = (few ps && (decide (vars ≤ 8) && (C == 0)))) := Lib.hid (by rw [← hA, ← hC]; rfl)
  have hck := fun (w : World) (h : Parts F w (.slice pa ps.length pc) ps) => check_any F vars _ ps w h hv
  rw [hC] at hck
  rw [hA]
  have HCK := Lib.hid hck
  clear hbel hp hA hC hck
  go_enter Try.func20, Try.ntmps20
  go_wp2_with fail
  refine (few_any F vars _ ps _ HP.out).mono ?_
  rintro e w1 ⟨rfl, hb1⟩
  have c0 := below_c hb1 (show w.heap.size < _ by simp) (o := 0) (v := .int .i64 vars) (by simp)
  have c1 := below_c hb1 (show w.heap.size < _ by simp) (o := 1) (v := .slice pa ps.length pc) (by simp)
  have HB1 : Hid (Below w.heap.size w w1) := Lib.hid (HB.out.trans (hb1.mono (by simp)))
  have HP1 := Lib.hid (HP.out.below hb1)
  clear hb1
  rcases hf : few ps with _ | _
  · go_wp2_with fail
    go_ret
    exact ⟨by rw [HA.out, hf]; rfl, HB1.out⟩
  by_cases h8 : vars ≤ 8
  · go_wp2_with fail
    refine (HCK.out _ HP1.out).mono ?_
    rintro e w2 ⟨rfl, hb2⟩
    have HB2 : Hid (Below w.heap.size w w2) := Lib.hid (HB1.out.trans (hb2.mono HB1.out.size))
    clear hb2
    go_wp2_with fail
    go_ret
    exact ⟨by rw [HA.out, hf]; simp [h8], HB2.out⟩
  · go_wp2_with fail
    go_ret
    exact ⟨by rw [HA.out, hf]; simp; omega, HB1.out⟩
end Go.Proofs.Ytljljagkccmogaa
