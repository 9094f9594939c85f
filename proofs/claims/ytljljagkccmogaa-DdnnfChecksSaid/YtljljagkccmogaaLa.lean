/- Walk of the law DdnnfChecks. -/
import Derived.Test.YtljljagkccmogaaDw1
import Derived.Test.YtljljagkccmogaaDw4
import Derived.Test.YtljljagkccmogaaDw7
import Derived.Test.YtljljagkccmogaaDk
import Derived.Deep.RegionWith
namespace Go.Proofs.Ytljljagkccmogaa
open Go.ChangeShapes Go.WideShapes Go.ChangeAt Go.RowKit
set_option linter.unusedVariables false

set_option maxRecDepth 100000 in
set_option maxHeartbeats 4000000 in
theorem checks_walk (F : Nat → Prop) (vars : Int) (pv : Value) (ps : List Part) (w : World) (hp : Parts F w pv ps) (hv : I64 vars) (heq : (checkedM ⟨vars, ps⟩).1 = checkL ⟨vars, ps⟩) :
    Calls Try.prog 3 #[.agg #[.int .i64 vars, pv]] w fun e w' => e = .returned (.bool true) ∧ Below w.heap.size w w' := by
  obtain ⟨pa, pc, rfl, hlen⟩ := hp.form
  have hbel : Below w.heap.size w (w.alloc (.cells #[.int .i64 vars, .slice pa ps.length pc] 24)) := (Below.refl _ _).alloc (Nat.le_refl _) _
  have HB := Lib.hid hbel
  have HP := Lib.hid (hp.below hbel)
  have HEQ := Lib.hid heq
  clear hbel heq hp
  go_enter Try.func3, Try.ntmps3
  go_wp2_with fail
  refine (known_any _).mono ?_
  rintro e w1 ⟨rfl, hb1⟩
  have c0 := below_c hb1 (show w.heap.size < _ by simp) (o := 0) (v := .int .i64 vars) (by simp)
  have c1 := below_c hb1 (show w.heap.size < _ by simp) (o := 1) (v := .slice pa ps.length pc) (by simp)
  have HB1 : Hid (Below w.heap.size w w1) := Lib.hid (HB.out.trans (hb1.mono (by simp)))
  have HP1 := Lib.hid (HP.out.below hb1)
  clear hb1
  go_wp2_with fail
  refine (few_any F vars _ ps _ HP1.out).mono ?_
  rintro e w2 ⟨rfl, hb2⟩
  have hs2 := block_lt c0
  have d0 := below_c hb2 hs2 c0
  have d1 := below_c hb2 hs2 c1
  have HB2 : Hid (Below w.heap.size w w2) := Lib.hid (HB1.out.trans (hb2.mono HB1.out.size))
  have HP2 := Lib.hid (HP1.out.below hb2)
  have hs3 := block_lt d0
  clear hb2 c0 c1 hs2
  rcases hf : few ps with _ | _
  · go_wp2_with fail
    go_ret
    exact ⟨rfl, HB2.out⟩
  · go_upto_region 5 with fail
    have hb2d : Below w2.heap.size w2 w2.drew := (Below.refl _ _).drew
    have HP2d := Lib.hid (HP2.out.below hb2d)
    have HB2d : Hid (Below w.heap.size w w2.drew) := Lib.hid HB2.out.drew
    have d0' : w2.drew.cell? ⟨w.heap.size, 0, none⟩ = some (.int .i64 vars) := d0
    have d1' : w2.drew.cell? ⟨w.heap.size, 1, none⟩ = some (.slice pa ps.length pc) := d1
    have hs3' : w.heap.size < w2.drew.heap.size := hs3
    clear hb2d
    go_region_with (first
      | (go_at_call 12; refine (Check_any F vars _ ps _ HP2d.out hv).mono ?_; rintro e w3 ⟨rfl, hb3⟩; have q0 := below_c hb3 hs3' d0'; have q1 := below_c hb3 hs3' d1'; have HB3 := Lib.hid (HB2d.out.trans (hb3.mono HB2d.out.size)); have HP3 := Lib.hid (HP2d.out.below hb3); clear hb3)
      | (go_at_call 13; refine (check_any F vars _ ps _ HP3.out hv).mono ?_; rintro e w4 ⟨rfl, hb4⟩; have HB4 := Lib.hid (HB3.out.trans (hb4.mono HB3.out.size)); clear hb4))
    all_goals
      go_wp2_with fail
      go_ret
      refine ⟨?_, HB4.out⟩
      show Ending.returned (.bool ((checkedM ⟨vars, ps⟩).1 == checkL ⟨vars, ps⟩)) = _
      rw [HEQ.out]
      simp
end Go.Proofs.Ytljljagkccmogaa
