/- Walk of the law DdnnfEvals. -/
import Derived.Test.YtljljagkccmogaaDw1
import Derived.Test.YtljljagkccmogaaDw7
import Derived.Test.YtljljagkccmogaaDk
import Derived.Test.YtljljagkccmogaaDf
import Derived.Test.YtljljagkccmogaaDh
import Derived.Test.YtljljagkccmogaaDl
namespace Go.Proofs.Ytljljagkccmogaa
open Go.ChangeShapes Go.WideShapes Go.ChangeAt Go.RowKit
set_option linter.unusedVariables false

theorem valid_of {vars : Int} {ps : List Part} (h0 : (checkedM ⟨vars, ps⟩).1 = 0) : 0 ≤ vars ∧ vars ≤ 40 ∧ 0 < ps.length ∧ ps.length ≤ 16384 ∧ wfGo vars.toNat ps 0 := by
  unfold checkedM at h0
  split at h0
  · cases h0
  split at h0
  · cases h0
  split at h0
  · cases h0
  rename_i g1 g2 g3
  simp only at g1 g2 g3 h0
  have := wf_of_checked vars.toNat ps [] (by rw [show ((vars.toNat : Nat) : Int) = vars by omega]; exact h0)
  exact ⟨by omega, by omega, by omega, by omega, this⟩

set_option maxRecDepth 100000 in
set_option maxHeartbeats 4000000 in
theorem evals_walk {F G : Nat → Prop} (vars : Int) (pv iv : Value) (ps : List Part) (inp : List Bool) (w : World) (hp : Parts F w pv ps) (hin : Bools G w iv inp) (hv : I64 vars) :
    Calls Try.prog 4 #[.agg #[.int .i64 vars, pv], iv] w fun e w' => e = .returned (.bool true) ∧ Below w.heap.size w w' := by
  obtain ⟨pa, pc, rfl, hlen⟩ := hp.form
  obtain ⟨ia, il, ic, rfl, HIL, hilm⟩ : ∃ a n c, iv = .slice a n c ∧ Hid (n = inp.length) ∧ n ≤ 9223372036854775807 := by
    obtain ⟨a, c, h1, h2⟩ := hin.form
    exact ⟨a, _, c, h1, rfl, h2⟩
  have hbel : Below w.heap.size w (w.alloc (.cells #[.int .i64 vars, .slice pa ps.length pc] 24)) := (Below.refl _ _).alloc (Nat.le_refl _) _
  have HB := Lib.hid hbel
  have HP := Lib.hid (hp.below hbel)
  have HIN := Lib.hid (hin.below hbel)
  clear hbel hp hin
  go_enter Try.func4, Try.ntmps4
  go_wp2_with fail
  refine (known_any _).mono ?_
  rintro e w1 ⟨rfl, hb1⟩
  have c0 := below_c hb1 (show w.heap.size < _ by simp) (o := 0) (v := .int .i64 vars) (by simp)
  have c1 := below_c hb1 (show w.heap.size < _ by simp) (o := 1) (v := .slice pa ps.length pc) (by simp)
  have HB1 : Hid (Below w.heap.size w w1) := Lib.hid (HB.out.trans (hb1.mono (by simp)))
  have HP1 := Lib.hid (HP.out.below hb1)
  have HIN1 := Lib.hid (HIN.out.below hb1)
  clear hb1
  go_wp2_with fail
  refine (few_any F vars _ ps _ HP1.out).mono ?_
  rintro e w2 ⟨rfl, hb2⟩
  have hs2 := block_lt c0
  have d0 := below_c hb2 hs2 c0
  have d1 := below_c hb2 hs2 c1
  have HB2 : Hid (Below w.heap.size w w2) := Lib.hid (HB1.out.trans (hb2.mono HB1.out.size))
  have HP2 := Lib.hid (HP1.out.below hb2)
  have HIN2 := Lib.hid (HIN1.out.below hb2)
  have hs3 := block_lt d0
  clear hb2 c0 c1 hs2
  rcases hf : few ps with _ | _
  · go_wp2_with fail
    go_ret
    exact ⟨rfl, HB2.out⟩
  by_cases h60 : 60 < il
  · go_wp2_with fail
    go_ret
    exact ⟨rfl, HB2.out⟩
  go_wp2_with fail
  refine (Eval_any vars _ _ ps inp w2 HP2.out HIN2.out hv (by have := HIL.out; omega)).mono ?_
  rintro e w3 ⟨rfl, hb3⟩
  have q0 := below_c hb3 hs3 d0
  have q1 := below_c hb3 hs3 d1
  have HB3 : Hid (Below w.heap.size w w3) := Lib.hid (HB2.out.trans (hb3.mono HB2.out.size))
  have HP3 := Lib.hid (HP2.out.below hb3)
  have HIN3 := Lib.hid (HIN2.out.below hb3)
  have hs4 := block_lt q0
  clear hb3 d0 d1 hs3 hf
  obtain ⟨M, hM⟩ : ∃ M, checkedM ⟨vars, ps⟩ = M := ⟨_, rfl⟩
  have hE : evalA ⟨vars, ps⟩ inp = if M.1 ≠ 0 then (false, M.1) else if (inp.length : Int) ≠ vars then (false, 2) else (evalM ps inp, 0) := by rw [← hM]; rfl
  have hL : checkL ⟨vars, ps⟩ = M.1 := by rw [← check_eq, hM]
  have HV := Lib.hid (fun h : M.1 = 0 => valid_of (vars := vars) (ps := ps) (by rw [hM]; exact h))
  have hck := check_any F vars _ ps w3 HP3.out hv
  rw [hL] at hck
  have HCK := Lib.hid hck
  have HE := Lib.hid hE
  clear hM hE hL hck
  obtain ⟨c, ms⟩ := M
  simp only at HE HV HCK
  by_cases hc : c = 0
  case neg =>
    have hEE : evalA ⟨vars, ps⟩ inp = (false, c) := by rw [HE.out]; simp [hc]
    have hne : (c != 0) = true := by simp [hc]
    have hne2 : (c == 0) = false := by simp [hc]
    rw [hEE]
    clear hEE hc
    go_wp2_with fail
    refine HCK.out.mono ?_
    rintro e w4 ⟨rfl, hb4⟩
    have HB4 : Hid (Below w.heap.size w w4) := Lib.hid (HB3.out.trans (hb4.mono HB3.out.size))
    clear hb4
    go_wp2_with fail
    go_ret
    exact ⟨by simp, HB4.out⟩
  subst hc
  obtain ⟨hv0, hv40, h0, hps, hwf⟩ := HV.out rfl
  obtain ⟨V, rfl⟩ := Int.eq_ofNat_of_zero_le hv0
  have HWF := Lib.hid hwf
  clear hwf
  by_cases hl : inp.length = V
  case neg =>
    have hEE : evalA ⟨V, ps⟩ inp = (false, 2) := by rw [HE.out]; simp; omega
    have hne : ((il : Int) != (V : Int)) = true := by rw [bne_iff_ne]; have := HIL.out; omega
    rw [hEE]
    clear hEE hl
    go_wp2_with fail
    refine HCK.out.mono ?_
    rintro e w4 ⟨rfl, hb4⟩
    have HB4 : Hid (Below w.heap.size w w4) := Lib.hid (HB3.out.trans (hb4.mono HB3.out.size))
    have r0 := below_c hb4 hs4 q0
    have r1 := below_c hb4 hs4 q1
    clear hb4
    go_wp2_with fail
    go_ret
    exact ⟨rfl, HB4.out⟩
  have hEE : evalA ⟨V, ps⟩ inp = (evalM ps inp, 0) := by rw [HE.out]; simp [hl]
  have hne : ((il : Int) != (V : Int)) = false := by rw [bne_eq_false_iff_eq]; have := HIL.out; omega
  have HW2 : Hid (wfGo inp.length ps 0) := Lib.hid (by rw [hl]; exact HWF.out)
  rw [hEE]
  clear hEE hl
  go_wp2_with fail
  refine HCK.out.mono ?_
  rintro e w4 ⟨rfl, hb4⟩
  have HB4 : Hid (Below w.heap.size w w4) := Lib.hid (HB3.out.trans (hb4.mono HB3.out.size))
  have r0 := below_c hb4 hs4 q0
  have r1 := below_c hb4 hs4 q1
  have HP4 := Lib.hid (HP3.out.below hb4)
  have HIN4 := Lib.hid (HIN3.out.below hb4)
  clear hb4
  go_wp2_with fail
  refine (holds_any V _ _ ps inp w4 HP4.out HIN4.out h0 hps HW2.out (by have := HIL.out; omega)).mono ?_
  rintro e w5 ⟨rfl, hb5⟩
  have HB5 : Hid (Below w.heap.size w w5) := Lib.hid (HB4.out.trans (hb5.mono HB4.out.size))
  clear hb5
  go_wp2_with fail
  go_ret
  exact ⟨by simp, HB5.out⟩
end Go.Proofs.Ytljljagkccmogaa
