/- Walk: cnf.magnitude, for every int. -/
import Derived.Test.YtjbhglmmakkkgaaSw9
namespace Go.Proofs.Ytjbhglmmakkkgaa
open Go.ChangeShapes Go.WideShapes Go.ChangeAt Go.RowKit
set_option linter.unusedVariables false

theorem magnitude_any (n : Int) (w : World) (h : I64 n) :
    Calls Try.prog 55 #[.int .i64 n] w fun e w' => e = .returned (.int .u64 (varM n)) ∧ w' = w := by
  obtain ⟨i1, i2⟩ := h
  by_cases h0 : n < 0
  · have HV : Hid (varM n = -n) := Lib.hid (by unfold varM; rw [if_pos h0])
    have hd : decide (n < 0) = true := decide_eq_true h0
    go_enter Try.func55, Try.ntmps55
    go_wp2
    go_ret
    refine ⟨?_, rfl⟩
    rw [HV.out]
    have hw : IntKind.u64.wrap (-IntKind.u64.wrap n) = -n := by
      simp [IntKind.wrap, IntKind.bits, IntKind.signed]
      omega
    go_num
  · have HV : Hid (varM n = n) := Lib.hid (by unfold varM; rw [if_neg h0])
    have hd : decide (n < 0) = false := decide_eq_false h0
    go_enter Try.func55, Try.ntmps55
    go_wp2
    go_ret
    refine ⟨?_, rfl⟩
    rw [HV.out]
    go_num
end Go.Proofs.Ytjbhglmmakkkgaa
