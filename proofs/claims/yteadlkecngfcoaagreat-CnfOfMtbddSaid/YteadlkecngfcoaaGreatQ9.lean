/- Keys of a map: ints; bools as elements. No condition. -/
import Derived.Test.YteadlkecngfcoaaGreatKa
import Derived.Maps.OwnSet
namespace Go.Proofs.YteadlkecngfcoaaGreat
open Go.ChangeShapes Go.WideShapes Go.ChangeAt Go.RowKit
set_option linter.unusedVariables false

theorem I64_wf {n : Int} (h : I64 n) : (Lit.int .i64 n).wf = true := by
  obtain ⟨h1, h2⟩ := h
  simp [Lit.wf, IntKind.min, IntKind.max, IntKind.signed, IntKind.bits]
  omega
theorem law_int : Maps.Keyed Tryz.prog 3 := Maps.int_keyed Tryz.underlying3
theorem keyOf_i {x : Int} (h : I64 x) : keyOf Tryz.prog 3 (.int .i64 x) = some (.int .i64 x) := Maps.keyOf_int_mk Tryz.underlying3 (I64_wf h)
theorem plainElem_bool_inv {P : Program} {e : TypeId} (he : P.underlying e = some .bool) {v : Value} {z : DataW Unit × List MemPlace} (h : plainElem P e v = some z) : ∃ x, v = .bool x ∧ z = (.lit (.bool x), []) := by
  unfold plainElem at h
  rw [he] at h
  cases v <;> simp at h
  exact ⟨_, rfl, h.symm⟩
end Go.Proofs.YteadlkecngfcoaaGreat
