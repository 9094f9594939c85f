/- Laying: SortFunc with the statement's comparer of clauses. No condition but the lengths. -/
import Derived.Test.YtihkknploioakaaGreatKj
import Derived.Test.YtihkknploioakaaGreatKi
namespace Go.Proofs.YtihkknploioakaaGreat
open Go.ChangeShapes Go.WideShapes Go.ChangeAt Go.RowKit
set_option linter.unusedVariables false

theorem lsortcls_own (w : World) (base : Nat) (v : Value) (ps : List (Value × List Int)) (hown : w.ownsRow base 40 1 v ps.length (ps.map Prod.fst)) (hps : ∀ p ∈ ps, Ints (fun b => v.ownBlock ≠ some b) w p.1 p.2) (hl : ps.length ≤ 1048576) :
    Calls Tryz.prog 67 #[v, .func (.func 68) #[] #[]] w (SortedRows w base v ps) :=
  sortrows _ (enters_of Tryz.func68 (by kernel_rfl) rfl) (fun v u xs ys w hx hy => lcompare_any v u xs ys w hx hy) w base v ps hown hps hl
end Go.Proofs.YtihkknploioakaaGreat
