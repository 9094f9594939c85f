/- Walks: the statement's clause; sat.newSearch. -/
import Derived.Test.YtjbhglmmakkkgaaSw6
import Derived.Test.YtjbhglmmakkkgaaSw2
namespace Go.Proofs.Ytjbhglmmakkkgaa
open Go.ChangeShapes Go.WideShapes Go.ChangeAt Go.RowKit
set_option linter.unusedVariables false

/-- a new search lies in a block of five cells -/
def NewPost (W : World) (V : Nat) (cv : Value) (e : Ending) (w' : World) : Prop :=
  e = .returned (.pointer (some ⟨W.heap.size, 0, none⟩)) ∧ w' = W.alloc (.cells #[cv, .int .i64 V, .int .i64 (-1), .slice none 0 0, .slice none 0 0] 73)
theorem newSearch_any (V : Nat) (cv : Value) (a : Option Addr) (n c : Nat) (w : World) (h : cv = .slice a n c) (hV : V ≤ 24) :
    Calls Try.prog 48 #[.int .i64 (V : Int), cv] w (NewPost w V cv) := by
  subst h
  have hd : decide ((24 : Int) < V) = false := decide_eq_false (by omega)
  go_enter Try.func48, Try.ntmps48
  go_wp2_with fail
  go_ret
  exact ⟨rfl, rfl⟩
end Go.Proofs.Ytjbhglmmakkkgaa
