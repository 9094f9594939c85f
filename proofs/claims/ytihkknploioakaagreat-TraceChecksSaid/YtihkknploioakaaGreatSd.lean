/- The data of layer 31 as plain Lean, and what the walked functions compute. No program in sight. -/
import Derived.Test.YtihkknploioakaaGreatBase
namespace Go.Proofs.YtihkknploioakaaGreat
open Go.RowKit

/-- a slice of clauses -/
abbrev Clss (F : Nat → Prop) (w : World) (v : Value) (cs : List (List Int)) : Prop := Rows1 Ints F w v cs
theorem Clss.below {F : Nat → Prop} {w w' : World} {v : Value} {cs : List (List Int)} (h : Clss F w v cs) (hb : Below w.heap.size w w') : Clss F w' v cs :=
  h.move (fun _ _ _ _ _ h hm => h.move hm) fun b _ hlt => hb.block b hlt
theorem Clss.form' {F : Nat → Prop} {w : World} {v : Value} {cs : List (List Int)} (h : Clss F w v cs) : ∃ a n cap, v = .slice a n cap ∧ Hid (n = cs.length) ∧ n ≤ 9223372036854775807 := by
  obtain ⟨a, cap, h1, h2⟩ := h.form
  exact ⟨a, _, cap, h1, rfl, h2⟩
/-- the rest of a list from k on, where k is within it -/
theorem drop_at {α : Type} {xs : List α} {k : Nat} (h : k < xs.length) : ∃ x, xs[k]? = some x ∧ xs.drop k = x :: xs.drop (k + 1) :=
  ⟨xs[k], List.getElem?_eq_getElem h, List.drop_eq_getElem_cons h⟩

/-- literal -/
def litB (vars n : Int) : Bool := decide (n ≠ 0) && decide (-vars ≤ n) && decide (n ≤ vars)
/-- variable -/
def varM (n : Int) : Int := if n < 0 then -n else n
/-- short -/
def shortM (cs : List (List Int)) (most : Int) : Bool := cs.all fun x => decide ((x.length : Int) ≤ most + 2)
/-- few -/
def fewM (vars : Int) (cs : List (List Int)) (v n : Int) : Bool := decide (vars ≤ v) && decide ((cs.length : Int) ≤ n) && shortM cs v
end Go.Proofs.YtihkknploioakaaGreat
