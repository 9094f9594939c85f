/- The value of a normal form, as plain Lean. No program in sight. -/
import Derived.Test.YteadlkecngfcoaaGreatDoorDd
namespace Go.Proofs.YteadlkecngfcoaaGreatDoor

def allGo (vs : List Bool) : List Int → Bool → Bool
  | [], b => b
  | k :: r, b => allGo vs r (b && vs.getD k.toNat false)
def evalStep (inp : List Bool) (p : Part) (vs : List Bool) : Bool :=
  if p.kind = 1 then false
  else if p.kind = 2 then inp.getD (p.lit.natAbs - 1) false == decide (0 < p.lit)
  else if p.kind = 3 then allGo vs p.kids true
  else if p.kind = 4 then (if inp.getD (p.lit.toNat - 1) false then vs.getD (p.kids.getD 1 0).toNat false else vs.getD (p.kids.getD 0 0).toNat false)
  else true
def evalGo (inp : List Bool) : List Part → List Bool → List Bool
  | [], vs => vs
  | p :: r, vs => evalGo inp r (vs ++ [evalStep inp p vs])
def evalM (ps : List Part) (inp : List Bool) : Bool := (evalGo inp ps []).getD (ps.length - 1) false

/-- the form of a part that a walk over a valid normal form needs -/
def wfPart (V i : Nat) (p : Part) : Prop :=
  0 ≤ p.kind ∧ p.kind ≤ 4 ∧ (∀ k ∈ p.kids, 0 ≤ k ∧ k < (i : Int)) ∧ (p.kind = 2 → p.lit ≠ 0 ∧ -(V : Int) ≤ p.lit ∧ p.lit ≤ V) ∧ (p.kind = 4 → 1 ≤ p.lit ∧ p.lit ≤ V ∧ p.kids.length = 2)
def wfGo (V : Nat) : List Part → Nat → Prop
  | [], _ => True
  | p :: r, i => wfPart V i p ∧ wfGo V r (i + 1)
theorem wf_of_checked (V : Nat) : ∀ (ps : List Part) (ms : List Nat), (checkedGo V ps ms).1 = 0 → wfGo V ps ms.length
  | [], _, _ => trivial
  | p :: r, ms, h => by
    simp only [checkedGo] at h
    by_cases h1 : shapedM p V ≠ 0
    · rw [if_pos h1] at h; exact absurd h h1
    rw [if_neg h1] at h
    by_cases h2 : (p.kids.any fun k => decide (k < 0 ∨ (ms.length : Int) ≤ k)) = true
    · rw [if_pos h2] at h; cases h
    rw [if_neg h2] at h
    cases hm : maskM p ms with
    | none => rw [hm] at h; cases h
    | some m =>
      rw [hm] at h
      simp only at h
      have hr := wf_of_checked V r (ms ++ [m]) h
      simp only [List.length_append, List.length_cons, List.length_nil] at hr
      refine ⟨?_, hr⟩
      have hs : shapedM p V = 0 := by simpa using h1
      unfold shapedM shapedK at hs
      have hk : ∀ k ∈ p.kids, 0 ≤ k ∧ k < (ms.length : Int) := by
        intro k hk
        have := List.any_eq_false.1 (Bool.eq_false_iff.2 h2) k hk
        simp at this
        omega
      split at hs
      · cases hs
      · split at hs
        · cases hs
        · exact ⟨by omega, by omega, hk, by omega, by omega⟩
end Go.Proofs.YteadlkecngfcoaaGreatDoor
