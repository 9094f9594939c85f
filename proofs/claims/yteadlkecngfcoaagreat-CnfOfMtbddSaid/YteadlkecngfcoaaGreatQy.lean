/- Plain: what bdd.Check's code 0 says. -/
import Derived.Test.YteadlkecngfcoaaGreatQf
namespace Go.Proofs.YteadlkecngfcoaaGreat
open Go.ChangeShapes Go.WideShapes Go.ChangeAt Go.RowKit
set_option linter.unusedVariables false

theorem frmGo_vars {vars : Int} {all : List Fork} : ∀ (r : List Fork) (i : Nat), frmGo vars all r i = true → ∀ f ∈ r, 0 ≤ f.1 ∧ f.1 < vars
  | [], i, _, f, hf => by cases hf
  | g :: r, i, h, f, hf => by
    rw [frmGo] at h
    split at h
    · cases h
    rename_i hn
    rw [Bool.and_eq_true] at h
    rcases List.mem_cons.1 hf with rfl | hf
    · exact ⟨by omega, by omega⟩
    · exact frmGo_vars r (i + 1) h.2 f hf
theorem bdd_ok {vars root : Int} {ns : List Fork} (h : bddM vars root ns = 0) : 0 ≤ vars ∧ vars ≤ 40 ∧ ns.length ≤ 4096 ∧ Back ns ∧ (0 ≤ root ∧ root ≤ 1 + ns.length) ∧ ∀ f ∈ ns, 0 ≤ f.1 ∧ f.1 < vars := by
  unfold bddM at h
  split at h
  · cases h
  split at h
  · cases h
  split at h
  · cases h
  rename_i h1 h2 h3
  have h4 : frmM vars ns root = true := by simpa using h3
  obtain ⟨b1, b2⟩ := frm_back h4
  refine ⟨by omega, by omega, by omega, b1, b2, ?_⟩
  unfold frmM at h4
  simp only [Bool.and_eq_true] at h4
  exact frmGo_vars ns 0 h4.1
end Go.Proofs.YteadlkecngfcoaaGreat
