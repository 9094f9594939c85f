/- Plain: the numbers a + 1, .., a + m. -/
import Derived.Test.YthanfjpmcckbhaaGreatDoorBase
namespace Go.Proofs.YthanfjpmcckbhaaGreatDoor
set_option linter.unusedVariables false

/-- a + 1, .., a + m -/
def ivl (a : Int) : Nat → List Int
  | 0 => []
  | m + 1 => (a + 1) :: ivl (a + 1) m
theorem ivl_mem : ∀ (m : Nat) (a v : Int), v ∈ ivl a m ↔ a < v ∧ v ≤ a + m
  | 0, a, v => by
    rw [ivl]
    constructor
    · intro h; cases h
    · omega
  | m + 1, a, v => by rw [ivl, List.mem_cons, ivl_mem m]; omega
theorem ivl_nodup : ∀ (m : Nat) (a : Int), (ivl a m).Nodup
  | 0, a => List.nodup_nil
  | m + 1, a => List.nodup_cons.2 ⟨by rw [ivl_mem]; omega, ivl_nodup m _⟩
theorem ivl_len : ∀ (m : Nat) (a : Int), (ivl a m).length = m
  | 0, a => rfl
  | m + 1, a => by rw [ivl, List.length_cons, ivl_len m]
theorem ivl_succ : ∀ (m : Nat) (a : Int), ivl a (m + 1) = ivl a m ++ [a + m + 1]
  | 0, a => by simp [ivl]
  | m + 1, a => by
    rw [ivl, ivl_succ m, ivl, show a + 1 + (m : Int) + 1 = a + ((m + 1 : Nat) : Int) + 1 by omega]
    rfl
end Go.Proofs.YthanfjpmcckbhaaGreatDoor
