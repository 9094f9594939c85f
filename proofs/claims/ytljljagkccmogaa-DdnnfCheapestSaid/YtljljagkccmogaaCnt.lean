/- Plain: numbers of bits of unions and differences. No program in sight. -/
import Derived.Test.YtljljagkccmogaaPop
namespace Go.Proofs.Ytljljagkccmogaa
namespace Pop

theorem mod2_testBit (a : Nat) : a % 2 = (a.testBit 0).toNat := by
  rw [Nat.testBit_zero]
  rcases Nat.mod_two_eq_zero_or_one a with h | h <;> simp [h]
theorem or_div2 (a b : Nat) : (a ||| b) / 2 = a / 2 ||| b / 2 := Nat.or_div_two
theorem and_div2 (a b : Nat) : (a &&& b) / 2 = a / 2 &&& b / 2 := Nat.and_div_two
theorem pop_or : ∀ (n a b : Nat), a &&& b = 0 → pop n (a ||| b) = pop n a + pop n b
  | 0, _, _, _ => rfl
  | n + 1, a, b, h => by
    simp only [pop]
    rw [or_div2, pop_or n (a / 2) (b / 2) (by rw [← and_div2, h]), mod2_testBit, mod2_testBit a, mod2_testBit b, Nat.testBit_or]
    have h0 : (a.testBit 0 && b.testBit 0) = false := by rw [← Nat.testBit_and, h]; simp
    cases ha : a.testBit 0 <;> cases hb : b.testBit 0 <;> simp_all <;> omega
theorem pop_zero : ∀ n, pop n 0 = 0
  | 0 => rfl
  | n + 1 => by simp [pop, pop_zero n]
end Pop
end Go.Proofs.Ytljljagkccmogaa
