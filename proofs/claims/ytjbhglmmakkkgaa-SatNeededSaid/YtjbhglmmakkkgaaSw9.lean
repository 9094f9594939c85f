/- Walk: the statement's power. -/
import Derived.Test.YtjbhglmmakkkgaaSw7
namespace Go.Proofs.Ytjbhglmmakkkgaa
open Go.ChangeShapes Go.WideShapes Go.ChangeAt Go.RowKit
set_option linter.unusedVariables false

theorem pow_le24 {k : Nat} (h : k ≤ 24) : (2 : Int) ^ k ≤ 16777216 ∧ 1 ≤ (2 : Int) ^ k := by
  have h1 : (2 : Nat) ^ k ≤ 2 ^ 24 := Nat.pow_le_pow_right (by decide) h
  have h2 : 1 ≤ (2 : Nat) ^ k := Nat.one_le_two_pow
  have h3 : ((2 ^ k : Nat) : Int) = (2 : Int) ^ k := by simp
  omega
theorem power_any (n : Nat) (w : World) (hn : n ≤ 24) :
    Calls Try.prog 25 #[.int .i64 (n : Int)] w fun e w' => e = .returned (.int .i64 ((2 : Int) ^ n)) ∧ w' = w := by
  go_enter Try.func25, Try.ntmps25
  go_wp2
  go_loopg [3, 5] n (fun g u3 u5 wx => ∃ (k : Nat) (p : Int), k + g = n ∧ u5 = .int .i64 k ∧ u3 = .int .i64 p ∧ w = wx ∧ Hid (p = (2 : Int) ^ k) ∧ 1 ≤ p ∧ p ≤ 16777216)
  case atStart => exact ⟨0, 1, by omega, rfl, rfl, rfl, Lib.hid rfl, by omega, by omega⟩
  case round =>
  obtain ⟨k, p, hkg, rfl, rfl, rfl, HP, hp1, hp2⟩ := hrel
  by_cases hk : k < n
  case neg =>
    have hk2 : n ≤ k := by omega
    have HF : Hid ((2 : Int) ^ n = p) := Lib.hid (by rw [HP.out, show n = k by omega])
    clear hk HP
    go_wp2
    go_ret
    exact ⟨by rw [HF.out]; rfl, rfl⟩
  have HP2 : Hid (p * 2 = (2 : Int) ^ (k + 1)) := Lib.hid (by rw [HP.out, Int.pow_succ])
  have hb := pow_le24 (k := k + 1) (by omega)
  rw [← HP2.out] at hb
  clear HP
  go_wp2
  go_roundg (gk - 1)
  case measure => omega
  case rel => exact ⟨k + 1, p * 2, by omega, by go_num, by go_num, rfl, HP2, by omega, by omega⟩
end Go.Proofs.Ytjbhglmmakkkgaa
