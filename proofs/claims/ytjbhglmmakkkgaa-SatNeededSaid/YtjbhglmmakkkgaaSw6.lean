/- Walks: few, cmp.Compare of uint64, newSearch. -/
import Derived.Test.YtjbhglmmakkkgaaSw5
import Derived.Test.YtjbhglmmakkkgaaSw1
namespace Go.Proofs.Ytjbhglmmakkkgaa
open Go.ChangeShapes Go.WideShapes Go.ChangeAt Go.RowKit
set_option linter.unusedVariables false

theorem compare64_any (x y : Int) (w : World) : Calls Try.prog 64 #[.int .u64 x, .int .u64 y] w fun e w' => e = .returned (.int .i64 (cmpM x y)) ∧ w' = w := by
  rcases Int.lt_trichotomy x y with h | h | h
  · have hd : decide (x < y) = true := decide_eq_true h
    rw [show cmpM x y = -1 by unfold cmpM; rw [if_pos h]]
    go_enter Try.func64, Try.ntmps64
    go_wp2_with fail
    refine (nan64_any _ _).mono ?_
    rintro e w1 ⟨rfl, rfl⟩
    go_wp2_with fail
    refine (nan64_any _ _).mono ?_
    rintro e w2 ⟨rfl, rfl⟩
    go_wp2_with fail
    go_ret
    exact ⟨rfl, rfl⟩
  · subst h
    have hd : decide (x < x) = false := by simp
    rw [show cmpM x x = 0 by unfold cmpM; rw [if_neg (by omega), if_neg (by omega)]]
    go_enter Try.func64, Try.ntmps64
    go_wp2_with fail
    refine (nan64_any _ _).mono ?_
    rintro e w1 ⟨rfl, rfl⟩
    go_wp2_with fail
    refine (nan64_any _ _).mono ?_
    rintro e w2 ⟨rfl, rfl⟩
    go_wp2_with fail
    go_ret
    exact ⟨rfl, rfl⟩
  · have hd : decide (x < y) = false := decide_eq_false (by omega)
    have hd2 : decide (y < x) = true := decide_eq_true h
    rw [show cmpM x y = 1 by unfold cmpM; rw [if_neg (by omega), if_pos h]]
    go_enter Try.func64, Try.ntmps64
    go_wp2_with fail
    refine (nan64_any _ _).mono ?_
    rintro e w1 ⟨rfl, rfl⟩
    go_wp2_with fail
    refine (nan64_any _ _).mono ?_
    rintro e w2 ⟨rfl, rfl⟩
    go_wp2_with fail
    go_ret
    exact ⟨rfl, rfl⟩

theorem few_any {F : Nat → Prop} (vars keep v m : Int) (cv : Value) (cs : List (List Int)) (w : World) (hc : Clss F w cv cs) (hv : -1099511627776 ≤ v ∧ v ≤ 1099511627776) (hvars : I64 vars) :
    Calls Try.prog 13 #[.agg #[.int .i64 vars, .int .i64 keep, cv], .int .i64 v, .int .i64 m] w fun e w' => e = .returned (.bool (fewM vars cs v m)) ∧ Below w.heap.size w w' := by
  obtain ⟨a, n, c, rfl, HN, hn⟩ := hc.form'
  obtain ⟨R, hR⟩ : ∃ R, fewM vars cs v m = R := ⟨_, rfl⟩
  rw [hR]
  have HB : Hid (Below w.heap.size w (w.alloc (.cells #[.int .i64 vars, .int .i64 keep, .slice a n c] 24))) := Lib.hid ((Below.refl _ _).alloc (Nat.le_refl _) _)
  have HC := Lib.hid (hc.below HB.out)
  have HR := Lib.hid hR
  clear hc hR
  by_cases h1 : v < vars
  · have HF : Hid (R = false) := Lib.hid (by rw [← HR.out, fewM, decide_eq_false (by omega)]; rfl)
    have hd : decide (v < vars) = true := decide_eq_true h1
    clear h1
    go_enter Try.func13, Try.ntmps13
    go_wp2_with fail
    go_ret
    exact ⟨by rw [HF.out]; rfl, HB.out⟩
  have hd : decide (v < vars) = false := decide_eq_false h1
  by_cases h2 : m < n
  · have HF : Hid (R = false) := Lib.hid (by rw [← HR.out, fewM, decide_eq_true (by omega), decide_eq_false (by have := HN.out; omega)]; rfl)
    have hd2 : decide (m < (n : Int)) = true := decide_eq_true h2
    clear h1 h2
    go_enter Try.func13, Try.ntmps13
    go_wp2_with fail
    go_ret
    exact ⟨by rw [HF.out]; rfl, HB.out⟩
  have hd2 : decide (m < (n : Int)) = false := decide_eq_false h2
  have HF : Hid (R = shortM cs v) := Lib.hid (by rw [← HR.out, fewM, decide_eq_true (by omega), decide_eq_true (by have := HN.out; omega)]; simp)
  clear h1 h2
  go_enter Try.func13, Try.ntmps13
  go_wp2_with fail
  refine (short_any F _ cs v _ HC.out hv).mono ?_
  rintro e w1 ⟨rfl, rfl⟩
  go_wp2_with fail
  go_ret
  exact ⟨by rw [HF.out]; rfl, HB.out⟩
end Go.Proofs.Ytjbhglmmakkkgaa
