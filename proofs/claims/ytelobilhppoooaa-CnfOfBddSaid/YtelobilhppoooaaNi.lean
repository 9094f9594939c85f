/- Walk: the statement's bddRight. No condition. -/
import Derived.Test.YtelobilhppoooaaQx
namespace Go.Proofs.Ytelobilhppoooaa
open Go.ChangeShapes Go.WideShapes Go.ChangeAt Go.RowKit
set_option linter.unusedVariables false

set_option maxRecDepth 100000 in
set_option maxHeartbeats 4000000 in
theorem right_any (F : Nat → Prop) (vars root : Int) (nv : Value) (ns : List Fork) (w : World) (hx : Forks F w nv ns) (hv : I64 vars) (hr : I64 root) (hcap : ∀ a n c, nv = .slice a n c → n ≤ c) :
    Calls Try.prog 7 #[.agg #[.int .i64 vars, nv, .int .i64 root]] w fun e w' => e = .returned (.bool (rigM vars root ns)) ∧ Below w.heap.size w w' := by
  obtain ⟨a, n, c, rfl, HN, hn⟩ := hx.form
  obtain ⟨W1, hW1⟩ : ∃ W, w.alloc (.cells #[.int .i64 vars, .slice a n c, .int .i64 root] 24) = W := ⟨_, rfl⟩
  have hb1 : Below w.heap.size w W1 := by rw [← hW1]; exact (Below.refl _ _).alloc (Nat.le_refl _) _
  have c0 : W1.cell? ⟨w.heap.size, 0, none⟩ = some (.int .i64 vars) := by rw [← hW1]; simp
  have c1 : W1.cell? ⟨w.heap.size, 1, none⟩ = some (.slice a n c) := by rw [← hW1]; simp
  have c2 : W1.cell? ⟨w.heap.size, 2, none⟩ = some (.int .i64 root) := by rw [← hW1]; simp
  have HX := Lib.hid (hx.below hb1)
  have HB1 := Lib.hid hb1
  have HW1 := Lib.hid hW1
  obtain ⟨R, hR⟩ : ∃ R, rigM vars root ns = R := ⟨_, rfl⟩
  rw [hR]
  have HR : Hid (R = if vars < 0 ∨ 40 < vars ∨ 4096 < (n : Int) ∨ root < 0 ∨ 1 + (n : Int) < root then false else diaM vars root ns) := Lib.hid (by rw [← hR, rigM, HN.out]; congr 1; simp only [eq_iff_iff]; omega)
  have HCP := Lib.hid hcap
  clear hx hb1 hR hW1 hcap
  by_cases h1 : vars < 0
  · have HF : Hid (R = false) := Lib.hid (by rw [HR.out, if_pos (.inl h1)])
    have hd1 : decide (vars < 0) = true := decide_eq_true h1
    clear h1 HR
    go_enter Try.func7, Try.ntmps7
    go_wp2_with fail
    rw [HW1.out]
    go_wp2_with fail
    go_ret
    exact ⟨by rw [HF.out]; rfl, HB1.out⟩
  have hd1 : decide (vars < 0) = false := decide_eq_false h1
  by_cases h2 : 40 < vars
  · have HF : Hid (R = false) := Lib.hid (by rw [HR.out, if_pos (.inr (.inl h2))])
    have hd2 : decide (40 < vars) = true := decide_eq_true h2
    clear h1 h2 HR
    go_enter Try.func7, Try.ntmps7
    go_wp2_with fail
    rw [HW1.out]
    go_wp2_with fail
    go_ret
    exact ⟨by rw [HF.out]; rfl, HB1.out⟩
  have hd2 : decide (40 < vars) = false := decide_eq_false h2
  by_cases h3 : 4096 < n
  · have HF : Hid (R = false) := Lib.hid (by rw [HR.out, if_pos (.inr (.inr (.inl (by omega))))])
    have hd3 : decide ((4096 : Int) < n) = true := decide_eq_true (by omega)
    have hd3' : decide (4096 < n) = true := decide_eq_true h3
    clear h1 h2 h3 HR
    go_enter Try.func7, Try.ntmps7
    go_wp2_with fail
    rw [HW1.out]
    go_wp2_with fail
    go_ret
    exact ⟨by rw [HF.out]; rfl, HB1.out⟩
  have hd3 : decide ((4096 : Int) < n) = false := decide_eq_false (by omega)
  have hd3' : decide (4096 < n) = false := decide_eq_false h3
  by_cases h4 : root < 0
  · have HF : Hid (R = false) := Lib.hid (by rw [HR.out, if_pos (.inr (.inr (.inr (.inl h4))))])
    have hd4 : decide (root < 0) = true := decide_eq_true h4
    clear h1 h2 h3 h4 HR
    go_enter Try.func7, Try.ntmps7
    go_wp2_with fail
    rw [HW1.out]
    go_wp2_with fail
    go_ret
    exact ⟨by rw [HF.out]; rfl, HB1.out⟩
  have hd4 : decide (root < 0) = false := decide_eq_false h4
  have hw1 : IntKind.i64.wrap ((n : Int) + 1) = (n : Int) + 1 := IntWalk.i64_in _ ⟨by omega, by omega⟩
  by_cases h5 : (n : Int) + 1 < root
  · have HF : Hid (R = false) := Lib.hid (by rw [HR.out, if_pos (.inr (.inr (.inr (.inr (by omega)))))])
    have hd5 : decide ((n : Int) + 1 < root) = true := decide_eq_true h5
    clear h1 h2 h3 h4 h5 HR
    go_enter Try.func7, Try.ntmps7
    go_wp2_with fail
    rw [HW1.out]
    go_wp2_with fail
    go_ret
    exact ⟨by rw [HF.out]; rfl, HB1.out⟩
  have hd5 : decide ((n : Int) + 1 < root) = false := decide_eq_false h5
  have HF : Hid (R = diaM vars root ns) := Lib.hid (by rw [HR.out, if_neg (by omega)])
  have HD := Lib.hid (diagram_any _ vars root (.slice a n c) ns W1 HX.out (by rw [← HN.out]; omega) hv ⟨by omega, by rw [← HN.out]; omega⟩ HCP.out)
  clear h1 h2 h3 h4 h5 HR
  go_enter Try.func7, Try.ntmps7
  go_wp2_with fail
  rw [HW1.out]
  go_wp2_with fail
  refine HD.out.mono ?_
  rintro e w3 ⟨rfl, hb3⟩
  have HB3 : Hid (Below w.heap.size w w3) := Lib.hid (HB1.out.trans (hb3.mono HB1.out.size))
  clear hb3 HD
  go_wp2_with fail
  go_ret
  exact ⟨by rw [HF.out]; rfl, HB3.out⟩
end Go.Proofs.Ytelobilhppoooaa
