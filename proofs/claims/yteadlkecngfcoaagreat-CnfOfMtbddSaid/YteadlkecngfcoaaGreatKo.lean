/- Walks: EqualFunc with slices.Equal, the statement's Equal. No condition. -/
import Derived.Test.YteadlkecngfcoaaGreatKf
namespace Go.Proofs.YteadlkecngfcoaaGreat
open Go.ChangeShapes Go.WideShapes Go.ChangeAt Go.RowKit
set_option linter.unusedVariables false

set_option maxHeartbeats 2000000 in
theorem equalf_any {F G : Nat → Prop} (v u : Value) (xs ys : List (List Int)) (w : World) (hx : Clss F w v xs) (hy : Clss G w u ys) :
    Calls Tryz.prog 27 #[v, u, .func (.func 28) #[] #[]] w (QuietPost w (.bool (xs == ys))) := by
  obtain ⟨a, n, c, rfl, HN, hn⟩ := hx.form'
  obtain ⟨b, m, d, rfl, HM, hm⟩ := hy.form'
  obtain ⟨R, hR⟩ : ∃ R, (xs == ys) = R := ⟨_, rfl⟩
  rw [hR]
  by_cases hnm : n = m
  case neg =>
    have hne : ((n : Int) != (m : Int)) = true := by rw [bne_iff_ne]; omega
    have HR : Hid (R = false) := Lib.hid (by
      rw [← hR, beq_eq_false_iff_ne]
      intro e
      exact hnm (by rw [HN.out, HM.out, e]))
    clear hR hnm hx hy
    go_enter Tryz.func27, Tryz.ntmps27
    go_wp2
    go_ret
    exact ⟨by rw [HR.out]; rfl, 0, rfl⟩
  subst hnm
  have hne : ((n : Int) != (n : Int)) = false := by simp
  have HR : Hid (R = (xs.drop 0 == ys.drop 0)) := Lib.hid hR.symm
  have HX := Lib.hid hx
  have HY := Lib.hid hy
  clear hR hx hy
  go_enter Tryz.func27, Tryz.ntmps27
  go_wp2
  go_loopg [17] n (fun g u17 wx => ∃ (k nq : Nat), k + g = n ∧ u17 = .int .i64 k ∧ wx = w.drewN nq ∧ Hid (R = (xs.drop k == ys.drop k)))
  case atStart => exact ⟨0, 0, by omega, rfl, rfl, HR⟩
  case round =>
  obtain ⟨k, nq, hkg, rfl, rfl, hinv⟩ := hrel
  by_cases hk : k < n
  case neg =>
    have HF : Hid (R = true) := Lib.hid (by rw [hinv.out, List.drop_eq_nil_of_le (by have := HN.out; omega), List.drop_eq_nil_of_le (by have := HM.out; omega)]; rfl)
    clear hinv
    go_wp2
    go_ret
    exact ⟨by rw [HF.out]; rfl, nq, rfl⟩
  obtain ⟨x, hxx, ex⟩ := drop_at (xs := xs) (k := k) (by have := HN.out; omega)
  obtain ⟨y, hyy, ey⟩ := drop_at (xs := ys) (k := k) (by have := HM.out; omega)
  obtain ⟨xb, xo, xu, rfl, _, _, hxc, hxi⟩ := HX.out.at hxx
  obtain ⟨yb, yo, yu, rfl, _, _, hyc, hyi⟩ := HY.out.at hyy
  obtain ⟨C, hC⟩ : ∃ C, (x == y) = C := ⟨_, rfl⟩
  have heq := equal_any xu yu x y (w.drewN nq) (hxi.drewN nq) (hyi.drewN nq)
  rw [hC] at heq
  have HEQ := Lib.hid heq
  obtain ⟨xa, xn, xc2, rfl, _, _⟩ := hxi.form'
  obtain ⟨ya, yn, yc2, rfl, _, _⟩ := hyi.form'
  have HI : Hid (R = (C && (xs.drop (k + 1) == ys.drop (k + 1)))) := Lib.hid (by rw [hinv.out, ex, ey, ← hC]; rfl)
  have hk0 : (0 : Int) ≤ k := by omega
  have hk1 : (k : Int) < n := by omega
  clear hinv hxx hyy ex ey hC heq hxi hyi
  rcases bool2 C with rfl | rfl
  · have HF : Hid (R = (xs.drop (k + 1) == ys.drop (k + 1))) := Lib.hid (by rw [HI.out]; rfl)
    clear HI
    go_wp2_with fail
    refine HEQ.out.mono ?_
    rintro e w1 ⟨rfl, n1, rfl⟩
    go_wp2_with fail
    go_roundg (gk - 1)
    case measure => omega
    case rel => exact ⟨k + 1, _, by omega, by go_num, rfl, HF⟩
  · have HF : Hid (R = false) := Lib.hid (by rw [HI.out]; rfl)
    clear HI
    go_wp2_with fail
    refine HEQ.out.mono ?_
    rintro e w1 ⟨rfl, n1, rfl⟩
    go_wp2_with fail
    go_ret
    exact ⟨by rw [HF.out]; rfl, _, rfl⟩

/- Walk: the statement's Equal. No condition. -/
open Go.ChangeShapes Go.WideShapes Go.ChangeAt Go.RowKit
set_option linter.unusedVariables false

theorem lequal_any {F G : Nat → Prop} (v u : Value) (xs ys : List (List Int)) (w : World) (hx : Clss F w v xs) (hy : Clss G w u ys) :
    Calls Tryz.prog 8 #[v, u] w (QuietPost w (.bool (xs == ys))) := by
  have H := Lib.hid (equalf_any v u xs ys w hx hy)
  obtain ⟨a, n, c, rfl, _, _⟩ := hx.form'
  obtain ⟨b, m, d, rfl, _, _⟩ := hy.form'
  clear hx hy
  go_enter Tryz.func8, Tryz.ntmps8
  go_wp2_with fail
  refine H.out.mono ?_
  rintro e w1 ⟨rfl, n1, rfl⟩
  go_wp2_with fail
  go_ret
  exact ⟨rfl, _, rfl⟩
end Go.Proofs.YteadlkecngfcoaaGreat
