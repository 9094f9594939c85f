/- Walks of layer 31's marks: has, set, open; literal and few. -/
import Derived.Test.YtjbhglmmakkkgaaSw1
import Derived.Deep.DeepCutAuto
import Derived.WalkLawsBesides
namespace Go.Proofs.Ytjbhglmmakkkgaa
open Go.ChangeShapes Go.WideShapes Go.ChangeAt Go.RowKit
set_option linter.unusedVariables false

theorem side_pos (v : Nat) (w : World) (h : v ≤ 1099511627776) :
    Calls Try.prog 50 #[.int .i64 (v : Int)] w fun e w' => e = .returned (.tuple #[.int .i64 (v : Int), .int .i64 1]) ∧ w' = w :=
  (side_any _ w (by omega)).mono fun e w' ⟨h1, h2⟩ => ⟨by rw [h1, varM, if_neg (by omega), if_neg (by omega)], h2⟩
theorem side_neg (v : Nat) (w : World) (h : v ≤ 1099511627776) (h1 : 1 ≤ v) :
    Calls Try.prog 50 #[.int .i64 (-(v : Int))] w fun e w' => e = .returned (.tuple #[.int .i64 (v : Int), .int .i64 0]) ∧ w' = w :=
  (side_any _ w (by omega)).mono fun e w' ⟨h1, h2⟩ => ⟨by rw [h1, varM, if_pos (by omega), if_pos (by omega), Int.neg_neg], h2⟩

/-- has of a positive literal reads the variable's second cell -/
theorem mhas_pos (g n c v : Nat) (x : Bool) (w : World) (hn : n ≤ 1099511627776) (hv : v < n) (hx : w.cell? ⟨g, v * 2 + 1, none⟩ = some (.bool x)) :
    Calls Try.prog 47 #[.slice (some ⟨g, 0, none⟩) n c, .int .i64 (v : Int)] w fun e w' => e = .returned (.bool x) ∧ w' = w := by
  go_enter Try.func47, Try.ntmps47
  go_wp2_with fail
  refine (side_pos v _ (by omega)).mono ?_
  rintro e w1 ⟨rfl, rfl⟩
  go_wp2_with fail
  go_ret
  exact ⟨rfl, rfl⟩
theorem mhas_neg (g n c v : Nat) (x : Bool) (w : World) (hn : n ≤ 1099511627776) (hv : v < n) (h1 : 1 ≤ v) (hx : w.cell? ⟨g, v * 2, none⟩ = some (.bool x)) :
    Calls Try.prog 47 #[.slice (some ⟨g, 0, none⟩) n c, .int .i64 (-(v : Int))] w fun e w' => e = .returned (.bool x) ∧ w' = w := by
  go_enter Try.func47, Try.ntmps47
  go_wp2_with fail
  refine (side_neg v _ (by omega) h1).mono ?_
  rintro e w1 ⟨rfl, rfl⟩
  go_wp2_with fail
  go_ret
  exact ⟨rfl, rfl⟩
/-- set writes the literal's cell and answers whether the other one is clear -/
theorem mset_pos (g n c v : Nat) (x y : Bool) (w : World) (hn : n ≤ 1099511627776) (hv : v < n) (hx : w.cell? ⟨g, v * 2 + 1, none⟩ = some (.bool x)) (hy : w.cell? ⟨g, v * 2, none⟩ = some (.bool y)) (hz : w.frozen? ⟨g, v * 2 + 1, none⟩ = false) :
    Calls Try.prog 44 #[.slice (some ⟨g, 0, none⟩) n c, .int .i64 (v : Int)] w fun e w' => e = .returned (.bool (!y)) ∧ w' = w.setCell ⟨g, v * 2 + 1, none⟩ (.bool true) := by
  have hy2 := set_ne (u := .bool true) (b' := g) (o' := v * 2 + 1) (by right; omega) hy
  go_enter Try.func44, Try.ntmps44
  go_wp2_with fail
  refine (side_pos v _ (by omega)).mono ?_
  rintro e w1 ⟨rfl, rfl⟩
  go_wp2_with fail
  go_ret
  exact ⟨rfl, rfl⟩
theorem mset_neg (g n c v : Nat) (x y : Bool) (w : World) (hn : n ≤ 1099511627776) (hv : v < n) (h1 : 1 ≤ v) (hx : w.cell? ⟨g, v * 2, none⟩ = some (.bool x)) (hy : w.cell? ⟨g, v * 2 + 1, none⟩ = some (.bool y)) (hz : w.frozen? ⟨g, v * 2, none⟩ = false) :
    Calls Try.prog 44 #[.slice (some ⟨g, 0, none⟩) n c, .int .i64 (-(v : Int))] w fun e w' => e = .returned (.bool (!y)) ∧ w' = w.setCell ⟨g, v * 2, none⟩ (.bool true) := by
  have hy2 := set_ne (u := .bool true) (b' := g) (o' := v * 2) (by right; omega) hy
  go_enter Try.func44, Try.ntmps44
  go_wp2_with fail
  refine (side_neg v _ (by omega) h1).mono ?_
  rintro e w1 ⟨rfl, rfl⟩
  go_wp2_with fail
  go_ret
  exact ⟨rfl, rfl⟩
theorem mopen_any (g n c v : Nat) (x y : Bool) (w : World) (hn : n ≤ 1099511627776) (hv : v < n) (hx : w.cell? ⟨g, v * 2, none⟩ = some (.bool x)) (hy : w.cell? ⟨g, v * 2 + 1, none⟩ = some (.bool y)) :
    Calls Try.prog 59 #[.slice (some ⟨g, 0, none⟩) n c, .int .i64 (v : Int)] w fun e w' => e = .returned (.bool (!x && !y)) ∧ w' = w := by
  rcases bool2 x with rfl | rfl
  · go_enter Try.func59, Try.ntmps59
    go_wp2
    go_ret
    exact ⟨rfl, rfl⟩
  · go_enter Try.func59, Try.ntmps59
    go_wp2
    go_ret
    exact ⟨rfl, rfl⟩

theorem literal_any (vars n : Int) (w : World) (hv : 0 ≤ vars ∧ vars ≤ 1099511627776) (hn : I64 n) :
    Calls Try.prog 16 #[.int .i64 vars, .int .i64 n] w fun e w' => e = .returned (.bool (litB vars n)) ∧ w' = w := by
  obtain ⟨R, hR⟩ : ∃ R, litB vars n = R := ⟨_, rfl⟩
  rw [hR]
  have HR := Lib.hid hR
  clear hR
  obtain ⟨i1, i2⟩ := hn
  by_cases h0 : n = 0
  · have HF : Hid (R = false) := Lib.hid (by rw [← HR.out, litB]; simp [h0])
    have hd : (n != 0) = false := by simp [h0]
    clear h0
    go_enter Try.func16, Try.ntmps16
    go_wp2
    go_ret
    exact ⟨by rw [HF.out]; rfl, rfl⟩
  have hd : (n != 0) = true := by simp [h0]
  by_cases h1 : -vars ≤ n
  case neg =>
    have HF : Hid (R = false) := Lib.hid (by rw [← HR.out, litB, decide_eq_false h1]; simp)
    have hd1 : decide (-vars ≤ n) = false := decide_eq_false h1
    clear h0 h1
    go_enter Try.func16, Try.ntmps16
    go_wp2
    go_ret
    exact ⟨by rw [HF.out]; rfl, rfl⟩
  have hd1 : decide (-vars ≤ n) = true := decide_eq_true h1
  obtain ⟨T, hT⟩ : ∃ t, decide (n ≤ vars) = t := ⟨_, rfl⟩
  have HF : Hid (R = T) := Lib.hid (by rw [← HR.out, litB, hd1, hT, decide_eq_true h0]; simp)
  clear h0 h1
  go_enter Try.func16, Try.ntmps16
  go_wp2
  go_ret
  exact ⟨by rw [HF.out]; rfl, rfl⟩
end Go.Proofs.Ytjbhglmmakkkgaa
