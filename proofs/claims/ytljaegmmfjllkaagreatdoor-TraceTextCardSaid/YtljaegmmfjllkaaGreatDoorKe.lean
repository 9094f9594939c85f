/- Walk: the statement's Equal. No condition. -/
import Derived.Test.YtljaegmmfjllkaaGreatDoorKo
namespace Go.Proofs.YtljaegmmfjllkaaGreatDoor
open Go.ChangeShapes Go.WideShapes Go.ChangeAt Go.RowKit
set_option linter.unusedVariables false

theorem lequal_any {F G : Nat → Prop} (v u : Value) (xs ys : List (List Int)) (w : World) (hx : Clss F w v xs) (hy : Clss G w u ys) :
    Calls Tryz.prog 30 #[v, u] w (QuietPost w (.bool (xs == ys))) := by
  have H := Lib.hid (equalf_any v u xs ys w hx hy)
  obtain ⟨a, n, c, rfl, _, _⟩ := hx.form'
  obtain ⟨b, m, d, rfl, _, _⟩ := hy.form'
  clear hx hy
  go_enter Tryz.func30, Tryz.ntmps30
  go_wp2_with fail
  refine H.out.mono ?_
  rintro e w1 ⟨rfl, n1, rfl⟩
  go_wp2_with fail
  go_ret
  exact ⟨rfl, _, rfl⟩
end Go.Proofs.YtljaegmmfjllkaaGreatDoor
