/- Walk: slices.Index of ints; three cells stored. No condition but the sizes. -/
import Derived.Test.YteadlkecngfcoaaGreatKa
namespace Go.Proofs.YteadlkecngfcoaaGreat
open Go.ChangeShapes Go.WideShapes Go.ChangeAt Go.RowKit
set_option linter.unusedVariables false

/-- a bool and nothing else changed -/
def BoolPost (W : World) (b : Bool) (e : Ending) (w' : World) : Prop := e = .returned (.bool b) ∧ Below W.heap.size W w'
theorem set3_at {w : World} {b : Nat} {x y z x0 y0 z0 : Value} (h0 : w.cell? ⟨b, 0, none⟩ = some x0) (h1 : w.cell? ⟨b, 1, none⟩ = some y0) (h2 : w.cell? ⟨b, 2, none⟩ = some z0) :
    (((w.setCell ⟨b, 0, none⟩ x).setCell ⟨b, 1, none⟩ y).setCell ⟨b, 2, none⟩ z).cell? ⟨b, 0, none⟩ = some x ∧
    (((w.setCell ⟨b, 0, none⟩ x).setCell ⟨b, 1, none⟩ y).setCell ⟨b, 2, none⟩ z).cell? ⟨b, 1, none⟩ = some y ∧
    (((w.setCell ⟨b, 0, none⟩ x).setCell ⟨b, 1, none⟩ y).setCell ⟨b, 2, none⟩ z).cell? ⟨b, 2, none⟩ = some z :=
  ⟨set_ne (by omega) (set_ne (by omega) (set_eq h0)), set_ne (by omega) (set_eq (set_ne (by omega) h1)), set_eq (set_ne (by omega) (set_ne (by omega) h2))⟩
theorem set3_below {B b : Nat} {w w' : World} (x y z : Value) (h : Below B w w') (hb : B ≤ b) : Below B w (((w'.setCell ⟨b, 0, none⟩ x).setCell ⟨b, 1, none⟩ y).setCell ⟨b, 2, none⟩ z) :=
  ((h.setCell hb _).setCell hb _).setCell hb _
theorem set3_block {w : World} {b k : Nat} (x y z : Value) (h : k ≠ b) : (((w.setCell ⟨b, 0, none⟩ x).setCell ⟨b, 1, none⟩ y).setCell ⟨b, 2, none⟩ z).heap[k]? = w.heap[k]? := by
  rw [Below.heap_setCell _ _ _ _ h, Below.heap_setCell _ _ _ _ h, Below.heap_setCell _ _ _ _ h]
/-- the first place of x, -1 if it is nowhere -/
def idxGo (x : Int) : List Int → Nat → Int
  | [], _ => -1
  | y :: r, i => if x = y then i else idxGo x r (i + 1)
theorem idxGo_nonneg (x : Int) : ∀ (ys : List Int) (i : Nat), decide (0 ≤ idxGo x ys i) = ys.contains x
  | [], i => by simp [idxGo]
  | y :: r, i => by
    rw [idxGo, List.contains_cons]
    by_cases h : x = y
    · subst h; simp
    · rw [if_neg h, idxGo_nonneg x r (i + 1)]
      simp [h]

set_option maxHeartbeats 1000000 in
theorem index_any (F : Nat → Prop) (v : Value) (xs : List Int) (x : Int) (w : World) (hx : Ints F w v xs) (hi : I64 x) :
    Calls Tryz.prog 54 #[v, .int .i64 x] w fun e w' => e = .returned (.int .i64 (idxGo x xs 0)) ∧ w' = w := by
  obtain ⟨a, n, c, rfl, HN, hn⟩ := hx.form'
  obtain ⟨R, hR⟩ : ∃ R, idxGo x xs 0 = R := ⟨_, rfl⟩
  have HR : Hid (R = idxGo x (xs.drop 0) 0) := Lib.hid hR.symm
  rw [hR]
  clear hR
  go_enter Tryz.func54, Tryz.ntmps54
  go_wp2
  go_loop [4, 5, 8] (fun u4 u5 u8 => ∃ k : Nat, k ≤ n ∧ u8 = .int .i64 k ∧ u4 = .int .i64 0 ∧ Hid (R = idxGo x (xs.drop k) k)) (fun _ _ u8 => n - (intOf u8).toNat)
  case atStart => exact ⟨0, by omega, rfl, rfl, HR⟩
  case round =>
    obtain ⟨k, hk, rfl, rfl, hinv⟩ := hrel
    by_cases hlt : k < n
    · obtain ⟨y, hy⟩ : ∃ y, xs[k]? = some y := ⟨_, List.getElem?_eq_getElem (by have := HN.out; omega)⟩
      obtain ⟨b, off, rfl, _, hb, hc, hyi⟩ := hx.at hy
      have e : xs.drop k = y :: xs.drop (k + 1) := by
        obtain ⟨hlt, he⟩ := List.getElem?_eq_some_iff.1 hy
        rw [List.drop_eq_getElem_cons hlt, he]
      have HI : Hid (R = if x = y then (k : Int) else idxGo x (xs.drop (k + 1)) (k + 1)) := Lib.hid (by rw [hinv.out, e]; rfl)
      clear hinv e hy
      by_cases hxy : x = y
      · have HF : Hid (R = k) := Lib.hid (by rw [HI.out, if_pos hxy])
        subst hxy
        go_wp2
        go_ret
        exact ⟨by rw [HF.out]; rfl, rfl⟩
      · have HF : Hid (R = idxGo x (xs.drop (k + 1)) (k + 1)) := Lib.hid (by rw [HI.out, if_neg hxy])
        have hne : (x == y) = false := by simp [hxy]
        clear hxy
        go_wp2
        go_round
        case rel => exact ⟨k + 1, by omega, by go_num, rfl, HF⟩
        case measure => simp [intOf]; omega
    · have HF : Hid (R = -1) := Lib.hid (by rw [hinv.out, List.drop_eq_nil_of_le (by have := HN.out; omega)]; rfl)
      go_wp2
      go_ret
      exact ⟨by rw [HF.out]; rfl, rfl⟩

end Go.Proofs.YteadlkecngfcoaaGreat
