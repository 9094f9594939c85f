/- Walks of layer 31's small functions: literal, variable, side, has, short. -/
import Derived.Test.YtjbhglmmakkkgaaChecked
import Derived.Test.YtjbhglmmakkkgaaSd
import Derived.Deep.LoopGhost
namespace Go.Proofs.Ytjbhglmmakkkgaa
open Go.ChangeShapes Go.WideShapes Go.ChangeAt Go.RowKit
set_option linter.unusedVariables false

theorem variable_any (n : Int) (w : World) (h : -1099511627776 ≤ n ∧ n ≤ 1099511627776) :
    Calls Try.prog 27 #[.int .i64 n] w fun e w' => e = .returned (.int .i64 (varM n)) ∧ w' = w := by
  by_cases h0 : n < 0
  · have HV : Hid (varM n = -n) := Lib.hid (by unfold varM; rw [if_pos h0])
    go_enter Try.func27, Try.ntmps27
    go_wp2
    go_ret
    refine ⟨?_, rfl⟩
    rw [HV.out]
    go_num
  · have HV : Hid (varM n = n) := Lib.hid (by unfold varM; rw [if_neg h0])
    have hd : decide (n < 0) = false := decide_eq_false h0
    go_enter Try.func27, Try.ntmps27
    go_wp2
    go_ret
    exact ⟨by rw [HV.out]; rfl, rfl⟩

theorem side_any (n : Int) (w : World) (h : -1099511627776 ≤ n ∧ n ≤ 1099511627776) :
    Calls Try.prog 50 #[.int .i64 n] w fun e w' => e = .returned (.tuple #[.int .i64 (varM n), .int .i64 (if n < 0 then 0 else 1)]) ∧ w' = w := by
  by_cases h0 : n < 0
  · have HV : Hid (varM n = -n) := Lib.hid (by unfold varM; rw [if_pos h0])
    rw [if_pos h0]
    go_enter Try.func50, Try.ntmps50
    go_wp2
    go_ret2
    refine ⟨?_, rfl⟩
    rw [HV.out]
    go_num
  · have HV : Hid (varM n = n) := Lib.hid (by unfold varM; rw [if_neg h0])
    have hd : decide (n < 0) = false := decide_eq_false h0
    rw [if_neg h0]
    go_enter Try.func50, Try.ntmps50
    go_wp2
    go_ret2
    exact ⟨by rw [HV.out]; rfl, rfl⟩

theorem has_any (F : Nat → Prop) (v : Value) (xs : List Int) (n : Int) (w : World) (hx : Ints F w v xs) :
    Calls Try.prog 39 #[v, .int .i64 n] w fun e w' => e = .returned (.bool (xs.any fun m => m == n)) ∧ w' = w := by
  obtain ⟨a, l, c, rfl, HL, hl⟩ := hx.form'
  have HX := Lib.hid hx
  clear hx
  obtain ⟨R, hR⟩ : ∃ R, xs.any (fun m => m == n) = R := ⟨_, rfl⟩
  have HR : Hid (R = (xs.drop 0).any fun m => m == n) := Lib.hid hR.symm
  rw [hR]
  clear hR
  go_enter Try.func39, Try.ntmps39
  go_wp2
  go_loopg [9] l (fun g u9 wx => ∃ (k : Nat), k + g = l ∧ u9 = .int .i64 k ∧ w = wx ∧ Hid (R = (xs.drop k).any fun m => m == n))
  case atStart => exact ⟨0, by omega, rfl, rfl, HR⟩
  case round =>
  obtain ⟨k, hkg, rfl, rfl, hinv⟩ := hrel
  by_cases hk : k < l
  case neg =>
    have HF : Hid (R = false) := Lib.hid (by rw [hinv.out, List.drop_eq_nil_of_le (by have := HL.out; omega)]; rfl)
    have hk2 : l ≤ k := by omega
    clear hinv hk
    go_wp2
    go_ret
    exact ⟨by rw [HF.out]; rfl, rfl⟩
  obtain ⟨x, hx, e⟩ := drop_at (xs := xs) (k := k) (by have := HL.out; omega)
  have hxx := HX.out
  obtain ⟨b, o, rfl, _, hb, hc, _⟩ := hxx.at hx
  by_cases hxn : x = n
  · have HF : Hid (R = true) := Lib.hid (by rw [hinv.out, e]; simp [hxn])
    subst hxn
    clear hinv e hx hxx
    go_wp2
    go_ret
    exact ⟨by rw [HF.out]; rfl, rfl⟩
  · have HF : Hid (R = (xs.drop (k + 1)).any fun m => m == n) := Lib.hid (by rw [hinv.out, e]; simp [hxn])
    have hne : (x == n) = false := by simp [hxn]
    clear hinv e hx hxx hxn
    go_wp2
    go_roundg (gk - 1)
    case measure => omega
    case rel => exact ⟨k + 1, by omega, by go_num, rfl, HF⟩

theorem short_any (F : Nat → Prop) (v : Value) (cs : List (List Int)) (most : Int) (w : World) (hx : Clss F w v cs) (hm : -1099511627776 ≤ most ∧ most ≤ 1099511627776) :
    Calls Try.prog 30 #[v, .int .i64 most] w fun e w' => e = .returned (.bool (shortM cs most)) ∧ w' = w := by
  obtain ⟨a, l, c, rfl, HL, hl⟩ := hx.form'
  have HX := Lib.hid hx
  clear hx
  obtain ⟨R, hR⟩ : ∃ R, shortM cs most = R := ⟨_, rfl⟩
  have HR : Hid (R = shortM (cs.drop 0) most) := Lib.hid hR.symm
  rw [hR]
  clear hR
  go_enter Try.func30, Try.ntmps30
  go_wp2
  go_loopg [9] l (fun g u9 wx => ∃ (k : Nat), k + g = l ∧ u9 = .int .i64 k ∧ w = wx ∧ Hid (R = shortM (cs.drop k) most))
  case atStart => exact ⟨0, by omega, rfl, rfl, HR⟩
  case round =>
  obtain ⟨k, hkg, rfl, rfl, hinv⟩ := hrel
  by_cases hk : k < l
  case neg =>
    have HF : Hid (R = true) := Lib.hid (by rw [hinv.out, List.drop_eq_nil_of_le (by have := HL.out; omega)]; rfl)
    have hk2 : l ≤ k := by omega
    clear hinv hk
    go_wp2
    go_ret
    exact ⟨by rw [HF.out]; rfl, rfl⟩
  obtain ⟨x, hx, e⟩ := drop_at (xs := cs) (k := k) (by have := HL.out; omega)
  have hxx := HX.out
  obtain ⟨b, o, u, rfl, _, hb, hc, hu⟩ := hxx.at hx
  obtain ⟨ua, un, uc, rfl, HU, hun⟩ := hu.form'
  by_cases hxn : most + 2 < un
  · have HF : Hid (R = false) := Lib.hid (by
      rw [hinv.out, e, shortM, List.all_cons, decide_eq_false (by have := HU.out; omega)]; rfl)
    have hd : decide (most + 2 < (un : Int)) = true := decide_eq_true hxn
    clear hinv e hx hxx hu
    go_wp2
    go_ret
    exact ⟨by rw [HF.out]; rfl, rfl⟩
  · have HF : Hid (R = shortM (cs.drop (k + 1)) most) := Lib.hid (by
      rw [hinv.out, e, shortM, List.all_cons, decide_eq_true (by have := HU.out; omega)]; rfl)
    have hd : decide (most + 2 < (un : Int)) = false := decide_eq_false hxn
    clear hinv e hx hxx hu hxn
    go_wp2
    go_roundg (gk - 1)
    case measure => omega
    case rel => exact ⟨k + 1, by omega, by go_num, rfl, HF⟩
end Go.Proofs.Ytjbhglmmakkkgaa
