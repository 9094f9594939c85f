/- (Trace text seat) Walks: digits and number, of the statements. No condition but the range. Printed by gendig.py. -/
import Derived.Test.YtljaegmmfjllkaaGreatDoorNv
import Derived.Test.YtljaegmmfjllkaaGreatDoorKa
import Derived.Deep.RegionHeld3
import Derived.Deep.LoopGhost
import Derived.Deep.QuietTactic
import Derived.BigQuiet
namespace Go.Proofs.YtljaegmmfjllkaaGreatDoor
open Go.ChangeShapes Go.WideShapes Go.ChangeAt Go.RowKit Go.Lib
set_option linter.unusedVariables false
set_option linter.unusedSimpArgs false

theorem fl10 (n : Nat) (h : n < 10) : (⟨#[48, 49, 50, 51, 52, 53, 54, 55, 56, 57]⟩ : ByteArray).extract n (n + 1) = ⟨#[UInt8.ofNat (48 + n)]⟩ := by
  have : n = 0 ∨ n = 1 ∨ n = 2 ∨ n = 3 ∨ n = 4 ∨ n = 5 ∨ n = 6 ∨ n = 7 ∨ n = 8 ∨ n = 9 := by omega
  rcases this with rfl | rfl | rfl | rfl | rfl | rfl | rfl | rfl | rfl | rfl <;> rfl
theorem wru64 {x : Int} (h0 : 0 ≤ x) (h1 : x ≤ 18446744073709551615) : IntKind.u64.wrap x = x := IntWalk.u64_in _ ⟨h0, h1⟩
set_option maxRecDepth 100000 in
set_option maxHeartbeats 2000000 in
theorem ldigits_nat : ∀ (n : Nat), n < 18446744073709551616 → ∀ w : World, Calls Tryz.prog 45 #[.int .u64 n] w fun e w' => e = .returned (.string ⟨(decDigits n).toArray⟩) ∧ w' = w := by
  intro n
  induction n using Nat.strongRecOn with
  | ind n ih =>
    intro hn w
    obtain ⟨q, hq⟩ : ∃ q, n / 10 = q := ⟨_, rfl⟩
    obtain ⟨r, hr⟩ : ∃ r, n % 10 = r := ⟨_, rfl⟩
    have hr10 : r < 10 := by omega
    have hdv : Int.tdiv (n : Int) 10 = (q : Int) := by rw [Int.tdiv_eq_ediv_of_nonneg (by omega)]; omega
    have hmv : Int.tmod (n : Int) 10 = (r : Int) := by rw [Int.tmod_eq_emod_of_nonneg (by omega)]; omega
    have hn0 : (0 : Int) ≤ n := by omega
    have hr0 : (0 : Int) ≤ r := by omega
    have hr1 : (0 : Int) ≤ (r : Int) + 1 := by omega
    have hr2 : (r : Int) + 1 ≤ 10 := by omega
    have hr3 : (r : Int) ≤ (r : Int) + 1 := by omega
    have hw := wru64 (x := (r : Int) + 1) (by omega) (by omega)
    have hwr := wru64 (x := (r : Int)) (by omega) (by omega)
    have hwq := wru64 (x := (q : Int)) (by omega) (by omega)
    have HR := Lib.hid (fl10 r hr10)
    by_cases h : n < 10
    · have hd1 : decide ((n : Int) < 10) = true := by simp; omega
      have HE : Hid (decDigits n = [UInt8.ofNat (48 + r)]) := Lib.hid (by rw [decDigits_one h]; congr 2; congr 1; omega)
      clear ih hq hr h
      go_enter Tryz.func45, Tryz.ntmps45
      go_wp2_with fail
      go_ret
      refine ⟨?_, rfl⟩
      show Ending.returned (.string _) = _
      rw [HE.out]
      congr 2
      try rw [HR.out]
    · have hd1 : decide ((n : Int) < 10) = false := by simp; omega
      have hq18 : q < 18446744073709551616 := by omega
      have hqn : q < n := by omega
      have HE : Hid (decDigits n = decDigits q ++ [UInt8.ofNat (48 + r)]) := Lib.hid (by rw [decDigits_rec n h, hq, hr])
      have HI := Lib.hid (ih q hqn hq18)
      have hdl : (decDigits q).length ≤ 20 := by rw [decDigits_length]; exact nDigits_le (k := 20) (by omega) (by omega)
      have HCL : Hid ( ¬ 9223372036854775807 < (decDigits q).length + (min (r + 1) 10 - r)) := Lib.hid (by omega)
      clear ih hq hr h hdl
      have hcl := HCL.out
      go_enter Tryz.func45, Tryz.ntmps45
      go_wp2_with fail
      (with_reducible refine (HI.out _).mono ?_)
      rintro e w1 ⟨rfl, rfl⟩
      go_wp2_with fail
      go_ret
      refine ⟨?_, rfl⟩
      show Ending.returned (.string _) = _
      rw [HE.out]
      congr 2
      try rw [HR.out]
      apply ByteArray.ext
      simp
set_option maxRecDepth 100000 in
set_option maxHeartbeats 2000000 in
theorem lnumber_any (n : Int) (hn : I64 n) (w : World) : Calls Tryz.prog 26 #[.int .i64 n] w fun e w' => e = .returned (.string ⟨(itoa n).toArray⟩) ∧ w' = w := by
  by_cases h : n < 0
  · have hd : decide (n < 0) = true := decide_eq_true h
    obtain ⟨u, hu⟩ : ∃ u, n.natAbs = u := ⟨_, rfl⟩
    have hu1 : u < 18446744073709551616 := by unfold I64 at hn; omega
    have HD := Lib.hid (ldigits_nat u hu1 w)
    have HE : Hid (itoa n = 45 :: decDigits u) := Lib.hid (by unfold itoa; rw [if_pos h, hu])
    have w1 : IntKind.i64.wrap (n + 1) = n + 1 := IntWalk.i64_in _ (by unfold I64 at hn; omega)
    have w2 : IntKind.i64.wrap (-(n + 1)) = -(n + 1) := IntWalk.i64_in _ (by unfold I64 at hn; omega)
    have w1' : wrap64 (n + 1) = n + 1 := IntWalk.wrap64_in _ (by unfold I64 at hn; omega)
    have w2' : wrap64 (-(n + 1)) = -(n + 1) := IntWalk.wrap64_in _ (by unfold I64 at hn; omega)
    have w3 : IntKind.u64.wrap (-(n + 1)) = -(n + 1) := IntWalk.u64_in _ (by unfold I64 at hn; omega)
    have w4 : IntKind.u64.wrap (-(n + 1) + 1) = u := by rw [IntWalk.u64_in _ (by unfold I64 at hn; omega)]; omega
    have hl : (decDigits u).length ≤ 20 := by rw [decDigits_length]; exact nDigits_le (k := 20) (by omega) (by omega)
    have HCL : Hid ( ¬ 9223372036854775807 < 1 + (decDigits u).length) := Lib.hid (by omega)
    have hcl := HCL.out
    clear hn h hu hu1 hl
    go_enter Tryz.func26, Tryz.ntmps26
    go_wp2_with fail
    refine HD.out.mono ?_
    rintro e w1 ⟨rfl, rfl⟩
    go_wp2_with fail
    go_ret
    refine ⟨?_, rfl⟩
    show Ending.returned (.string _) = _
    rw [HE.out]
    congr 2
  · have hd : decide (n < 0) = false := decide_eq_false h
    obtain ⟨u, hu⟩ : ∃ u, n.toNat = u := ⟨_, rfl⟩
    obtain rfl : n = (u : Int) := by omega
    have HD := Lib.hid (ldigits_nat u (by unfold I64 at hn; omega) w)
    have HE : Hid (itoa (u : Int) = decDigits u) := Lib.hid (by unfold itoa; rw [if_neg h, hu])
    have w1 : IntKind.u64.wrap (u : Int) = u := IntWalk.u64_in _ (by unfold I64 at hn; omega)
    clear hn h hu
    go_enter Tryz.func26, Tryz.ntmps26
    go_wp2_with fail
    refine HD.out.mono ?_
    rintro e w1 ⟨rfl, rfl⟩
    go_wp2_with fail
    go_ret
    exact ⟨by rw [HE.out]; rfl, rfl⟩
end Go.Proofs.YtljaegmmfjllkaaGreatDoor
