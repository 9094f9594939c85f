/- Walks: the number of bits of a word, gap. -/
import Derived.Test.YteadlkecngfcoaaGreatDoorChecked
import Derived.Test.YteadlkecngfcoaaGreatDoorDd
import Derived.Test.YteadlkecngfcoaaGreatDoorPop
import Derived.Deep.DeepCutAuto
namespace Go.Proofs.YteadlkecngfcoaaGreatDoor
open Go.ChangeShapes Go.WideShapes Go.ChangeAt Go.RowKit
set_option linter.unusedVariables false

set_option maxRecDepth 100000 in
set_option maxHeartbeats 4000000 in
theorem ones_any (x : Nat) (w : World) (hx : x < 18446744073709551616) :
    Calls Tryz.prog 35 #[.int .u64 x] w fun e w' => e = .returned (.int .i64 (Pop.pop 64 x)) ∧ w' = w := by
  obtain ⟨y1, hy1⟩ : ∃ y, Pop.s1 8 x = y := ⟨_, rfl⟩
  obtain ⟨y2, hy2⟩ : ∃ y, Pop.s2 8 y1 = y := ⟨_, rfl⟩
  obtain ⟨y3, hy3⟩ : ∃ y, Pop.s3 8 y2 = y := ⟨_, rfl⟩
  have E1 := Pop.step1 x hx
  rw [hy1] at E1
  have E2 := Pop.step2 y1 E1.2
  rw [hy2] at E2
  have E3 := Pop.step3 y2 E2.2
  rw [hy3] at E3
  have e : y3 = Pop.cnt 8 x := by rw [← hy3, ← hy2, ← hy1]; exact Pop.s321 8 x
  have hs := Pop.sum_bytes x
  rw [← e] at hs
  have H1 := Lib.hid E1.1
  have H2 := Lib.hid E2.1
  have H3 := Lib.hid E3
  obtain ⟨q, hq⟩ : ∃ q, Pop.pop 64 x = q := ⟨_, rfl⟩
  rw [hq] at hs ⊢
  have HS := Lib.hid hs.1
  have hy : y3 < 650000000000000000 := hs.2
  have l1 := E1.2
  have l2 := E2.2
  clear E1 E2 E3 hs hy1 hy2 hy3 e hq
  go_enter Tryz.func35, Tryz.ntmps35
  go_upto_region 1 with fail
  go_cut [0] (fun u wx => u = .int .u64 (y1 : Int) ∧ wx = w)
  case first =>
    go_wp2
    go_meet
    exact ⟨by rw [← H1.out], rfl⟩
  case rest =>
  obtain ⟨rfl, rfl⟩ := hcut
  go_upto_region 2 with fail
  go_cut [0] (fun u w' => u = .int .u64 (y2 : Int) ∧ w' = wc)
  case first =>
    go_wp2
    go_meet
    exact ⟨by rw [← H2.out], rfl⟩
  case rest =>
  obtain ⟨rfl, rfl⟩ := hcut
  go_upto_region 3 with fail
  go_cut [0] (fun u w' => u = .int .u64 (y3 : Int) ∧ w' = wc)
  case first =>
    go_wp2
    go_meet
    exact ⟨by rw [← H3.out], rfl⟩
  case rest =>
  obtain ⟨rfl, rfl⟩ := hcut
  go_wp2
  go_ret
  refine ⟨?_, rfl⟩
  show Ending.returned (.int .i64 (bits .and .i64 _ 127)) = _
  rw [i64_and127, ← HS.out]
  congr 2

/-- the bits of all that are not in mask -/
def gapM (all mask : Nat) : Nat := Pop.pop 64 (all &&& (18446744073709551615 - mask))

set_option maxHeartbeats 1000000 in
theorem gap_any (all mask : Nat) (w : World) (h1 : all < 18446744073709551616) (h2 : mask < 18446744073709551616) :
    Calls Tryz.prog 34 #[.int .u64 all, .int .u64 mask] w fun e w' => e = .returned (.int .i64 (gapM all mask)) ∧ w' = w := by
  have e := u64_andNot_nat all mask h1 h2
  have hlt : all &&& (18446744073709551615 - mask) < 18446744073709551616 := Nat.lt_of_le_of_lt Nat.and_le_left h1
  unfold gapM
  generalize all &&& (18446744073709551615 - mask) = x at *
  go_enter Tryz.func34, Tryz.ntmps34
  go_wp2_with fail
  refine (ones_any x _ hlt).mono ?_
  rintro e w1 ⟨rfl, rfl⟩
  go_wp2_with fail
  go_ret
  exact ⟨rfl, rfl⟩
end Go.Proofs.YteadlkecngfcoaaGreatDoor
