/- Walk: the statement's assignment (of layer 33). No condition but the sizes. -/
import Derived.Test.YteadlkecngfcoaaGreatDoorChecked
import Derived.Test.YteadlkecngfcoaaGreatDoorSd
import Derived.Deep.DeepCutAuto
import Derived.Deep.LoopGhost
namespace Go.Proofs.YteadlkecngfcoaaGreatDoor
open Go.ChangeShapes Go.WideShapes Go.ChangeAt Go.RowKit
set_option linter.unusedVariables false

theorem i64_low (n : Int) : bits .and .i64 n 1 = n % 2 := by
  have h1 : (BitVec.ofInt 64 n &&& BitVec.ofInt 64 1).toNat = (n % ((2 ^ 64 : Nat) : Int)).toNat % 2 := by
    rw [BitVec.toNat_and, BitVec.toNat_ofInt, show (BitVec.ofInt 64 1).toNat = 2 ^ 1 - 1 by decide, Nat.and_two_pow_sub_one_eq_mod]
  show IntKind.i64.wrap ((BitVec.ofInt 64 n &&& BitVec.ofInt 64 1).toNat : Nat) = n % 2
  rw [h1, IntKind.wrap_i64]
  omega
theorem bit_test (k g : Nat) : (bits .and .i64 ((k : Int) / 2 ^ g) 1 == 1) = k.testBit g := by
  rw [i64_low, show ((k : Int) / 2 ^ g) = ((k / 2 ^ g : Nat) : Int) by simp, Nat.testBit_eq_decide_div_mod_eq]
  rcases Nat.mod_two_eq_zero_or_one (k / 2 ^ g) with h | h
  · rw [show ((k / 2 ^ g : Nat) : Int) % 2 = 0 by omega, h]; rfl
  · rw [show ((k / 2 ^ g : Nat) : Int) % 2 = 1 by omega, h]; rfl

/-- the assignment with the number k -/
def assM (n k : Nat) : List Bool := (List.range n).map fun j => k.testBit (n - 1 - j)
theorem assM_len (n k : Nat) : (assM n k).length = n := by simp [assM]
theorem assM_take (n k j : Nat) (h : j < n) : (assM n k).take (j + 1) = (assM n k).take j ++ [k.testBit (n - 1 - j)] := by
  rw [List.take_succ_eq_append_getElem (by rw [assM_len]; exact h)]
  simp [assM]
theorem bools_oneCell (zs : List Bool) : ∀ u ∈ zs.map Value.bool, u.oneCell' = true := by
  intro u hu
  obtain ⟨b, _, rfl⟩ := List.mem_map.1 hu
  rfl

set_option maxHeartbeats 1000000 in
theorem assign_any (n k : Nat) (w : World) (hn : n ≤ 62) (hk : k < 4611686018427387904) :
    Calls Tryz.prog 9 #[.int .i64 k, .int .i64 n] w (BoolsPost w (assM n k)) := by
  have hinfo : (Tryz.prog.info? 4).map (fun i => (i.zero, i.size, i.bytes)) = some (some (.bool false), 1, 1) := by kernel_rfl
  have HI := Lib.hid hinfo
  clear hinfo
  go_enter Tryz.func9, Tryz.ntmps9
  go_wp2
  go_loopg [5, 6] (n) (fun g u5 u6 wx => ∃ (j : Nat), j + g = n ∧ u6 = .int .i64 ((g : Int) - 1) ∧ Below w.heap.size w wx ∧ wx.ownsRow w.heap.size 4 1 u5 j (((assM n k).take j).map .bool))
  case atStart => exact ⟨0, by omega, by go_num, Below.refl _ _, World.ownsRow_nil _ _ _ _⟩
  case round =>
    obtain ⟨j, hj, rfl, hB, hown⟩ := hrel
    have HB := Lib.hid hB
    have HO := Lib.hid hown
    have hbs := hB.size
    clear hB hown
    rcases gk with _ | g
    · have hjn : j = n := by omega
      subst hjn
      go_wp2
      go_ret
      have h := HO.out
      rw [List.take_of_length_le (by rw [assM_len]; omega)] at h
      exact ⟨_, rfl, (ownsRow_sl1 h (by omega)).mono fun b hb => hb.1, HB.out⟩
    · have hown := HO.out
      go_wp2_with (at_builtin; go_loud (refine wpList_push1 rfl _ _ 36 rfl 4 (.bool false) 1 Tryz.underlying36 HI.out rfl w.heap.size u5 j _ wr _ rfl rfl hown rfl (by omega) (by omega) (by omega) ?_); intro g3 cap3 w3 hown3 hg3 hs3 hgb hgl _; have HB3 := Lib.hid (HB.out.grown hg3 (by omega) (fun k hk => (hown.lt k hk).1)); have HO3 := Lib.hid hown3; clear hown3 hg3 hown)
      go_roundg g
      case measure => omega
      case rel =>
        refine ⟨j + 1, by omega, by go_num, HB3.out, ?_⟩
        have h := HO3.out
        rw [assM_take n k j (by omega), List.map_append, show n - 1 - j = g by omega, ← bit_test]
        exact h
end Go.Proofs.YteadlkecngfcoaaGreatDoor
