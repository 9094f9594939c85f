/- (Trace seat Z) Walk: range1 of the statement's definitions. No condition but the range. -/
import Derived.Test.YtihkknploioakaaGreatWa
import Derived.Test.YtihkknploioakaaGreatIv
namespace Go.Proofs.YtihkknploioakaaGreat
open Go.ChangeShapes Go.WideShapes Go.ChangeAt Go.RowKit
set_option linter.unusedVariables false

set_option maxRecDepth 100000 in
set_option maxHeartbeats 4000000 in
theorem range1_any (N : Nat) (w : World) (hN : N ≤ 1000) : Calls Tryz.prog 22 #[.int .i64 N] w (KeptPost w (ivl 0 N)) := by
  have HI1 := Lib.hid (show (Tryz.prog.info? 3).map (fun i => (i.zero, i.size, i.bytes)) = some (some (.int .i64 0), 1, 8) by kernel_rfl)
  obtain ⟨W1, hW1⟩ : ∃ W, w.alloc (.cells #[] 3) = W := ⟨_, rfl⟩
  have hb1 : Below w.heap.size w W1 := by rw [← hW1]; exact (Below.refl _ _).alloc (Nat.le_refl _) _
  have ho1 : W1.ownsRow w.heap.size 3 1 (.slice (some ⟨w.heap.size, 0, none⟩) 0 0) ([] : List Int).length (([] : List Int).map (.int .i64)) := by rw [← hW1]; simpa using own_new (base := w.heap.size) (w := w) #[] 3 (by omega) (by simp)
  have HB0 := Lib.hid hb1
  have HO0 : Hid (W1.ownsRow w.heap.size 3 1 (.slice (some ⟨w.heap.size, 0, none⟩) 0 0) 0 ((ivl 0 0).map (.int .i64))) := Lib.hid ho1
  clear hb1 ho1
  go_enter Tryz.func22, Tryz.ntmps22
  go_wp2_with fail
  try rw [hW1]
  clear hW1
  go_loopg [3, 4] N (fun gg u3 u4 wx => ∃ (j : Nat) (rv : Value), j + gg = N ∧ u4 = .int .i64 ((j : Int) + 1) ∧ u3 = rv ∧ Hid (Below w.heap.size w wx) ∧ Hid (wx.ownsRow w.heap.size 3 1 rv j ((ivl 0 j).map (.int .i64))))
  case atStart => exact ⟨0, _, by omega, by go_num, rfl, HB0, HO0⟩
  case round =>
  clear HB0 HO0
  obtain ⟨j, rv, hjg, rfl, rfl, HB, HR⟩ := hrel
  obtain ⟨ra, rc, hrv⟩ := own_form HR.out
  subst hrv
  have hszr := HB.out.size
  by_cases hj : j < N
  case neg =>
    have hd : decide ((j : Int) + 1 ≤ N) = false := decide_eq_false (by omega)
    obtain rfl : j = N := by omega
    have HF : Hid (KeptPost w (ivl 0 j) (.returned (.slice ra j rc)) wr) := Lib.hid ⟨_, rfl, HB.out, by rw [ivl_len]; exact HR.out⟩
    clear HR
    go_wp2_with fail
    go_ret
    exact HF.out
  have hd : decide ((j : Int) + 1 ≤ N) = true := decide_eq_true (by omega)
  have hown := HR.out
  have hw2 : IntKind.i64.wrap ((j : Int) + 1 + 1) = (j : Int) + 1 + 1 := IntWalk.i64_in _ ⟨by omega, by omega⟩
  go_wp2_with (at_builtin; go_loud (refine wpList_push1 rfl _ _ 40 rfl 3 (.int .i64 0) 8 Tryz.underlying40 HI1.out rfl w.heap.size (.slice ra j rc) j ((ivl 0 j).map (.int .i64)) wr (.int .i64 ((j : Int) + 1)) rfl rfl hown rfl (by omega) (by omega) (by omega) ?_); intro g7 cap7 w7 hown7 hg7 hs7 hgb hgl hat; have HB7 := Lib.hid (HB.out.grown hg7 (by omega) (fun k hk => (hown.lt k hk).1)); have HO7 : Hid (w7.ownsRow w.heap.size 3 1 (.slice (some ⟨g7, 0, none⟩) (j + 1) cap7) (j + 1) ((ivl 0 (j + 1)).map (.int .i64))) := Lib.hid (by rw [ivl_succ, List.map_append, show (0 : Int) + j + 1 = j + 1 by omega]; exact hown7); clear hown7 hg7 hown HR)
  go_roundg (gk - 1)
  case measure => omega
  case rel => exact ⟨j + 1, _, by omega, by go_num, rfl, HB7, HO7⟩
end Go.Proofs.YtihkknploioakaaGreat
