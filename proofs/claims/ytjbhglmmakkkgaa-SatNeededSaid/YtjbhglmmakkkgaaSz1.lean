/- The statement's assignment: plain, and walked. -/
import Derived.Test.YtjbhglmmakkkgaaSy2
namespace Go.Proofs.Ytjbhglmmakkkgaa
open Go.ChangeShapes Go.WideShapes Go.ChangeAt Go.RowKit
set_option linter.unusedVariables false

/-- the assignment with the number k -/
def asgM : Nat → Nat → List Bool
  | 0, _ => []
  | n + 1, k => decide (k / 2 ^ n % 2 = 1) :: asgM n k
theorem asg_len : ∀ (n k : Nat), (asgM n k).length = n
  | 0, _ => rfl
  | n + 1, k => by rw [asgM, List.length_cons, asg_len n]
theorem asg_val : ∀ (n k : Nat), val (asgM n k) = k % 2 ^ n
  | 0, k => by simp [asgM, val, Nat.mod_one]
  | n + 1, k => by
    rw [asgM, val, asg_len, asg_val n, Nat.pow_succ, Nat.mod_mul]
    rcases Nat.mod_two_eq_zero_or_one (k / 2 ^ n) with h | h
    · simp [h]
    · simp [h]; omega
theorem asg_of_val (x : List Bool) : asgM x.length (val x) = x :=
  val_inj _ _ (asg_len _ _) (by rw [asg_val, Nat.mod_eq_of_lt (val_lt x)])

set_option maxHeartbeats 2000000 in
theorem assignment_any (V k : Nat) (w : World) (hV : V ≤ 24) (hk : k < 4611686018427387904) :
    Calls Try.prog 22 #[.int .i64 (V : Int), .int .i64 (k : Int)] w (BoolsPost w (asgM V k)) := by
  have hinfo : (Try.prog.info? 4).map (fun i => (i.zero, i.size, i.bytes)) = some (some (.bool false), 1, 1) := by kernel_rfl
  obtain ⟨i0, g1, g2, g3, g4⟩ := info_parts hinfo
  have G1 := Lib.hid g1
  have G2 := Lib.hid g2
  have G3 := Lib.hid g3
  have G4 := Lib.hid g4
  clear hinfo g1 g2 g3 g4
  go_enter Try.func22, Try.ntmps22
  go_upto_region 2 with (at_make; refine wpList_make_full _ rfl _ _ 37 rfl w.heap.size 4 i0 (.bool false) 1 (by kernel_rfl) G1.out G2.out G3.out .i64 .i64 _ _ V rfl rfl (by simp) (by simp) (by rw [G4.out]; omega) (by unfold maxLen; omega) (by simp) ?_; intro w5 hown5 hg5; have HB5 := Lib.hid ((Below.refl _ _).grown hg5 (Nat.le_refl _) (by intro k hk; cases hk)); have HO5 := Lib.hid hown5; clear hown5 hg5)
  have hown6 := HO5.out
  rw [made_bools] at hown6
  clear HO5
  go_wp2
  go_loopg [1, 6] V (fun gg u1 u6 wx => ∃ (j kk : Nat) (xs : List Bool), j + gg = V ∧ u6 = .int .i64 ((gg : Int) - 1) ∧ u1 = .int .i64 kk ∧ kk ≤ k ∧ wx.ownsRow w.heap.size 4 1 (.slice (some ⟨w.heap.size, 0, none⟩) V V) V (xs.map .bool) ∧ Hid (Below w.heap.size w wx) ∧ Hid (kk = k / 2 ^ j) ∧ Hid (xs.drop gg = asgM j k))
  case atStart => exact ⟨0, k, _, by omega, by go_num, rfl, by omega, hown6, HB5, Lib.hid (by simp), Lib.hid (by rw [List.drop_eq_nil_of_le (by simp)]; rfl)⟩
  case round =>
  clear hown6 HB5
  obtain ⟨j, kk, xs, hj, rfl, rfl, hkk, hown, HB, HK, HX⟩ := hrel
  have hxl : xs.length = V := by simpa using hown.1
  rcases gk with _ | g
  · have HXX : Hid (xs = asgM V k) := Lib.hid (by have := HX.out; rw [List.drop_zero] at this; rw [this, show j = V by omega])
    have HOW := Lib.hid hown
    clear HX hown
    go_wp2
    go_ret
    exact ⟨_, rfl, by rw [← HXX.out]; exact (ownsRow_sl1 HOW.out (by omega)).mono fun b hb => hb.1, HB.out⟩
  · have hgV : g < V := by omega
    obtain ⟨x1, hx1, hc1, hz1, _, hlt1, hset⟩ := own_at .bool hown hgV
    obtain ⟨r, hr⟩ : ∃ r, kk % 2 = r := ⟨_, rfl⟩
    obtain ⟨q, hq⟩ : ∃ r, kk / 2 = r := ⟨_, rfl⟩
    have HR := Lib.hid hr
    have HQ := Lib.hid hq
    have hm : ((kk : Int) % 2) = (r : Int) := by omega
    have hm2 : ((kk : Int).tmod 2) = (r : Int) := by rw [Int.tmod_eq_emod_of_nonneg (by omega)]; omega
    have hdv : ((kk : Int) / 2) = (q : Int) := by omega
    have hdv2 : ((kk : Int).tdiv 2) = (q : Int) := by rw [Int.tdiv_eq_ediv_of_nonneg (by omega)]; omega
    have hwg : ((g + 1 : Nat) : Int) - 1 = (g : Int) := by omega
    have hq1 : q ≤ k := by omega
    have HK2 : Hid (q = k / 2 ^ (j + 1)) := Lib.hid (by rw [← hq, HK.out, Nat.pow_succ, Nat.div_div_eq_div_mul])
    obtain ⟨bt, hbt⟩ : ∃ b, decide (r = 1) = b := ⟨_, rfl⟩
    have hbt2 : ((r : Int) == 1) = bt := by rw [← hbt, Bool.eq_iff_iff]; simp; omega
    have HX2 : Hid ((xs.set g bt).drop g = asgM (j + 1) k) := Lib.hid (by
      rw [asgM, ← HK.out, ← HX.out]
      rw [List.drop_eq_getElem_cons (by simp; omega)]
      rw [List.drop_set_of_lt (by omega)]
      simp [hr, hbt])
    have hown2 := hset bt
    have HOW2 := Lib.hid hown2
    have HB2 := Lib.hid (HB.out.setCell (p := ⟨w.heap.size, g, none⟩) (Nat.le_refl _) (.bool bt))
    clear hr hq hx1 hset hown2 hown HX HK hbt
    go_wp2
    go_roundg g
    case measure => omega
    case rel => exact ⟨j + 1, q, _, by omega, by go_num, rfl, hq1, HOW2.out, HB2, HK2, HX2⟩
end Go.Proofs.Ytjbhglmmakkkgaa
