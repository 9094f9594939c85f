/- (Trace seat Z) Walk: canonical of the statement's definitions. No condition but the sizes. -/
import Derived.Test.YtihkknploioakaaGreatWd
import Derived.Test.YtihkknploioakaaGreatKr
namespace Go.Proofs.YtihkknploioakaaGreat
open Go.ChangeShapes Go.WideShapes Go.ChangeAt Go.RowKit
set_option linter.unusedVariables false

set_option maxRecDepth 100000 in
set_option maxHeartbeats 2000000 in
theorem lcan_any (F : Nat → Prop) (v : Value) (cs : List (List Int)) (w : World) (hx : Clss F w v cs) (hl : cs.length ≤ 4000) (hll : ∀ c ∈ cs, c.length ≤ 4000) :
    Calls Tryz.prog 31 #[v] w (BoolPost w (canB cs)) := by
  obtain ⟨a, n, c, rfl, HN, hn⟩ := hx.form'
  obtain ⟨R, hR⟩ : ∃ R, canB cs = R := ⟨_, rfl⟩
  have HR : Hid (((cs.drop 0).all (fun c => c.all litOk) && (canM cs == cs)) = R) := Lib.hid hR
  rw [hR]
  have HX := Lib.hid hx
  have HCA := Lib.hid (lcanonical_any F _ cs w hx (by omega) (fun x hx => by have := hll x hx; omega))
  have hn4 : n ≤ 4000 := by rw [HN.out]; exact hl
  have HLL := Lib.hid hll
  clear hR hx hl hll
  go_enter Tryz.func31, Tryz.ntmps31
  go_wp2_with fail
  go_loopg [9] n (fun gg u9 wx => ∃ (k : Nat), k + gg = n ∧ u9 = .int .i64 k ∧ wx = w ∧ Hid (((cs.drop k).all (fun c => c.all litOk) && (canM cs == cs)) = R))
  case atStart => exact ⟨0, by omega, rfl, rfl, HR⟩
  case round =>
  obtain ⟨k, hkg, rfl, hww, HM⟩ := hrel
  subst hww
  by_cases hk : k < n
  case neg =>
    obtain rfl : k = n := by omega
    have hdk : decide ((k : Int) < k) = false := by simp
    have hdk' : decide (k < k) = false := decide_eq_false (by omega)
    have hh := HM.out
    rw [List.drop_eq_nil_of_le (by rw [HN.out]; exact Nat.le_refl _), List.all_nil, Bool.true_and] at hh
    have HH := Lib.hid hh
    clear hh HM
    go_wp2_with fail
    refine HCA.out.mono ?_
    rintro e w2 ⟨cv, rfl, hcv, hb2⟩
    have heq := lequal_any _ _ _ _ w2 (HX.out.below hb2) hcv
    rw [show (cs == canM cs) = (canM cs == cs) from Bool.eq_iff_iff.2 ⟨fun h => beq_iff_eq.2 (beq_iff_eq.1 h).symm, fun h => beq_iff_eq.2 (beq_iff_eq.1 h).symm⟩] at heq
    have HEQ := Lib.hid heq
    clear heq
    have HB2 := Lib.hid hb2
    obtain ⟨_, _, _, rfl, _, _⟩ := hcv.form'
    clear hcv hb2
    go_wp2_with fail
    refine HEQ.out.mono ?_
    rintro e w3 ⟨rfl, nd, rfl⟩
    have HB3 := Lib.hid (below_drewN HB2.out nd)
    rw [HH.out]
    go_wp2_with fail
    go_ret
    exact ⟨rfl, HB3.out⟩
  obtain ⟨x, hxk, ex⟩ := drop_at (xs := cs) (k := k) (by rw [← HN.out]; exact hk)
  obtain ⟨xb, xo, u, rfl, _, hxb, hcx, hxi⟩ := HX.out.at hxk
  obtain ⟨ya, yn, yc, rfl, HYN, _⟩ := hxi.form'
  have hyn : yn ≤ 4000 := by rw [HYN.out]; exact HLL.out x (List.mem_of_getElem? hxk)
  have hdk : decide ((k : Int) < n) = true := by simp; omega
  have hdk' : decide (k < n) = true := decide_eq_true hk
  have hh := HM.out
  rw [ex, List.all_cons, Bool.and_assoc] at hh
  obtain ⟨T, hT⟩ : ∃ T, ((cs.drop (k + 1)).all (fun c => c.all litOk) && (canM cs == cs)) = T := ⟨_, rfl⟩
  rw [hT] at hh
  have HT := Lib.hid hT
  have HH : Hid ((((x.drop 0).all litOk) && T) = R) := Lib.hid hh
  have HXI := Lib.hid hxi
  obtain ⟨GK, hGK⟩ : ∃ G, G = gk := ⟨_, rfl⟩
  subst hGK
  obtain ⟨wo, hwo⟩ : ∃ W, W = wr := ⟨_, rfl⟩
  subst hwo
  clear hh hT HM hxi hxk ex
  go_wp2_with fail
  go_loopg [15] yn (fun gg u15 wx => ∃ (j : Nat), j + gg = yn ∧ u15 = .int .i64 j ∧ wx = wo ∧ Hid ((((x.drop j).all litOk) && T) = R))
  case atStart => exact ⟨0, by omega, rfl, rfl, HH⟩
  case round =>
  obtain ⟨j, hjg, rfl, hww, HM⟩ := hrel
  subst hww
  by_cases hj : j < yn
  case neg =>
    obtain rfl : j = yn := by omega
    have hdj : decide ((j : Int) < j) = false := by simp
    have hdj' : decide (j < j) = false := decide_eq_false (by omega)
    have hh := HM.out
    rw [List.drop_eq_nil_of_le (by rw [HYN.out]; exact Nat.le_refl _), List.all_nil, Bool.true_and] at hh
    have HF := Lib.hid (HT.out.trans hh)
    clear hh HM
    go_wp2_with fail
    go_roundg (GK - 1)
    case measure => omega
    case rel => exact ⟨k + 1, by omega, by go_num, rfl, HF⟩
  obtain ⟨y, hyk, ey⟩ := drop_at (xs := x) (k := j) (by rw [← HYN.out]; exact hj)
  obtain ⟨yb, yo, rfl, _, hyb, hcy, hyi⟩ := HXI.out.at hyk
  have hdj : decide ((j : Int) < yn) = true := by simp; omega
  have hdj' : decide (j < yn) = true := decide_eq_true hj
  have hh := HM.out
  rw [ey, List.all_cons, Bool.and_assoc] at hh
  have HY := Lib.hid hyi
  by_cases h0 : y = 0
  · have hl0 : litOk y = false := by rw [h0]; rfl
    rw [hl0, Bool.false_and] at hh
    have HF := Lib.hid hh
    have e0 : (y == 0) = true := by simp; exact h0
    clear hh HM hl0 h0 hyk ey hyi
    go_wp2_with fail
    go_ret
    exact ⟨by rw [← HF.out]; rfl, Below.refl _ _⟩
  have e0 : (y == 0) = false := by simp; exact h0
  by_cases h1 : 20000 < y
  · have hl0 : litOk y = false := by unfold litOk; rw [e0, decide_eq_true h1]; rfl
    rw [hl0, Bool.false_and] at hh
    have HF := Lib.hid hh
    have e1 : decide (20000 < y) = true := decide_eq_true h1
    clear hh HM hl0 h0 hyk ey hyi
    go_wp2_with fail
    go_ret
    exact ⟨by rw [← HF.out]; rfl, Below.refl _ _⟩
  have e1 : decide (20000 < y) = false := decide_eq_false h1
  by_cases h2 : y < -20000
  · have hl0 : litOk y = false := by unfold litOk; rw [e0, e1, decide_eq_true h2]; rfl
    rw [hl0, Bool.false_and] at hh
    have HF := Lib.hid hh
    have e2 : decide (y < -20000) = true := decide_eq_true h2
    clear hh HM hl0 h0 hyk ey hyi
    go_wp2_with fail
    go_ret
    exact ⟨by rw [← HF.out]; rfl, Below.refl _ _⟩
  have e2 : decide (y < -20000) = false := decide_eq_false h2
  have hl0 : litOk y = true := by unfold litOk; rw [e0, e1, e2]; rfl
  rw [hl0, Bool.true_and] at hh
  have HF := Lib.hid hh
  clear hh HM hl0 h0 hyk ey hyi h1 h2
  go_wp2_with fail
  go_roundg (gk - 1)
  case measure => omega
  case rel => exact ⟨j + 1, by omega, by go_num, rfl, HF⟩
end Go.Proofs.YtihkknploioakaaGreat
