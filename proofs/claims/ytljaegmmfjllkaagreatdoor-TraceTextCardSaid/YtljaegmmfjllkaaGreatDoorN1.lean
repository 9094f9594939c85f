/- (Trace text seat) Walk: printable, of the statements. No condition. -/
import Derived.Test.YtljaegmmfjllkaaGreatDoorNy
import Derived.Test.YtljaegmmfjllkaaGreatDoorKo
namespace Go.Proofs.YtljaegmmfjllkaaGreatDoor
open Go.ChangeShapes Go.WideShapes Go.ChangeAt Go.RowKit
set_option linter.unusedVariables false

def zerB (cs : List (List Int)) : Bool := cs.any fun x => x.contains 0
theorem zero_cons (c : Claim) (r : List Claim) : zeroB (c :: r) = (zerB c.cls || zeroB r) := rfl
theorem zer_cons (x : List Int) (r : List (List Int)) : zerB (x :: r) = (x.contains 0 || zerB r) := rfl
set_option maxRecDepth 100000 in
set_option maxHeartbeats 4000000 in
theorem printable_any (tv : Value) (ts : List Claim) (w : World) (hx : Claims (fun _ => True) w tv ts) :
    Calls Tryz.prog 8 #[.agg #[tv]] w (BoolPost w (!zeroB ts)) := by
  obtain ⟨ta, tn, tc, rfl, HTN, htn⟩ := hx.form
  obtain ⟨W1, hW1⟩ : ∃ W, w.alloc (.cells #[.slice ta tn tc] 24) = W := ⟨_, rfl⟩
  have hb1 : Below w.heap.size w W1 := by rw [← hW1]; exact (Below.refl _ _).alloc (Nat.le_refl _) _
  have HX := Lib.hid (hx.below hb1)
  have HBL : Hid (Below w.heap.size w W1) := Lib.hid hb1
  have HW1 := Lib.hid hW1
  obtain ⟨R, hR⟩ : ∃ R, (!zeroB ts) = R := ⟨_, rfl⟩
  have HR : Hid (R = !zeroB (ts.drop 0)) := Lib.hid hR.symm
  rw [hR]
  clear hx hb1 hW1 hR
  go_enter Tryz.func8, Tryz.ntmps8
  go_wp2_with fail
  rw [HW1.out]
  go_loopg [12] tn (fun gg u12 wx => ∃ (k : Nat), k + gg = tn ∧ u12 = .int .i64 k ∧ Hid (Below w.heap.size w wx) ∧ Hid (Below W1.heap.size W1 wx) ∧ Hid (R = !zeroB (ts.drop k)))
  case atStart => exact ⟨0, by omega, rfl, HBL, Lib.hid (Below.refl _ _), HR⟩
  case round =>
  obtain ⟨k, hkg, rfl, HB, HB2, HS⟩ := hrel
  have hsz := HB.out.size
  by_cases hk : k < tn
  case neg =>
    obtain rfl : k = tn := by omega
    have hdk : decide ((k : Int) < k) = false := by simp
    have hdk' : decide (k < k) = false := decide_eq_false (by omega)
    have HF : Hid (R = true) := Lib.hid (by rw [HS.out, List.drop_eq_nil_of_le (by rw [HTN.out]; exact Nat.le_refl _)]; rfl)
    clear HS HR
    go_wp2_with fail
    go_ret
    exact ⟨by rw [HF.out]; rfl, HB.out⟩
  obtain ⟨c, hc, ec⟩ := drop_at (xs := ts) (k := k) (by rw [← HTN.out]; exact hk)
  obtain ⟨xb, xo, xcv, xkv, rfl, _, hxb, j0, j1, j2, j3, j4, ⟨⟨hxc, _, _, hxk, _⟩, _⟩⟩ := (HX.out.below HB2.out).at hc
  have hxc : Clss (fun _ => True) wr xcv c.cls := hxc
  have hxk : Ints (fun _ => True) wr xkv c.kids := hxk
  obtain ⟨xa, xn, xc, rfl, HXN, hxn⟩ := hxc.form'
  obtain ⟨ya, yn, yc, rfl, HYN, hyn⟩ := hxk.form'
  have hdk : decide ((k : Int) < tn) = true := by simp; omega
  have hdk' : decide (k < tn) = true := decide_eq_true hk
  have HS1 : Hid (R = !(zerB (c.cls.drop 0) || zeroB (ts.drop (k + 1)))) := Lib.hid (by rw [HS.out, ec, zero_cons]; rfl)
  obtain ⟨ZR, hZR⟩ : ∃ z, zeroB (ts.drop (k + 1)) = z := ⟨_, rfl⟩
  rw [hZR] at HS1
  have HZR := Lib.hid hZR
  obtain ⟨g1, hg1⟩ : ∃ g, wr.heap.size = g := ⟨_, rfl⟩
  obtain ⟨W2, hW2⟩ : ∃ W, wr.alloc (.cells #[.slice xa xn xc, .int .i64 c.rule, .int .i64 c.lit, .slice ya yn yc, .int .i64 c.count] 45) = W := ⟨_, rfl⟩
  have hb2 : Below wr.heap.size wr W2 := by rw [← hW2]; exact (Below.refl _ _).alloc (Nat.le_refl _) _
  have q0 : W2.cell? ⟨g1, 0, none⟩ = some (.slice xa xn xc) := by rw [← hg1, ← hW2, cell_of_row _ _ _ _ _ _ (new_at _ _)]; rfl
  have HXC := Lib.hid (hxc.below hb2)
  have HBW := Lib.hid (HB.out.trans (hb2.mono hsz))
  have HBW2 := Lib.hid (HB2.out.trans (hb2.mono HB2.out.size))
  have HW2 := Lib.hid hW2
  have HG1 := Lib.hid hg1
  obtain ⟨GK, hGK⟩ : ∃ G, G = gk := ⟨_, rfl⟩
  subst hGK
  clear hc hxc hxk hb2 hW2 hg1 ec HS hZR HR
  go_wp2_with fail
  rw [HW2.out, HG1.out]
  go_loopg [19] xn (fun gg u19 wx => ∃ (i : Nat), i + gg = xn ∧ u19 = .int .i64 i ∧ wx = W2 ∧ Hid (R = !(zerB (c.cls.drop i) || ZR)))
  case atStart => exact ⟨0, by omega, rfl, rfl, HS1⟩
  case round =>
  obtain ⟨i, hig, rfl, hww, HI⟩ := hrel
  subst hww
  by_cases hi : i < xn
  case neg =>
    have hdi : decide ((i : Int) < xn) = false := by simp; omega
    have hdi' : decide (i < xn) = false := decide_eq_false hi
    have HSN : Hid (R = !zeroB (ts.drop (k + 1))) := Lib.hid (by rw [HI.out, List.drop_eq_nil_of_le (by rw [← HXN.out]; omega), HZR.out]; rfl)
    clear HI HS1
    go_wp2_with fail
    go_roundg (GK - 1)
    case measure => omega
    case rel => exact ⟨k + 1, by omega, by go_num, HBW, HBW2, HSN⟩
  obtain ⟨x, hxi, ex⟩ := drop_at (xs := c.cls) (k := i) (by rw [← HXN.out]; exact hi)
  obtain ⟨zb, zo, uv, rfl, _, hzb, hcz, hzi⟩ := HXC.out.at hxi
  obtain ⟨ua, un, uc, rfl, HUN, hun⟩ := hzi.form'
  have hdi : decide ((i : Int) < xn) = true := by simp; omega
  have hdi' : decide (i < xn) = true := decide_eq_true hi
  obtain ⟨ZI, hZI⟩ : ∃ z, (zerB (c.cls.drop (i + 1)) || ZR) = z := ⟨_, rfl⟩
  have HJ0 : Hid (R = !((x.drop 0).contains 0 || ZI)) := Lib.hid (by rw [HI.out, ex, zer_cons, ← hZI, Bool.or_assoc]; rfl)
  have HZI := Lib.hid hZI
  have HXI := Lib.hid hzi
  obtain ⟨GI, hGI⟩ : ∃ G, G = gk := ⟨_, rfl⟩
  subst hGI
  clear hxi hzi HI HS1 ex hZI
  go_wp2_with fail
  go_loopg [25] un (fun gg u25 wx => ∃ (j : Nat), j + gg = un ∧ u25 = .int .i64 j ∧ wx = wr ∧ Hid (R = !((x.drop j).contains 0 || ZI)))
  case atStart => exact ⟨0, by omega, rfl, rfl, HJ0⟩
  case round =>
  obtain ⟨j, hjg, rfl, hww, HJ⟩ := hrel
  subst hww
  by_cases hj : j < un
  case neg =>
    have hdj : decide ((j : Int) < un) = false := by simp; omega
    have hdj' : decide (j < un) = false := decide_eq_false hj
    have HIN : Hid (R = !(zerB (c.cls.drop (i + 1)) || ZR)) := Lib.hid (by rw [HJ.out, List.drop_eq_nil_of_le (by rw [← HUN.out]; omega), HZI.out]; rfl)
    clear HJ HJ0
    go_wp2_with fail
    go_roundg (GI - 1)
    case measure => omega
    case rel => exact ⟨i + 1, by omega, by go_num, rfl, HIN⟩
  obtain ⟨y, hy, ey⟩ := drop_at (xs := x) (k := j) (by rw [← HUN.out]; exact hj)
  obtain ⟨yb, yo, rfl, _, hyb, hyc, _⟩ := HXI.out.at hy
  have hdj : decide ((j : Int) < un) = true := by simp; omega
  have hdj' : decide (j < un) = true := decide_eq_true hj
  by_cases hy0 : y = 0
  · subst hy0
    have HF : Hid (R = false) := Lib.hid (by rw [HJ.out, ey]; simp)
    clear HJ HJ0 hy ey
    go_wp2_with fail
    go_ret
    exact ⟨by rw [HF.out]; rfl, HBW.out⟩
  · have hd0 : decide (y = 0) = false := decide_eq_false hy0
    have hd0' : (y == 0) = false := by simpa using hy0
    have HJN : Hid (R = !((x.drop (j + 1)).contains 0 || ZI)) := Lib.hid (by
      rw [HJ.out, ey, List.contains_cons, show ((0 : Int) == y) = false by simpa using fun e => hy0 e.symm]
      rfl)
    clear HJ HJ0 hy ey
    go_wp2_with fail
    go_roundg (gk - 1)
    case measure => omega
    case rel => exact ⟨j + 1, by omega, by go_num, rfl, HJN⟩
end Go.Proofs.YtljaegmmfjllkaaGreatDoor
