/- (Trace text seat) Walk: few, of the statements, with the sum that it counts. No condition. -/
import Derived.Test.YtljaegmmfjllkaaGreatDoorVh
namespace Go.Proofs.YtljaegmmfjllkaaGreatDoor
open Go.ChangeShapes Go.WideShapes Go.ChangeAt Go.RowKit
set_option linter.unusedVariables false

def szK : List (List Int) → Nat
  | [] => 0
  | c :: r => 1 + c.length + szK r
def szT : List Claim → Nat
  | [] => 0
  | c :: r => c.kids.length + szK c.cls + szT r
theorem szK_app : ∀ (l : List (List Int)) (x : List Int), szK (l ++ [x]) = szK l + (1 + x.length)
  | [], x => by simp [szK]
  | c :: r, x => by rw [List.cons_append, szK, szK, szK_app r x]; omega
theorem szT_app : ∀ (l : List Claim) (c : Claim), szT (l ++ [c]) = szT l + (c.kids.length + szK c.cls)
  | [], c => by simp [szT]
  | d :: r, c => by rw [List.cons_append, szT, szT, szT_app r c]; omega
def TFewPost (W : World) (ts : List Claim) (e : Ending) (w' : World) : Prop := ∃ B, e = .returned (.bool B) ∧ Below W.heap.size W w' ∧ (B = true → ts.length ≤ 120 ∧ szT ts ≤ 3000)
theorem tfew_no {W w' : World} {ts : List Claim} (h : Below W.heap.size W w') : TFewPost W ts (.returned (.bool false)) w' := ⟨false, rfl, h, fun h => by cases h⟩
set_option maxRecDepth 100000 in
set_option maxHeartbeats 4000000 in
theorem tfew_any (tv : Value) (ts : List Claim) (w : World) (hx : Claims (fun _ => True) w tv ts) :
    Calls Tryz.prog 6 #[.agg #[tv]] w (TFewPost w ts) := by
  obtain ⟨ta, tn, tc, rfl, HTN, htn⟩ := hx.form
  obtain ⟨bb, hbb⟩ : ∃ b, w.heap.size = b := ⟨_, rfl⟩
  obtain ⟨W1, hW1⟩ : ∃ W, w.alloc (.cells #[.slice ta tn tc] 24) = W := ⟨_, rfl⟩
  have hb1 : Below w.heap.size w W1 := by rw [← hW1]; exact (Below.refl _ _).alloc (Nat.le_refl _) _
  have HX := Lib.hid (hx.below hb1)
  have HB1 := Lib.hid hb1
  have HW1 := Lib.hid hW1
  clear hx hb1 hW1
  by_cases h120 : 120 < tn
  · have hd : decide (120 < (tn : Int)) = true := decide_eq_true (by omega)
    have hd' : decide (120 < tn) = true := decide_eq_true h120
    go_enter Tryz.func6, Tryz.ntmps6
    go_wp2_with fail
    rw [HW1.out]
    go_ret
    exact tfew_no HB1.out
  have hd : decide (120 < (tn : Int)) = false := decide_eq_false (by omega)
  have hd' : decide (120 < tn) = false := decide_eq_false h120
  have hn1 : tn ≤ 120 := by omega
  have HBL : Hid (Below w.heap.size w W1) := HB1
  clear h120
  go_enter Tryz.func6, Tryz.ntmps6
  go_wp2_with fail
  rw [HW1.out]
  go_loopg [3, 14] tn (fun gg u3 u14 wx => ∃ (k : Nat) (l : Int), k + gg = tn ∧ u14 = .int .i64 k ∧ u3 = .int .i64 l ∧ 0 ≤ l ∧ l ≤ 3000 ∧ Hid (Below w.heap.size w wx) ∧ Hid (Below W1.heap.size W1 wx) ∧ Hid ((szT (ts.take k) : Int) + l ≤ 3000))
  case atStart => exact ⟨0, 3000, by omega, rfl, rfl, by omega, by omega, HBL, Lib.hid (Below.refl _ _), Lib.hid (by simp [szT])⟩
  case round =>
  obtain ⟨k, l, hkg, rfl, rfl, hl0, hl1, HB, HB2, HS⟩ := hrel
  have hsz := HB.out.size
  by_cases hk : k < tn
  case neg =>
    obtain rfl : k = tn := by omega
    have hdk : decide ((k : Int) < k) = false := by simp
    have hdk' : decide (k < k) = false := decide_eq_false (by omega)
    have hs := HS.out
    rw [List.take_of_length_le (by rw [HTN.out]; exact Nat.le_refl _)] at hs
    have HSF := Lib.hid hs
    clear hs HS
    go_wp2_with fail
    go_ret
    exact ⟨true, rfl, HB.out, fun _ => ⟨by rw [← HTN.out]; exact hn1, by have := HSF.out; omega⟩⟩
  obtain ⟨c, hc⟩ : ∃ c, ts[k]? = some c := ⟨_, List.getElem?_eq_getElem (by rw [← HTN.out]; exact hk)⟩
  obtain ⟨xb, xo, xcv, xkv, rfl, _, hxb, j0, j1, j2, j3, j4, ⟨⟨hxc, _, _, hxk, _⟩, _⟩⟩ := (HX.out.below HB2.out).at hc
  have hxc : Clss (fun _ => True) wr xcv c.cls := hxc
  have hxk : Ints (fun _ => True) wr xkv c.kids := hxk
  obtain ⟨xa, xn, xc, rfl, HXN, hxn⟩ := hxc.form'
  obtain ⟨ya, yn, yc, rfl, HYN, hyn⟩ := hxk.form'
  have hdk : decide ((k : Int) < tn) = true := by simp; omega
  have hdk' : decide (k < tn) = true := decide_eq_true hk
  have HT : Hid (ts.take (k + 1) = ts.take k ++ [c]) := Lib.hid (by rw [List.take_add_one, hc]; rfl)
  obtain ⟨g1, hg1⟩ : ∃ g, wr.heap.size = g := ⟨_, rfl⟩
  obtain ⟨W2, hW2⟩ : ∃ W, wr.alloc (.cells #[.slice xa xn xc, .int .i64 c.rule, .int .i64 c.lit, .slice ya yn yc, .int .i64 c.count] 45) = W := ⟨_, rfl⟩
  have hb2 : Below wr.heap.size wr W2 := by rw [← hW2]; exact (Below.refl _ _).alloc (Nat.le_refl _) _
  have hs2 : W2.heap.size = g1 + 1 := by rw [← hW2]; simp; omega
  have q0 : W2.cell? ⟨g1, 0, none⟩ = some (.slice xa xn xc) := by rw [← hg1, ← hW2, cell_of_row _ _ _ _ _ _ (new_at _ _)]; rfl
  have HXC := Lib.hid (hxc.below hb2)
  have HBW := Lib.hid (HB.out.trans (hb2.mono hsz))
  have HBW2 := Lib.hid (HB2.out.trans (hb2.mono HB2.out.size))
  have HW2 := Lib.hid hW2
  have HG1 := Lib.hid hg1
  have hw0 : wrap64 (l - (yn : Int)) = l - yn := IntWalk.wrap64_in _ ⟨by omega, by omega⟩
  have hw0' : IntKind.i64.wrap (l - (yn : Int)) = l - yn := IntWalk.i64_in _ ⟨by omega, by omega⟩
  obtain ⟨Z, hZ⟩ : ∃ Z, szT (ts.take k) = Z := ⟨_, rfl⟩
  have hz0 := HS.out
  rw [hZ] at hz0
  have HI0 : Hid (0 ≤ l - (yn : Int) → (Z : Int) + yn + szK (c.cls.take 0) + (l - yn) ≤ 3000) := Lib.hid fun h => by simp only [List.take_zero, szK]; omega
  have HZ := Lib.hid hZ
  clear hZ hz0 HS
  obtain ⟨GK, hGK⟩ : ∃ G, G = gk := ⟨_, rfl⟩
  subst hGK
  clear hc hxc hxk hb2 hW2 hg1
  go_wp2_with fail
  rw [HW2.out, HG1.out]
  go_loopg [3, 6] xn (fun gg u3 u6 wx => ∃ (i : Nat) (m : Int), i + gg = xn ∧ u6 = .int .i64 i ∧ u3 = .int .i64 m ∧ -9223372036854775808 ≤ m ∧ m ≤ 3000 ∧ wx = W2 ∧ Hid (0 ≤ m → (Z : Int) + yn + szK (c.cls.take i) + m ≤ 3000))
  case atStart => exact ⟨0, l - yn, by omega, rfl, rfl, by omega, by omega, rfl, HI0⟩
  case round =>
  obtain ⟨i, m, hig, rfl, rfl, hm0, hm1, hww, HI⟩ := hrel
  subst hww
  by_cases hm : 0 ≤ m
  case neg =>
    have hmb : decide (0 ≤ m) = false := decide_eq_false hm
    have hml : decide (m < 0) = true := decide_eq_true (by omega)
    by_cases hi : i < xn
    · have hdi : decide ((i : Int) < xn) = true := by simp; omega
      have hdi' : decide (i < xn) = true := decide_eq_true hi
      clear hm
      go_wp2_with fail
      go_ret
      exact tfew_no HBW.out
    · have hdi : decide ((i : Int) < xn) = false := by simp; omega
      have hdi' : decide (i < xn) = false := decide_eq_false hi
      clear hm
      go_wp2_with fail
      go_ret
      exact tfew_no HBW.out
  have hmb : decide (0 ≤ m) = true := decide_eq_true hm
  have hml : decide (m < 0) = false := decide_eq_false (by omega)
  have i3 := HI.out hm
  by_cases hi : i < xn
  case neg =>
    have hdi : decide ((i : Int) < xn) = false := by simp; omega
    have hdi' : decide (i < xn) = false := decide_eq_false hi
    rw [List.take_of_length_le (by rw [← HXN.out]; omega)] at i3
    have HSN : Hid ((szT (ts.take (k + 1)) : Int) + m ≤ 3000) := Lib.hid (by
      rw [HT.out, szT_app, HZ.out, ← HYN.out]
      omega)
    clear i3 HI
    go_wp2_with fail
    go_roundg (GK - 1)
    case measure => omega
    case rel => exact ⟨k + 1, m, by omega, by go_num, rfl, hm, hm1, HBW, HBW2, HSN⟩
  obtain ⟨x, hxi⟩ : ∃ x, c.cls[i]? = some x := ⟨_, List.getElem?_eq_getElem (by rw [← HXN.out]; exact hi)⟩
  obtain ⟨zb, zo, uv, rfl, _, hzb, hcz, hzi⟩ := HXC.out.at hxi
  obtain ⟨ua, un, uc, rfl, HUN, hun⟩ := hzi.form'
  have hdi : decide ((i : Int) < xn) = true := by simp; omega
  have hdi' : decide (i < xn) = true := decide_eq_true hi
  have hil : (i : Int) < xn := by omega
  have HTI : Hid (c.cls.take (i + 1) = c.cls.take i ++ [x]) := Lib.hid (by rw [List.take_add_one, hxi]; rfl)
  have HI2 : Hid (0 ≤ m - 1 - (un : Int) → (Z : Int) + yn + szK (c.cls.take (i + 1)) + (m - 1 - un) ≤ 3000) := Lib.hid fun h => by
    rw [HTI.out, szK_app, ← HUN.out]
    omega
  clear hxi hzi i3 HI
  by_cases hbig : (un : Int) ≤ 9223372036854775806
  · have hv : m - (1 + (un : Int)) = m - 1 - un := by omega
    go_wp2_with fail
    go_roundg (gk - 1)
    case measure => omega
    case rel => exact ⟨i + 1, m - 1 - un, by omega, by go_num, by rw [show m - 1 - (un : Int) = m - (1 + un) by omega], by omega, by omega, rfl, HI2⟩
  · have hv : wrap64 (1 + (un : Int)) = -9223372036854775808 := by rw [show (un : Int) = 9223372036854775807 by omega]; unfold wrap64; omega
    have hv2 : wrap64 (m + 9223372036854775808) = m - 1 - un := by rw [show (un : Int) = 9223372036854775807 by omega]; unfold wrap64; omega
    go_wp2_with fail
    go_roundg (gk - 1)
    case measure => omega
    case rel => exact ⟨i + 1, m - 1 - un, by omega, by go_num, rfl, by omega, by omega, rfl, HI2⟩
end Go.Proofs.YtljaegmmfjllkaaGreatDoor
