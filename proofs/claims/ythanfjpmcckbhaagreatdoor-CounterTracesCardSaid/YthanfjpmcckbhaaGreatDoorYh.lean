/- (Counter seat) Walk: frequent. No condition but the sizes and the ranges. -/
import Derived.Test.YthanfjpmcckbhaaGreatDoorQ9
import Derived.Test.YthanfjpmcckbhaaGreatDoorVz
import Derived.Shelf.Slices.CompactI
import Derived.Deep.DeepCutAuto
import Derived.Deep.LoopGhost
import Derived.BigQuiet
import Derived.Deep.QuietTactic
namespace Go.Proofs.YthanfjpmcckbhaaGreatDoor
open Go.ChangeShapes Go.WideShapes Go.ChangeAt Go.RowKit
set_option linter.unusedVariables false

theorem wrap_wf (y : Int) : (Lit.int .i64 (wrap64 y)).wf = true := by
  simp [wrap64, Lit.wf, IntKind.min, IntKind.max, IntKind.signed, IntKind.bits] <;> (try split) <;> omega
theorem wf_I64' {n : Int} (h : (Lit.int .i64 n).wf = true) : I64 n := by
  simp [Lit.wf, IntKind.min, IntKind.max, IntKind.signed, IntKind.bits] at h
  unfold I64
  omega
/-- a map from ints to ints of at most k keys -/
def CntM (w : World) (mb k : Nat) : Prop := ∃ (D : DataW Unit) (n : Nat), w.ownsMap Tryz.prog 3 (plainElem Tryz.prog 3) mb n D ∧ n ≤ k
section cntm
variable {w w' : World} {mb k : Nat}
theorem CntM.lt (h : CntM w mb k) : mb < w.heap.size := let ⟨_, _, h1, _⟩ := h; h1.lt
theorem CntM.mono (h : CntM w mb k) {m : Nat} (hm : k ≤ m) : CntM w mb m := let ⟨D, n, h1, h2⟩ := h; ⟨D, n, h1, Nat.le_trans h2 hm⟩
theorem CntM.look {x : Int} (h : CntM w mb k) (hx : I64 x) : ∃ c, I64 c ∧ (Instr.lookup 75 (.map (some mb)) (.int .i64 x) false).run Tryz.prog w = .ok (.int .i64 c) w := by
  obtain ⟨D, n, h1, _⟩ := h
  obtain ⟨v, ps, hrun, hv⟩ := h1.lookup law_int Tryz.underlying75 (z := .int .i64 0) (by kernel_rfl) (plainElem_int Tryz.underlying3 (by decide)) (keyOf_i hx)
  obtain ⟨c, rfl, hc, hw⟩ := plainElem_int_inv Tryz.underlying3 hv
  exact ⟨c, wf_I64' hw, hrun⟩
end cntm
/-- one of a list -/
def OneOf (W : World) (vs : List Int) (e : Ending) (w' : World) : Prop := ∃ v, v ∈ vs ∧ e = .returned (.int .i64 v) ∧ Below W.heap.size W w'
set_option maxRecDepth 100000 in
set_option maxHeartbeats 8000000 in
theorem frequent_any (F G : Nat → Prop) (lv vv : Value) (cs : List (List Int)) (vs : List Int) (w : World) (hc : Clss F w lv cs) (hv : Ints G w vv vs) (hne : 0 < vs.length) (hl : cs.length ≤ 4000) (hll : ∀ c ∈ cs, c.length ≤ 4000)
    (hr : ∀ c ∈ cs, ∀ x ∈ c, -20000 ≤ x ∧ x ≤ 20000) :
    Calls Tryz.prog 90 #[lv, vv] w (OneOf w vs) := by
  obtain ⟨ca, cn, cc, rfl, HCN, _⟩ := hc.form'
  obtain ⟨va, vn, vc, rfl, HVN, _⟩ := hv.form'
  obtain ⟨mb, hmb⟩ : ∃ mb, w.heap.size = mb := ⟨_, rfl⟩
  have HMB := Lib.hid hmb
  obtain ⟨W1, hW1⟩ : ∃ W, w.alloc (.map #[] 0) = W := ⟨_, rfl⟩
  have HB0 : Hid (Below mb w W1) := Lib.hid (by rw [← hmb, ← hW1]; exact (Below.refl _ _).alloc (Nat.le_refl _) _)
  have HS0 : Hid (CntM W1 mb (4000 * 0)) := Lib.hid (by rw [← hmb, ← hW1]; exact ⟨_, 0, World.ownsMap_made _ _ _ _, by omega⟩)
  have HZ0 : mb + 1 ≤ W1.heap.size := by rw [← hW1]; simp; omega
  have HC := Lib.hid (clss_lt hc)
  have HV := Lib.hid hv.lt
  have HLL := Lib.hid hll
  have HR := Lib.hid hr
  have hn4 : cn ≤ 4000 := by rw [HCN.out]; exact hl
  have hv0 : 0 < vn := by rw [HVN.out]; exact hne
  have HW1 := Lib.hid hW1
  have hmm := @run_makeMap Tryz.prog
  clear hc hv hne hl hll hr hW1 hmb
  go_enter Tryz.func90, Tryz.ntmps90
  go_wp2_with fail
  rw [HW1.out, HMB.out]
  clear hmm
  go_loopg [16] cn (fun gg u16 wx => ∃ k : Nat, k + gg = cn ∧ u16 = .int .i64 k ∧ Hid (Below mb w wx) ∧ mb + 1 ≤ wx.heap.size ∧ Hid (CntM wx mb (4000 * k)))
  case atStart => exact ⟨0, by omega, rfl, HB0, HZ0, HS0⟩
  case round =>
  clear HB0 HS0 HZ0
  obtain ⟨k, hkg, rfl, HB, hz, HS⟩ := hrel
  by_cases hk : k < cn
  · obtain ⟨c, hck, ec⟩ := drop_at (xs := cs) (k := k) (by rw [← HCN.out]; exact hk)
    have hcw : Clss (fun b => b < mb) wr (.slice ca cn cc) cs := Rows1.move (fun _ _ _ _ _ h hm => h.move hm) (Rows1.mono (fun _ _ _ _ _ h hg => h.mono hg) HC.out fun b hb => by rw [← HMB.out]; exact hb) fun b hb _ => HB.out.block b hb
    obtain ⟨xb, xo, xv, rfl, hxl, hxb, hcx, hxi⟩ := hcw.at hck
    obtain ⟨xa, xn, xc, rfl, HXN, _⟩ := hxi.form'
    have hcm := List.mem_of_getElem? hck
    have hxn4 : xn ≤ 4000 := by rw [HXN.out]; exact HLL.out c hcm
    have HXR : Hid (∀ x ∈ c, -20000 ≤ x ∧ x ≤ 20000) := Lib.hid (HR.out c hcm)
    have HXI := Lib.hid hxi
    have hdk : decide ((k : Int) < cn) = true := by simp; omega
    have hdk' : decide (k < cn) = true := decide_eq_true hk
    have HSI : Hid (CntM wr mb (4000 * k + 0)) := Lib.hid HS.out
    have HG0 : Hid (wr.grownBy wr (some mb)) := Lib.hid (World.grownBy.refl wr _)
    obtain ⟨GK, hGK⟩ : ∃ G, G = gk := ⟨_, rfl⟩
    subst hGK
    obtain ⟨wo, hwo⟩ : ∃ W, W = wr := ⟨_, rfl⟩
    subst hwo
    clear hcw hck ec hcm hxi HS
    go_wp2_with fail
    go_loopg [22] xn (fun gg u22 wx => ∃ j : Nat, j + gg = xn ∧ u22 = .int .i64 j ∧ Hid (wo.grownBy wx (some mb)) ∧ Hid (CntM wx mb (4000 * k + j)))
    case atStart => exact ⟨0, by omega, rfl, HG0, HSI⟩
    case round =>
    clear HG0 HSI
    obtain ⟨j, hjg, rfl, HG, HS⟩ := hrel
    have hsg := HG.out.size
    by_cases hj : j < xn
    · obtain ⟨x, hxj, ex⟩ := drop_at (xs := c) (k := j) (by rw [← HXN.out]; exact hj)
      have hxw := HXI.out.move (w' := wr) fun b hb hlt => HG.out.block b hlt (fun e => by injection e with e; omega)
      obtain ⟨yb, yo, rfl, _, hyb, hcy, hyi⟩ := hxw.at hxj
      have hxr := HXR.out x (List.mem_of_getElem? hxj)
      have hdj : decide ((j : Int) < xn) = true := by simp; omega
      have hdj' : decide (j < xn) = true := decide_eq_true hj
      have hwx : IntKind.i64.wrap (-x) = -x := IntWalk.i64_in _ ⟨by omega, by omega⟩
      have hmx : I64 (max x (-x)) := by unfold I64; omega
      obtain ⟨q, hq, hrun⟩ := HS.out.look hmx
      obtain ⟨D, n, hown, hnk⟩ := HS.out
      have HMX := Lib.hid hmx
      have hw1 : (Lit.int .i64 (wrap64 (q + 1))).wf = true := wrap_wf _
      have HW1' := Lib.hid hw1
      have hnb : n + 1 ≤ 9000000000 := by omega
      clear hxw hxj ex hxr hyi hq hmx hw1
      go_wp2_with (at_mapUpdate; refine wpList_mapUpdate_own _ rfl _ _ _ 75 rfl 3 3 law_int Tryz.underlying75 (plainElem Tryz.prog 3) mb n D rfl hown (by unfold maxLen; omega) _ _ (.int .i64 (max x (-x))) rfl rfl (keyOf_i HMX.out) (.lit (.int .i64 (wrap64 (q + 1)))) [] (plainElem_int Tryz.underlying3 HW1'.out) ?_; intro w5 hown5 hgrow5; have HS5 : Hid (CntM w5 mb (4000 * k + (j + 1))) := Lib.hid ⟨_, n + 1, hown5, by omega⟩; have HG5 := Lib.hid (HG.out.trans hgrow5); clear hown5 hgrow5 hown)
      go_roundg (gk - 1)
      case measure => omega
      case rel => exact ⟨j + 1, by omega, by go_num, HG5, HS5⟩
    · obtain rfl : j = xn := by omega
      have hdj : decide ((j : Int) < j) = false := by simp
      have hdj' : decide (j < j) = false := decide_eq_false (by omega)
      have HBN : Hid (Below mb w wr) := Lib.hid (HB.out.trans ⟨HG.out.os, HG.out.tape, HG.out.output, HG.out.size, fun i hi => HG.out.block i (by omega) (fun e => by injection e with e; omega)⟩)
      have HSN : Hid (CntM wr mb (4000 * (k + 1))) := Lib.hid (HS.out.mono (by omega))
      go_wp2_with fail
      go_roundg (GK - 1)
      case measure => omega
      case rel => exact ⟨k + 1, by omega, by go_num, HBN, by omega, HSN⟩
  obtain rfl : k = cn := by omega
  have hdk : decide ((k : Int) < k) = false := by simp
  have hdk' : decide (k < k) = false := decide_eq_false (by omega)
  have hvw : Ints (fun b => b < mb) wr (.slice va vn vc) vs := (HV.out.mono fun b hb => by rw [← HMB.out]; exact hb.2).move fun b hb _ => HB.out.block b hb
  obtain ⟨v0, hv0x⟩ : ∃ v, vs[0]? = some v := ⟨_, List.getElem?_eq_getElem (by rw [← HVN.out]; exact hv0)⟩
  have hvw2 := hvw
  obtain ⟨vb, vo, rfl, _, _, hcv, hvi⟩ := hvw.at hv0x
  rw [Nat.add_zero] at hcv
  have HVW := Lib.hid hvw2
  have HM0 := Lib.hid (List.mem_of_getElem? hv0x)
  have HI0 := Lib.hid hvi
  have HBF : Hid (Below w.heap.size w wr) := Lib.hid (by rw [HMB.out]; exact HB.out)
  have hv0i : (0 : Int) < vn := by omega
  clear hvw hvw2 hv0x hvi
  go_wp2_with fail
  go_loopg [10, 40] vn (fun gg u10 u40 wx => ∃ (j : Nat) (b : Int), j + gg = vn ∧ u40 = .int .i64 j ∧ u10 = .int .i64 b ∧ wx = wr ∧ Hid (b ∈ vs) ∧ Hid (I64 b))
  case atStart => exact ⟨0, v0, by omega, rfl, rfl, rfl, HM0, HI0⟩
  case round =>
  clear HM0 HI0 hcv
  obtain ⟨j, b, hjg, rfl, rfl, hww, HM, HI⟩ := hrel
  have hww := hww.symm
  subst hww
  by_cases hj : j < vn
  · obtain ⟨x, hxj⟩ : ∃ x, vs[j]? = some x := ⟨_, List.getElem?_eq_getElem (by rw [← HVN.out]; exact hj)⟩
    obtain ⟨xb, xo, he, _, _, hcx, hxi⟩ := HVW.out.at hxj
    injection he with he
    injection he with he1 he2
    subst he1 he2
    have hdj : decide ((j : Int) < vn) = true := by simp; omega
    have hdj' : decide (j < vn) = true := decide_eq_true hj
    have HXM := Lib.hid (List.mem_of_getElem? hxj)
    have HXI := Lib.hid hxi
    obtain ⟨p, _, hrp⟩ := HS.out.look hxi
    obtain ⟨q, _, hrq⟩ := HS.out.look HI.out
    clear hxj hxi
    by_cases hpq : q < p
    · have d1 : decide (q < p) = true := decide_eq_true hpq
      clear hpq
      go_wp2_with fail
      go_roundg (gk - 1)
      case measure => omega
      case rel => exact ⟨j + 1, x, by omega, by go_num, rfl, rfl, HXM, HXI⟩
    · have d1 : decide (q < p) = false := decide_eq_false hpq
      clear hpq
      go_wp2_with fail
      go_roundg (gk - 1)
      case measure => omega
      case rel => exact ⟨j + 1, b, by omega, by go_num, rfl, rfl, HM, HI⟩
  · obtain rfl : j = vn := by omega
    have hdj : decide ((j : Int) < j) = false := by simp
    have hdj' : decide (j < j) = false := decide_eq_false (by omega)
    go_wp2_with fail
    go_ret
    exact ⟨b, HM.out, rfl, HBF.out⟩
end Go.Proofs.YthanfjpmcckbhaaGreatDoor
