/- (Trace seat Z) Walk: check of the statement's definitions: the checker's code. No condition but the sizes. -/
import Derived.Test.YtihkknploioakaaGreatWjx
import Derived.Test.YtihkknploioakaaGreatQk
namespace Go.Proofs.YtihkknploioakaaGreat
open Go.ChangeShapes Go.WideShapes Go.ChangeAt Go.RowKit
set_option linter.unusedVariables false

set_option maxRecDepth 100000 in
set_option maxHeartbeats 8000000 in
theorem lchk_any (F : Nat → Prop) (vars keep : Int) (cv tv : Value) (cs : List (List Int)) (ts : List Claim) (w : World) (hc : Clss F w cv cs) (hx : Claims (fun _ => True) w tv ts) (hiv : I64 vars) (hik : I64 keep) (hsz : ∀ c ∈ ts, SzC c) (hl : ts.length ≤ 4000) (hcl : cs.length ≤ 100000) (hcll : ∀ c ∈ cs, c.length ≤ 100000) :
    Calls Tryz.prog 20 #[.agg #[.int .i64 vars, .int .i64 keep, cv], .agg #[tv]] w (CodePost w (tckM vars keep cs ts)) := by
  obtain ⟨ta, tn, tc, rfl, HTN, htn⟩ := hx.form
  obtain ⟨ca, cn, cc, rfl, HCN, hcn⟩ := hc.form'
  obtain ⟨bb, hbb⟩ : ∃ b, w.heap.size = b := ⟨_, rfl⟩
  obtain ⟨W1, hW1⟩ : ∃ W, (w.alloc (.cells #[.int .i64 vars, .int .i64 keep, .slice ca cn cc] 32)).alloc (.cells #[.slice ta tn tc] 24) = W := ⟨_, rfl⟩
  have hb1 : Below w.heap.size w W1 := by rw [← hW1]; exact ((Below.refl _ _).alloc (Nat.le_refl _) _).alloc (by simp) _
  have hs1 : W1.heap.size = bb + 1 + 1 := by rw [← hW1]; simp; omega
  have hr0 : W1.heap[bb]? = some (.cells #[.int .i64 vars, .int .i64 keep, .slice ca cn cc] 32) := by rw [← hW1]; exact old_at _ _ _ (new_at' _ _ hbb.symm)
  have hr1 : W1.heap[bb + 1]? = some (.cells #[.slice ta tn tc] 24) := by rw [← hW1]; exact new_at' _ _ (by simp; omega)
  have c0 : W1.cell? ⟨bb, 0, none⟩ = some (.int .i64 vars) := by rw [cell_of_row _ _ _ _ _ _ hr0]; rfl
  have c1 : W1.cell? ⟨bb, 1, none⟩ = some (.int .i64 keep) := by rw [cell_of_row _ _ _ _ _ _ hr0]; rfl
  have c2 : W1.cell? ⟨bb, 2, none⟩ = some (.slice ca cn cc) := by rw [cell_of_row _ _ _ _ _ _ hr0]; rfl
  have t0 : W1.cell? ⟨bb + 1, 0, none⟩ = some (.slice ta tn tc) := by rw [cell_of_row _ _ _ _ _ _ hr1]; rfl
  obtain ⟨R, hR⟩ : ∃ R, tckM vars keep cs ts = R := ⟨_, rfl⟩
  have hR2 := hR
  unfold tckM at hR2
  rw [hR]
  obtain ⟨C, hC⟩ : ∃ C, checkM vars keep cs = C := ⟨_, rfl⟩
  rw [hC] at hR2
  have hck := lcheck_any F vars keep _ cs W1 (hc.below hb1) hiv hik (by omega) (fun c hc => by have := hcll c hc; omega)
  rw [hC] at hck
  have HCK := Lib.hid hck
  have HC := Lib.hid (hc.below hb1)
  have HX := Lib.hid (hx.below hb1)
  have HB1 := Lib.hid hb1
  have HW1 := Lib.hid hW1
  have HBB := Lib.hid hbb
  have HSZ := Lib.hid hsz
  have HIK := Lib.hid hik
  have hn4 : tn ≤ 4000 := by rw [HTN.out]; exact hl
  clear hR hC hck hc hx hb1 hW1 hbb hr0 hr1 hsz hik hiv hl
  by_cases h0 : C = 0
  case neg =>
    rw [if_pos h0] at hR2
    subst hR2
    have e0 : (C != 0) = true := by simp; exact h0
    clear h0
    go_enter Tryz.func20, Tryz.ntmps20
    go_wp2_with fail
    rw [HW1.out]
    refine HCK.out.mono ?_
    rintro e w2 ⟨rfl, hb2⟩
    have HB2 := Lib.hid (HB1.out.trans (hb2.mono HB1.out.size))
    clear hb2
    go_wp2_with fail
    go_ret
    exact ⟨rfl, HB2.out⟩
  subst h0
  rw [if_neg (by simp)] at hR2
  have HR2 := Lib.hid hR2
  clear hR2
  go_enter Tryz.func20, Tryz.ntmps20
  go_wp2_with fail
  rw [HW1.out]
  refine HCK.out.mono ?_
  rintro e w2 ⟨rfl, hb2⟩
  rw [HBB.out]
  have d0 := below_c hb2 (by omega) c0
  have d1 := below_c hb2 (by omega) c1
  have d2 := below_c hb2 (by omega) c2
  have u0 := below_c hb2 (by omega) t0
  have HC2 := Lib.hid (HC.out.below hb2)
  have HX2 := Lib.hid (HX.out.below hb2)
  have HB2 := Lib.hid (HB1.out.trans (hb2.mono HB1.out.size))
  have hs2 := hb2.size
  clear hb2 c0 c1 c2 t0 HC HX HCK HW1
  by_cases h1 : 40 < keep
  · have hR := HR2.out
    rw [if_pos (.inl h1)] at hR
    subst hR
    have e1 : decide (40 < keep) = true := decide_eq_true h1
    go_wp2_with fail
    go_ret
    exact ⟨rfl, HB2.out⟩
  have e1 : decide (40 < keep) = false := decide_eq_false h1
  have e2 : decide (65536 < (tn : Int)) = false := decide_eq_false (by omega)
  have e2' : decide (65536 < tn) = false := decide_eq_false (by omega)
  have hR3 := HR2.out
  rw [if_neg (by rintro (h | h); exact h1 h; rw [← HTN.out] at h; omega)] at hR3
  by_cases h3 : tn = 0
  · rw [if_pos (by rw [← HTN.out]; exact h3)] at hR3
    subst hR3
    have e3 : ((tn : Int) == 0) = true := by simp; exact h3
    clear h3
    go_wp2_with fail
    go_ret
    exact ⟨rfl, HB2.out⟩
  have e3 : ((tn : Int) == 0) = false := by simp; exact h3
  rw [if_neg (by rw [← HTN.out]; exact h3)] at hR3
  have HR3 : Hid ((if ccGo keep ts (tn - 0) 0 ≠ 0 then ccGo keep ts (tn - 0) 0 else if ((ts.getD (ts.length - 1) clNil).cls == cs) = false then 2 else 0) = R) := Lib.hid (by rw [Nat.sub_zero, HTN.out]; exact hR3)
  have HBL : Hid (Below w2.heap.size w2 w2) := Lib.hid (Below.refl _ _)
  clear hR3 HR2 h1
  go_wp2_with fail
  go_loopg [29] tn (fun gg u29 wx => ∃ (k : Nat), k + gg = tn ∧ u29 = .int .i64 k ∧ Hid (Below w2.heap.size w2 wx) ∧ Hid ((if ccGo keep ts (tn - k) k ≠ 0 then ccGo keep ts (tn - k) k else if ((ts.getD (ts.length - 1) clNil).cls == cs) = false then 2 else 0) = R))
  case atStart => exact ⟨0, by omega, rfl, HBL, HR3⟩
  case round =>
  clear HBL HR3
  obtain ⟨k, hkg, rfl, HBX, HRK⟩ := hrel
  have hsx := HBX.out.size
  have f0 := below_c HBX.out (by omega) d0
  have f1 := below_c HBX.out (by omega) d1
  have f2 := below_c HBX.out (by omega) d2
  have g0 := below_c HBX.out (by omega) u0
  have HBF : Hid (Below w.heap.size w wr) := Lib.hid (HB2.out.trans (HBX.out.mono HB2.out.size))
  by_cases hk : k < tn
  · have hdk : decide ((k : Int) < tn) = true := by simp; omega
    have hdk' : decide (k < tn) = true := decide_eq_true hk
    have hcc := lclaim_any keep (k : Int) _ ts wr (HX2.out.below HBX.out) HIK.out ⟨by omega, by omega⟩ HSZ.out (by rw [← HTN.out]; exact hn4)
    obtain ⟨D, hD⟩ : ∃ D, ccM keep ts k = D := ⟨_, rfl⟩
    rw [hD] at hcc
    have HCC := Lib.hid hcc
    have hr := HRK.out
    obtain ⟨j, hj⟩ : ∃ j, tn - k = j + 1 := ⟨tn - k - 1, by omega⟩
    rw [hj, ccGo, hD] at hr
    by_cases hz : D = 0
    · subst hz
      rw [if_neg (show ¬ ((0 : Int) ≠ 0) by simp), show j = tn - (k + 1) by omega] at hr
      have HR := Lib.hid hr
      clear hr hj hD hcc HRK
      go_wp2_with fail
      refine HCC.out.mono ?_
      rintro e w3 ⟨rfl, hb3⟩
      have HB3 := Lib.hid (HBX.out.trans (hb3.mono HBX.out.size))
      clear hb3
      go_wp2_with fail
      go_roundg (gk - 1)
      case measure => omega
      case rel => exact ⟨k + 1, by omega, by go_num, HB3, HR⟩
    · have hr2 : D = R := by rw [← hr]; simp [hz]
      subst hr2
      have ez : (D != 0) = true := by simp; exact hz
      clear hr hj hD hcc hz HRK
      go_wp2_with fail
      refine HCC.out.mono ?_
      rintro e w3 ⟨rfl, hb3⟩
      have HB3 := Lib.hid (HBF.out.trans (hb3.mono HBF.out.size))
      clear hb3
      go_wp2_with fail
      go_ret
      exact ⟨rfl, HB3.out⟩
  obtain rfl : k = tn := by omega
  have hdk : decide ((k : Int) < k) = false := by simp
  have hdk' : decide (k < k) = false := decide_eq_false (by omega)
  have hr := HRK.out
  rw [Nat.sub_self, ccGo, if_neg (by simp)] at hr
  obtain ⟨c, hc⟩ : ∃ c, ts[k - 1]? = some c := ⟨_, List.getElem?_eq_getElem (by rw [← HTN.out]; omega)⟩
  have hcg : ts.getD (ts.length - 1) clNil = c := by rw [← HTN.out, List.getD_eq_getElem?_getD, hc]; rfl
  rw [hcg] at hr
  obtain ⟨xb, xo, xcv, xkv, rfl, _, hxb, j0, _, _, _, _, ⟨⟨hxc, _⟩, _⟩⟩ := (HX2.out.below HBX.out).at hc
  obtain ⟨xa, xn, xc, rfl, _, _⟩ := hxc.form'
  obtain ⟨E, hE⟩ : ∃ E, (c.cls == cs) = E := ⟨_, rfl⟩
  rw [hE] at hr
  have hxc : Clss (fun _ => True) wr (.slice xa xn xc) c.cls := hxc
  have hbl := fun n => below_drewN (Below.refl wr.heap.size wr) n
  have heq := fun n => lequal_any _ _ _ _ (wr.drewN n) (hxc.below (hbl n)) ((HC2.out.below HBX.out).below (hbl n))
  rw [hE] at heq
  have HEQ := Lib.hid heq
  have HR := Lib.hid hr
  obtain ⟨m, hm⟩ : ∃ m, k = m + 1 := ⟨k - 1, by omega⟩
  have hw1 : IntKind.i64.wrap ((k : Int) - 1) = (m : Int) := by rw [IntWalk.i64_in _ ⟨by omega, by omega⟩]; omega
  have hmk : (m : Int) < k := by omega
  have hm0 : (0 : Int) ≤ m := by omega
  have hmk' : m < k := by omega
  rw [show k - 1 = m by omega] at j0
  have hkl : bb + 1 < wr.heap.size := by omega
  clear hr hE heq hcg hc hxc HRK hbl hm hkg
  go_upto_region 15 with fail
  go_quiet ((go_at_call 35; first | exact Calls.quiet_of (HEQ.out _) | exact quiet_add (HEQ.out _)))
  rcases bool2 E with rfl | rfl
  · have hr := HR.out
    rw [if_neg (by simp)] at hr
    subst hr
    go_wp2_with fail
    go_ret
    exact ⟨rfl, below_drewN HBF.out _⟩
  · have hr := HR.out
    rw [if_pos rfl] at hr
    subst hr
    go_wp2_with fail
    go_ret
    exact ⟨rfl, below_drewN HBF.out _⟩

end Go.Proofs.YtihkknploioakaaGreat
