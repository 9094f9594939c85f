/- (Trace seat Z) Walk: follows of the statement's definitions. No condition but the sizes and the ranges. -/
import Derived.Test.YthanfjpmcckbhaaGreatDoorQr
import Derived.Deep.DeepCutAuto
namespace Go.Proofs.YthanfjpmcckbhaaGreatDoor
open Go.ChangeShapes Go.WideShapes Go.ChangeAt Go.RowKit
set_option linter.unusedVariables false
set_option linter.unusedSimpArgs false

theorem withoutM_len (xs : List Int) (x : Int) : (withoutM xs x).length ≤ xs.length := List.length_filter_le _ _
set_option maxRecDepth 100000 in
set_option maxHeartbeats 16000000 in
theorem lfol0_any (keep : Int) (r0 r1 r2 r3 r4 kv : Value) (c : Claim) (ks : List Claim) (w : World) (hc : ClaimV (fun _ => True) w (r0, r1, r2, r3, r4) c) (hks : Claims (fun _ => True) w kv ks)
    (hik : I64 keep) (hsc : SzC c) (hsk : ∀ k ∈ ks, SzC k) (hkl : ks.length ≤ 4000) (hru : Hid (c.rule ≠ 2 ∧ c.rule ≠ 3 ∧ c.rule ≠ 5)) :
    Calls Tryz.prog 117 #[.int .i64 keep, .agg #[r0, r1, r2, r3, r4], kv] w (BoolPost w (folS keep c ks)) := by
  obtain ⟨R, hR⟩ : ∃ R, folS keep c ks = R := ⟨_, rfl⟩
  have hR2 := hR
  unfold folS at hR2
  rw [hR]
  obtain ⟨⟨hcl, h1, h2, hki, h4⟩, hir, hil, hic⟩ := id hc
  have h1 : r1 = _ := h1
  have h2 : r2 = _ := h2
  have h4 : r4 = _ := h4
  subst h1 h2 h4
  have hcl : Clss (fun _ => True) w r0 c.cls := hcl
  have hki : Ints (fun _ => True) w r3 c.kids := hki
  have hir : I64 c.rule := hir
  have hil : I64 c.lit := hil
  have hic : I64 c.count := hic
  obtain ⟨xa, xn, xc, rfl, HCN, hcn⟩ := hcl.form'
  obtain ⟨ka, kn, kc, rfl, _, _⟩ := hki.form'
  obtain ⟨qa, qn, qc, rfl, HQN, hqn⟩ := hks.form
  obtain ⟨T, hT⟩ : ∃ T, (if c.rule = 0 then (c.lit == 0) && (decide (ks.length = 0) && (decide (c.cls.length = 0) && (c.count == 1)))
    else if c.rule = 1 then (c.lit == 0) && (decide (ks.length = 0) && (decide (0 < c.cls.length) && (decide ((c.cls.getD 0 []).length = 0) && (c.count == 0))))
    else if c.rule = 2 then unitS keep c ks
    else if c.rule = 3 then decS keep c ks
    else if c.rule = 4 then splS c ks
    else if c.rule = 5 then tryS keep c ks
    else if c.rule = 6 then bothS c ks
    else false) = T := ⟨_, rfl⟩
  rw [hT] at hR2
  have HR0 : Hid ((if ((ks.drop 0).any fun k => decide (k.count < 0) || decide (1099511627776 < k.count)) = true then false else T) = R) := Lib.hid hR2
  have HG0 : Hid (∀ k ∈ ks.take 0, 0 ≤ k.count ∧ k.count ≤ 1099511627776) := Lib.hid (by simp)
  obtain ⟨W1, hW1⟩ : ∃ W, w.alloc (.cells #[.slice xa xn xc, .int .i64 c.rule, .int .i64 c.lit, .slice ka kn kc, .int .i64 c.count] 52) = W := ⟨_, rfl⟩
  obtain ⟨bx, hbx⟩ : ∃ b, w.heap.size = b := ⟨_, rfl⟩
  have hb1 : Below w.heap.size w W1 := by rw [← hW1]; exact (Below.refl _ _).alloc (Nat.le_refl _) _
  have hrow : W1.heap[bx]? = some (.cells #[.slice xa xn xc, .int .i64 c.rule, .int .i64 c.lit, .slice ka kn kc, .int .i64 c.count] 52) := by rw [← hW1]; exact new_at' _ _ hbx.symm
  have b0 : W1.cell? ⟨bx, 0, none⟩ = some (.slice xa xn xc) := by rw [cell_of_row _ _ _ _ _ _ hrow]; rfl
  have b1 : W1.cell? ⟨bx, 1, none⟩ = some (.int .i64 c.rule) := by rw [cell_of_row _ _ _ _ _ _ hrow]; rfl
  have b2 : W1.cell? ⟨bx, 2, none⟩ = some (.int .i64 c.lit) := by rw [cell_of_row _ _ _ _ _ _ hrow]; rfl
  have b4 : W1.cell? ⟨bx, 4, none⟩ = some (.int .i64 c.count) := by rw [cell_of_row _ _ _ _ _ _ hrow]; rfl
  have hs1 : W1.heap.size = bx + 1 := by rw [← hW1]; simp; omega
  have HT := Lib.hid hT
  have HB1 := Lib.hid hb1
  have HCL := Lib.hid (Clss.below hcl hb1)
  have HKS := Lib.hid (hks.below hb1)
  have HSC := Lib.hid hsc
  have HSK := Lib.hid hsk
  have HIK := Lib.hid hik
  have HIL := Lib.hid hil
  have HBX0 : Hid (Below W1.heap.size W1 W1) := Lib.hid (Below.refl _ _)
  have hq5 : qn ≤ 4000 := by rw [HQN.out]; exact hkl
  have hbx1 : bx < W1.heap.size := by omega
  clear hR hR2 hT hc hcl hks hki hrow hb1 hsc hsk hik hkl hil hir hic
  go_enter Tryz.func117, Tryz.ntmps117
  go_wp2_with fail
  try rw [hW1]
  clear hW1 hbx
  go_loopg [22] qn (fun gg u22 wx => ∃ (k : Nat), k + gg = qn ∧ u22 = .int .i64 k ∧ Hid (Below W1.heap.size W1 wx) ∧ Hid (∀ x ∈ ks.take k, 0 ≤ x.count ∧ x.count ≤ 1099511627776) ∧ Hid ((if ((ks.drop k).any fun k => decide (k.count < 0) || decide (1099511627776 < k.count)) = true then false else T) = R))
  case atStart => exact ⟨0, by omega, rfl, HBX0, HG0, HR0⟩
  case round =>
  clear HBX0 HG0 HR0
  obtain ⟨k, hkg, rfl, HB, HGD, HRK⟩ := hrel
  by_cases hk : k < qn
  · obtain ⟨kid, hkid, ek⟩ := drop_at (xs := ks) (k := k) (by have := HQN.out; omega)
    have hks2 := HKS.out
    obtain ⟨kb, ko, kcv, kkv, rfl, _, hkb, k0, k1, k2, k3, k4, ⟨⟨hkcl, _, _, hkki, _⟩, _⟩⟩ := hks2.at hkid
    obtain ⟨ya, yn, yc, rfl, _, _⟩ := hkcl.form'
    obtain ⟨kka, kkn, kkc, rfl, _, _⟩ := hkki.form'
    have y0 := below_c HB.out hkb k0
    have y1 := below_c HB.out hkb k1
    have y2 := below_c HB.out hkb k2
    have y3 := below_c HB.out hkb k3
    have y4 := below_c HB.out hkb k4
    have hdk : decide ((k : Int) < qn) = true := by simp; omega
    have hdk' : decide (k < qn) = true := decide_eq_true hk
    have hr := HRK.out
    rw [ek, List.any_cons] at hr
    have HTK : Hid (ks.take (k + 1) = ks.take k ++ [kid]) := Lib.hid (by rw [List.take_add_one, hkid]; rfl)
    have hbA := fun o => HB.out.alloc HB.out.size o
    have HBA := Lib.hid hbA
    clear hks2 hkid ek hkcl hkki k0 k1 k2 k3 k4 hbA HRK
    by_cases h1 : kid.count < 0
    · have d1 : decide (kid.count < 0) = true := decide_eq_true h1
      rw [d1, Bool.true_or, Bool.true_or, if_pos rfl] at hr
      subst hr
      go_wp2_with fail
      go_ret
      exact ⟨rfl, HB1.out.trans ((HBA.out _).mono HB1.out.size)⟩
    have d1 : decide (kid.count < 0) = false := decide_eq_false h1
    by_cases h2 : 1099511627776 < kid.count
    · have d2 : decide (1099511627776 < kid.count) = true := decide_eq_true h2
      rw [d1, d2, Bool.false_or, Bool.true_or, if_pos rfl] at hr
      subst hr
      go_wp2_with fail
      go_ret
      exact ⟨rfl, HB1.out.trans ((HBA.out _).mono HB1.out.size)⟩
    have d2 : decide (1099511627776 < kid.count) = false := decide_eq_false h2
    rw [d1, d2, Bool.false_or, Bool.false_or] at hr
    have HR := Lib.hid hr
    have HG2 : Hid (∀ x ∈ ks.take (k + 1), 0 ≤ x.count ∧ x.count ≤ 1099511627776) := Lib.hid (by
      rw [HTK.out]
      intro x hx
      rcases List.mem_append.1 hx with h | h
      · exact HGD.out x h
      · simp at h; subst h; omega)
    clear hr h1 h2
    go_wp2_with fail
    go_roundg (gk - 1)
    case measure => omega
    case rel => exact ⟨k + 1, by omega, by go_num, Lib.hid (HBA.out _), HG2, HR⟩
  obtain rfl : k = qn := by omega
  have hdk : decide ((k : Int) < k) = false := by simp
  have hdk' : decide (k < k) = false := decide_eq_false (by omega)
  have hTR : T = R := by
    have := HRK.out
    rw [List.drop_eq_nil_of_le (by rw [HQN.out]; exact Nat.le_refl _), List.any_nil, if_neg (by simp)] at this
    exact this
  subst hTR
  have hgd := HGD.out
  rw [List.take_of_length_le (by rw [HQN.out]; exact Nat.le_refl _)] at hgd
  have HGK := Lib.hid hgd
  have y0 := below_c HB.out hbx1 b0
  have y1 := below_c HB.out hbx1 b1
  have y2 := below_c HB.out hbx1 b2
  have y4 := below_c HB.out hbx1 b4
  have HKE := Lib.hid (lkept_any _ keep _ c.cls wr (Clss.below HCL.out HB.out) HIK.out HSC.out.1 HSC.out.2.1)
  have hsr := HB.out.size
  clear hgd HRK HGD b0 b1 b2 b4 hdk hdk'
  have hdk : decide ((k : Int) < k) = false := by simp
  have hdk' : decide (k < k) = false := decide_eq_false (by omega)
  go_wp2_with fail
  refine HKE.out.mono ?_
  rintro e w3 ⟨v3, rfl, hb3, ho3⟩
  obtain ⟨pa, pc, rfl⟩ := own_form ho3
  have hb31 : Below W1.heap.size W1 w3 := HB.out.trans (hb3.mono hsr)
  have hps : (keptM keep (occM c.cls)).length ≤ 20000 := Nat.le_trans (List.length_filter_le _ _) (occ_len_le (cs := []) (occM_strict _) fun x hx => occM_range hx)
  have hvs : Ints (fun _ => True) w3 (.slice pa (keptM keep (occM c.cls)).length pc) (keptM keep (occM c.cls)) := ⟨(ownsRow_sl1 ho3 (by omega)).mono fun _ _ => trivial, fun y hy => by have := occM_range (kept_mem.1 hy).1; unfold I64; omega⟩
  obtain ⟨pn, hpn⟩ : ∃ n, (keptM keep (occM c.cls)).length = n := ⟨_, rfl⟩
  have HPN := Lib.hid hpn
  rw [hpn] at hvs hps ⊢
  have HVS := Lib.hid hvs
  have HB3 := Lib.hid hb31
  have z0 := below_c hb3 (by omega) y0
  have z1 := below_c hb3 (by omega) y1
  have z2 := below_c hb3 (by omega) y2
  have z4 := below_c hb3 (by omega) y4
  have hs3 := hb3.size
  have HSI := Lib.hid (size_any c.lit w3 HIL.out)
  clear ho3 hb3 hb31 hvs hpn HKE HB y0 y1 y2 y4
  go_wp2_with fail
  refine HSI.out.mono ?_
  rintro e w4 ⟨rfl, hw4⟩
  subst hw4
  obtain ⟨V, hV⟩ : ∃ V, sizeM c.lit = V := ⟨_, rfl⟩
  have HV := Lib.hid hV
  have hvr := size_range c.lit
  rw [hV] at hvr ⊢
  obtain ⟨OB, hOB⟩ : ∃ OB, occB c = OB := ⟨_, rfl⟩
  have HOB := Lib.hid hOB
  have HCL3 := Lib.hid (Clss.below HCL.out HB3.out)
  clear hV hOB HSI
  go_upto_region 9 with fail
  go_cut [11] (fun u11 wx => u11 = .bool OB ∧ Hid (Below w4.heap.size w4 wx))
  case first =>
    by_cases hv0 : 0 < V
    case neg =>
      have e0 : decide (0 < V) = false := decide_eq_false hv0
      have hob : OB = false := by rw [← HOB.out]; unfold occB; rw [HV.out, e0]; rfl
      subst hob
      go_wp2_with fail
      go_meet
      exact ⟨rfl, Lib.hid (Below.refl _ _)⟩
    have e0 : decide (0 < V) = true := decide_eq_true hv0
    have HOC := Lib.hid (loccur_any _ _ c.cls w4 HCL3.out HSC.out.1 HSC.out.2.1)
    go_wp2_with fail
    refine HOC.out.mono ?_
    rintro e w5 ⟨ov, os, rfl, hos, hb5, hst, hmem⟩
    obtain rfl := occ_eq hst hmem
    have HCT := Lib.hid (contains_any _ _ (occM c.cls) V w5 hos ⟨by omega, by omega⟩)
    have hct : (occM c.cls).contains V = OB := by rw [← HOB.out]; unfold occB; rw [HV.out, e0, Bool.true_and]
    rw [hct] at HCT
    obtain ⟨oa, on, oc, rfl, _, _⟩ := hos.form'
    have HB5 := Lib.hid hb5
    clear hos hb5 hst hmem HOC hct
    go_wp2_with fail
    refine HCT.out.mono ?_
    rintro e w6 ⟨rfl, hw6⟩
    subst hw6
    go_wp2_with fail
    go_meet
    exact ⟨rfl, HB5⟩
  case rest =>
  obtain ⟨rfl, HBC⟩ := hcut
  have hsc3 := HBC.out.size
  have HB4 := Lib.hid (HB3.out.trans (HBC.out.mono HB3.out.size))
  have HBW : Hid (Below w.heap.size w wc) := Lib.hid (HB1.out.trans (HB4.out.mono HB1.out.size))
  have y0 := below_c HBC.out (by omega) z0
  have y1 := below_c HBC.out (by omega) z1
  have y2 := below_c HBC.out (by omega) z2
  have y4 := below_c HBC.out (by omega) z4
  have HVS4 := Lib.hid (HVS.out.below HBC.out)
  have HKS4 := Lib.hid (HKS.out.below HB4.out)
  have HCL4 := Lib.hid (Clss.below HCL3.out HBC.out)
  have hbxc : bx < wc.heap.size := by omega
  have HVL : Hid (V = sizeM c.lit) := Lib.hid HV.out.symm
  obtain ⟨P, hP⟩ : ∃ P, keptM keep (occM c.cls) = P := ⟨_, rfl⟩
  have HP := Lib.hid hP
  have HOV : Hid (withoutM P V = wovS keep c) := Lib.hid (by rw [← hP, HVL.out]; rfl)
  rw [hP] at HPN HVS4
  clear z0 z1 z2 z4 HVS HCL3 HCL HKS HBC HB3 HB4 hsc3 hs3 hsr hP HB1 HPN
  have hT2 := HT.out
  clear hbx1 hs1
  by_cases r0 : c.rule = 0
  · rw [if_pos r0] at hT2
    have t0 : (c.rule == 0) = true := by simp; exact r0
    by_cases l0 : c.lit = 0
    case neg =>
      have tl : (c.lit == 0) = false := by simp; exact l0
      rw [tl, Bool.false_and] at hT2
      subst hT2
      clear r0 l0
      go_wp2_with fail
      go_ret
      exact ⟨rfl, HBW.out⟩
    have tl : (c.lit == 0) = true := by simp; exact l0
    by_cases l1 : k = 0
    case neg =>
      have tk : decide (ks.length = 0) = false := decide_eq_false (by rw [← HQN.out]; exact l1)
      have tq : ((k : Int) == 0) = false := by simp; exact l1
      rw [tl, tk, Bool.true_and, Bool.false_and] at hT2
      subst hT2
      clear r0 l0 l1
      go_wp2_with fail
      go_ret
      exact ⟨rfl, HBW.out⟩
    have tk : decide (ks.length = 0) = true := decide_eq_true (by rw [← HQN.out]; exact l1)
    have tq : ((k : Int) == 0) = true := by simp; exact l1
    by_cases l2 : xn = 0
    case neg =>
      have tc : decide (c.cls.length = 0) = false := decide_eq_false (by rw [← HCN.out]; exact l2)
      have tn : ((xn : Int) == 0) = false := by simp; exact l2
      rw [tl, tk, tc, Bool.true_and, Bool.true_and, Bool.false_and] at hT2
      subst hT2
      clear r0 l0 l1 l2
      go_wp2_with fail
      go_ret
      exact ⟨rfl, HBW.out⟩
    have tc : decide (c.cls.length = 0) = true := decide_eq_true (by rw [← HCN.out]; exact l2)
    have tn : ((xn : Int) == 0) = true := by simp; exact l2
    rw [tl, tk, tc, Bool.true_and, Bool.true_and, Bool.true_and] at hT2
    have HF := Lib.hid hT2
    clear r0 l0 l1 l2 hT2
    go_wp2_with fail
    go_ret
    exact ⟨by rw [← HF.out]; rfl, HBW.out⟩
  rw [if_neg r0] at hT2
  have t0 : (c.rule == 0) = false := by simp; exact r0
  by_cases r1 : c.rule = 1
  · rw [if_pos r1] at hT2
    have t1 : (c.rule == 1) = true := by simp; exact r1
    by_cases l0 : c.lit = 0
    case neg =>
      have tl : (c.lit == 0) = false := by simp; exact l0
      rw [tl, Bool.false_and] at hT2
      subst hT2
      clear r0 l0 r1
      go_wp2_with fail
      go_ret
      exact ⟨rfl, HBW.out⟩
    have tl : (c.lit == 0) = true := by simp; exact l0
    by_cases l1 : k = 0
    case neg =>
      have tk : decide (ks.length = 0) = false := decide_eq_false (by rw [← HQN.out]; exact l1)
      have tq : ((k : Int) == 0) = false := by simp; exact l1
      rw [tl, tk, Bool.true_and, Bool.false_and] at hT2
      subst hT2
      clear r0 l0 l1 r1
      go_wp2_with fail
      go_ret
      exact ⟨rfl, HBW.out⟩
    have tk : decide (ks.length = 0) = true := decide_eq_true (by rw [← HQN.out]; exact l1)
    have tq : ((k : Int) == 0) = true := by simp; exact l1
    by_cases l2 : 0 < xn
    case neg =>
      have tc : decide (0 < c.cls.length) = false := decide_eq_false (by rw [← HCN.out]; exact l2)
      have tn : decide ((0 : Int) < (xn : Int)) = false := decide_eq_false (by omega)
      have tn2 : decide (0 < xn) = false := decide_eq_false l2
      rw [tl, tk, tc, Bool.true_and, Bool.true_and, Bool.false_and] at hT2
      subst hT2
      clear r0 l0 l1 l2 r1
      go_wp2_with fail
      go_ret
      exact ⟨rfl, HBW.out⟩
    have tc : decide (0 < c.cls.length) = true := decide_eq_true (by rw [← HCN.out]; exact l2)
    have tn : decide ((0 : Int) < (xn : Int)) = true := decide_eq_true (by omega)
    have tn2 : decide (0 < xn) = true := decide_eq_true l2
    have hxn0 : (0 : Int) < xn := by omega
    obtain ⟨x0, hx0⟩ : ∃ x, c.cls[0]? = some x := ⟨_, List.getElem?_eq_getElem (by rw [← HCN.out]; omega)⟩
    have hclc := HCL4.out
    obtain ⟨ub, uo, u, rfl, _, hub, hcu, hui⟩ := hclc.at hx0
    rw [Nat.add_zero] at hcu
    obtain ⟨va, vn, vc, rfl, HVN, _⟩ := hui.form'
    have hg0 : c.cls.getD 0 [] = x0 := by rw [List.getD_eq_getElem?_getD, hx0]; rfl
    rw [tl, tk, tc, hg0, Bool.true_and, Bool.true_and, Bool.true_and] at hT2
    by_cases l3 : vn = 0
    case neg =>
      have tm : decide (x0.length = 0) = false := decide_eq_false (by rw [← HVN.out]; exact l3)
      have tv : ((vn : Int) == 0) = false := by simp; exact l3
      rw [tm, Bool.false_and] at hT2
      subst hT2
      clear r0 l0 l1 l2 r1 l3 hx0 hclc hui hg0
      go_wp2_with fail
      go_ret
      exact ⟨rfl, HBW.out⟩
    have tm : decide (x0.length = 0) = true := decide_eq_true (by rw [← HVN.out]; exact l3)
    have tv : ((vn : Int) == 0) = true := by simp; exact l3
    rw [tm, Bool.true_and] at hT2
    have HF := Lib.hid hT2
    clear r0 l0 l1 l2 r1 l3 hx0 hclc hui hg0 hT2
    go_wp2_with fail
    go_ret
    exact ⟨by rw [← HF.out]; rfl, HBW.out⟩
  rw [if_neg r1] at hT2
  have t1 : (c.rule == 1) = false := by simp; exact r1
  -- the contracts that several rules use
  have HWO : Hid (∀ W, Below wc.heap.size wc W → Calls Tryz.prog 145 #[.slice pa pn pc, .int .i64 V] W (KeptPost W (wovS keep c))) := Lib.hid fun W hW => by
    rw [← HOV.out]; exact without_any _ _ P V W (HVS4.out.below hW) ⟨by omega, by omega⟩ (by have := HVS4.out.len.1; omega)
  have hwl : (wovS keep c).length ≤ 20000 := by
    rw [← HOV.out]
    have h1 := withoutM_len P V
    have h2 : pn = P.length := HVS4.out.len.1
    omega
  have hwi : ∀ y ∈ wovS keep c, I64 y := fun y hy => by
    rw [← HOV.out] at hy
    exact HVS4.out.2 y (List.mem_filter.1 hy).1
  have HWL := Lib.hid (And.intro hwl hwi)
  clear hwl hwi
  by_cases r2 : c.rule = 2
  · have hrv := hru.out; exfalso; omega
  rw [if_neg r2] at hT2
  have t2 : (c.rule == 2) = false := by simp; exact r2
  by_cases r3 : c.rule = 3
  · have hrv := hru.out; exfalso; omega
  rw [if_neg r3] at hT2
  have t3 : (c.rule == 3) = false := by simp; exact r3
  by_cases r4 : c.rule = 4
  · rw [if_pos r4] at hT2
    have t4 : (c.rule == 4) = true := by simp; exact r4
    unfold splS at hT2
    clear r0 r1 r2 r3 r4
    have hcall := lsplit_any _ _ _ c.cls ks wc HCL4.out HKS4.out HSC.out.1 (fun x hx => ⟨HSK.out x hx, HGK.out x hx⟩) (by rw [← HQN.out]; exact hq5)
    obtain ⟨⟨sn, sb⟩, hsr⟩ : ∃ r, splitS c.cls ks = r := ⟨_, rfl⟩
    rw [hsr] at hcall hT2
    have HCALL : Hid (Calls Tryz.prog 147 #[.slice xa xn xc, .slice qa k qc] wc (fun e w' => e = .returned (.tuple #[.int .i64 sn, .bool sb]) ∧ Below wc.heap.size wc w')) := Lib.hid hcall
    have HF : Hid (((c.lit == 0) && (sb && (c.count == sn))) = T) := Lib.hid hT2
    clear hcall hT2 hsr
    go_wp2_with fail
    refine HCALL.out.mono ?_
    rintro e w5 ⟨rfl, hb5⟩
    have HB5 := Lib.hid hb5
    have x2 := below_c hb5 hbxc y2
    have x4 := below_c hb5 hbxc y4
    have HBF := Lib.hid (HBW.out.trans (hb5.mono HBW.out.size))
    have hF := HF.out
    clear hb5
    by_cases l0 : c.lit = 0
    case neg =>
      have tl : (c.lit == 0) = false := by simp; exact l0
      rw [tl, Bool.false_and] at hF
      subst hF
      clear l0
      go_wp2_with fail
      go_ret
      exact ⟨rfl, HBF.out⟩
    have tl : (c.lit == 0) = true := by simp; exact l0
    rw [tl, Bool.true_and] at hF
    rcases bool2 sb with rfl | rfl
    · have HF2 : Hid ((c.count == sn) = T) := Lib.hid (by rw [← hF]; rfl)
      clear hF l0
      go_wp2_with fail
      go_ret
      exact ⟨by rw [← HF2.out]; rfl, HBF.out⟩
    · have HF2 : T = false := by rw [← hF]; rfl
      subst HF2
      clear hF l0
      go_wp2_with fail
      go_ret
      exact ⟨rfl, HBF.out⟩
  rw [if_neg r4] at hT2
  have t4 : (c.rule == 4) = false := by simp; exact r4
  by_cases r5 : c.rule = 5
  · have hrv := hru.out; exfalso; omega
  rw [if_neg r5] at hT2
  have t5 : (c.rule == 5) = false := by simp; exact r5
  by_cases r6 : c.rule = 6
  · rw [if_pos r6] at hT2
    have t6 : (c.rule == 6) = true := by simp; exact r6
    unfold bothS at hT2
    rw [← HVL.out, HOB.out] at hT2
    clear r0 r1 r2 r3 r4 r5 r6
    by_cases l0 : 0 < c.lit
    case neg =>
      have d0 : decide (0 < c.lit) = false := decide_eq_false l0
      rw [d0, Bool.false_and] at hT2
      subst hT2
      clear l0
      go_wp2_with fail
      go_ret
      exact ⟨rfl, HBW.out⟩
    have d0 : decide (0 < c.lit) = true := decide_eq_true l0
    rw [d0, Bool.true_and] at hT2
    rcases bool2 OB with rfl | rfl
    case inr =>
      rw [Bool.false_and] at hT2
      subst hT2
      clear l0
      go_wp2_with fail
      go_ret
      exact ⟨rfl, HBW.out⟩
    rw [Bool.true_and] at hT2
    have hrs := residuals_any _ _ _ c.cls V ks wc HCL4.out HKS4.out ⟨by omega, by omega⟩ HSC.out.1 HSC.out.2.1
    obtain ⟨Q, hQ⟩ : ∃ Q, residualsM c.cls V ks = Q := ⟨_, rfl⟩
    rw [hQ] at hrs hT2
    have HRS := Lib.hid hrs
    have HQ := Lib.hid hQ
    clear hrs hQ
    rcases bool2 Q with rfl | rfl
    case inr =>
      rw [Bool.false_and] at hT2
      subst hT2
      clear l0
      go_wp2_with fail
      refine HRS.out.mono ?_
      rintro e w5 ⟨rfl, hb5⟩
      have HB5 := Lib.hid hb5
      clear hb5
      go_wp2_with fail
      go_ret
      exact ⟨rfl, HBW.out.trans (HB5.out.mono HBW.out.size)⟩
    rw [Bool.true_and] at hT2
    have hk2 : k = 2 := by
      have h := HQ.out
      unfold residualsM at h
      rw [Bool.and_eq_true] at h
      have := of_decide_eq_true h.1
      rw [HQN.out]
      exact this
    obtain ⟨kid0, hkid0⟩ : ∃ kk, ks[0]? = some kk := ⟨_, List.getElem?_eq_getElem (by rw [← HQN.out]; omega)⟩
    have hkg0 : ks.getD 0 clNil = kid0 := by rw [List.getD_eq_getElem?_getD, hkid0]; rfl
    have hkr0 := HGK.out kid0 (List.mem_of_getElem? hkid0)
    have hkz0 := HSK.out kid0 (List.mem_of_getElem? hkid0)
    have hks0 := HKS4.out
    obtain ⟨kb, ko, kcv0, kkv0, rfl, _, hkb, k00, k01, k02, k03, k04, hkv0⟩ := hks0.at hkid0
    obtain ⟨ya0, yn0, yc0, rfl, _, _⟩ := hkv0.1.1.form'
    obtain ⟨za0, zn0, zc0, rfl, _, _⟩ := hkv0.1.2.2.2.1.form'
    rw [show ko + 0 * 5 = ko by omega] at k00 k01 k02 k03 k04
    obtain ⟨kid1, hkid1⟩ : ∃ kk, ks[1]? = some kk := ⟨_, List.getElem?_eq_getElem (by rw [← HQN.out]; omega)⟩
    have hkg1 : ks.getD 1 clNil = kid1 := by rw [List.getD_eq_getElem?_getD, hkid1]; rfl
    have hkr1 := HGK.out kid1 (List.mem_of_getElem? hkid1)
    have hkz1 := HSK.out kid1 (List.mem_of_getElem? hkid1)
    have hks1 := HKS4.out
    obtain ⟨kb1, ko1, kcv1, kkv1, hke, _, _, k10, k11, k12, k13, k14, hkv1⟩ := hks1.at hkid1
    injection hke with hke
    injection hke with hke1 hke2
    subst hke1 hke2
    obtain ⟨ya1, yn1, yc1, rfl, _, _⟩ := hkv1.1.1.form'
    obtain ⟨za1, zn1, zc1, rfl, _, _⟩ := hkv1.1.2.2.2.1.form'
    rw [show ko + 1 * 5 = ko + 5 by omega] at k10 k11 k12 k13 k14
    rw [hkg0, hkg1] at hT2
    have HT2 := Lib.hid hT2
    have hk1 : (0 : Int) < k := by omega
    have hk1' : 0 < k := by omega
    have hk3 : (1 : Int) < k := by omega
    have hk3' : 1 < k := by omega
    clear hT2 hkg0 hkr0 hkz0 hks0 hkid0 hkv0 hkg1 hkr1 hkz1 hks1 hkid1 hkv1 l0 hk2
    go_wp2_with fail
    refine HRS.out.mono ?_
    rintro e w5 ⟨rfl, hb5⟩
    have HB5 := Lib.hid (HBW.out.trans (hb5.mono HBW.out.size))
    have x4 := below_c hb5 hbxc y4
    have x04 := below_c hb5 hkb k04
    have x14 := below_c hb5 hkb k14
    clear hb5
    have hF := HT2.out
    obtain ⟨A0, hA0⟩ : ∃ A, (kid0.count == 0) = A := ⟨_, rfl⟩
    obtain ⟨A1, hA1⟩ : ∃ A, (kid1.count == 0) = A := ⟨_, rfl⟩
    rw [hA0, hA1] at hF
    rcases bool2 A0 with rfl | rfl
    case inr =>
      have hF2 : T = false := by rw [← hF]; rfl
      subst hF2
      clear hF HT2
      go_wp2_with fail
      go_ret
      exact ⟨rfl, HB5.out⟩
    rcases bool2 A1 with rfl | rfl
    case inr =>
      have hF2 : T = false := by rw [← hF]; rfl
      subst hF2
      clear hF HT2
      go_wp2_with fail
      go_ret
      exact ⟨rfl, HB5.out⟩
    have HF : Hid ((c.count == 0) = T) := Lib.hid (by rw [← hF]; rfl)
    clear hF HT2
    go_wp2_with fail
    go_ret
    exact ⟨by rw [← HF.out]; rfl, HB5.out⟩
  rw [if_neg r6] at hT2
  have t6 : (c.rule == 6) = false := by simp; exact r6
  subst hT2
  clear r0 r1 r2 r3 r4 r5 r6
  go_wp2_with fail
  go_ret
  exact ⟨rfl, HBW.out⟩
end Go.Proofs.YthanfjpmcckbhaaGreatDoor
