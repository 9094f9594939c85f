/- (Trace seat Z) Walk: follows of the statement's definitions. No condition but the sizes and the ranges. -/
import Derived.Test.YthanfjpmcckbhaaGreatDoorQr
import Derived.Test.YthanfjpmcckbhaaGreatDoorWj0
import Derived.Deep.DeepCutAuto
namespace Go.Proofs.YthanfjpmcckbhaaGreatDoor
open Go.ChangeShapes Go.WideShapes Go.ChangeAt Go.RowKit
set_option linter.unusedVariables false
set_option linter.unusedSimpArgs false

set_option maxRecDepth 100000 in
set_option maxHeartbeats 16000000 in
theorem lfol2_any (keep : Int) (r0 r1 r2 r3 r4 kv : Value) (c : Claim) (ks : List Claim) (w : World) (hc : ClaimV (fun _ => True) w (r0, r1, r2, r3, r4) c) (hks : Claims (fun _ => True) w kv ks)
    (hik : I64 keep) (hsc : SzC c) (hsk : ∀ k ∈ ks, SzC k) (hkl : ks.length ≤ 4000) (hru : Hid (c.rule = 2)) :
    Calls Tryz.prog 117 #[.int .i64 keep, .agg #[r0, r1, r2, r3, r4], kv] w (BoolPost w (folS keep c ks)) := by
  obtain ⟨R, hR⟩ : ∃ R, folS keep c ks = R := ⟨_, rfl⟩
  have hR2 := hR
  unfold folS at hR2
  rw [hR]
  obtain ⟨⟨hcl, h1, h2, hki, h4⟩, hir, hil, hic⟩ := id hc
  have h1 : r1 = _ := h1
  have h2 : r2 = _ := h2
  have h4 : r4 = _ := h4
  subst h1 h2 h4
  have hcl : Clss (fun _ => True) w r0 c.cls := hcl
  have hki : Ints (fun _ => True) w r3 c.kids := hki
  have hir : I64 c.rule := hir
  have hil : I64 c.lit := hil
  have hic : I64 c.count := hic
  obtain ⟨xa, xn, xc, rfl, HCN, hcn⟩ := hcl.form'
  obtain ⟨ka, kn, kc, rfl, _, _⟩ := hki.form'
  obtain ⟨qa, qn, qc, rfl, HQN, hqn⟩ := hks.form
  obtain ⟨T, hT⟩ : ∃ T, (if c.rule = 0 then (c.lit == 0) && (decide (ks.length = 0) && (decide (c.cls.length = 0) && (c.count == 1)))
    else if c.rule = 1 then (c.lit == 0) && (decide (ks.length = 0) && (decide (0 < c.cls.length) && (decide ((c.cls.getD 0 []).length = 0) && (c.count == 0))))
    else if c.rule = 2 then unitS keep c ks
    else if c.rule = 3 then decS keep c ks
    else if c.rule = 4 then splS c ks
    else if c.rule = 5 then tryS keep c ks
    else if c.rule = 6 then bothS c ks
    else false) = T := ⟨_, rfl⟩
  rw [hT] at hR2
  have HR0 : Hid ((if ((ks.drop 0).any fun k => decide (k.count < 0) || decide (1099511627776 < k.count)) = true then false else T) = R) := Lib.hid hR2
  have HG0 : Hid (∀ k ∈ ks.take 0, 0 ≤ k.count ∧ k.count ≤ 1099511627776) := Lib.hid (by simp)
  obtain ⟨W1, hW1⟩ : ∃ W, w.alloc (.cells #[.slice xa xn xc, .int .i64 c.rule, .int .i64 c.lit, .slice ka kn kc, .int .i64 c.count] 52) = W := ⟨_, rfl⟩
  obtain ⟨bx, hbx⟩ : ∃ b, w.heap.size = b := ⟨_, rfl⟩
  have hb1 : Below w.heap.size w W1 := by rw [← hW1]; exact (Below.refl _ _).alloc (Nat.le_refl _) _
  have hrow : W1.heap[bx]? = some (.cells #[.slice xa xn xc, .int .i64 c.rule, .int .i64 c.lit, .slice ka kn kc, .int .i64 c.count] 52) := by rw [← hW1]; exact new_at' _ _ hbx.symm
  have b0 : W1.cell? ⟨bx, 0, none⟩ = some (.slice xa xn xc) := by rw [cell_of_row _ _ _ _ _ _ hrow]; rfl
  have b1 : W1.cell? ⟨bx, 1, none⟩ = some (.int .i64 c.rule) := by rw [cell_of_row _ _ _ _ _ _ hrow]; rfl
  have b2 : W1.cell? ⟨bx, 2, none⟩ = some (.int .i64 c.lit) := by rw [cell_of_row _ _ _ _ _ _ hrow]; rfl
  have b4 : W1.cell? ⟨bx, 4, none⟩ = some (.int .i64 c.count) := by rw [cell_of_row _ _ _ _ _ _ hrow]; rfl
  have hs1 : W1.heap.size = bx + 1 := by rw [← hW1]; simp; omega
  have HT := Lib.hid hT
  have HB1 := Lib.hid hb1
  have HCL := Lib.hid (Clss.below hcl hb1)
  have HKS := Lib.hid (hks.below hb1)
  have HSC := Lib.hid hsc
  have HSK := Lib.hid hsk
  have HIK := Lib.hid hik
  have HIL := Lib.hid hil
  have HBX0 : Hid (Below W1.heap.size W1 W1) := Lib.hid (Below.refl _ _)
  have hq5 : qn ≤ 4000 := by rw [HQN.out]; exact hkl
  have hbx1 : bx < W1.heap.size := by omega
  clear hR hR2 hT hc hcl hks hki hrow hb1 hsc hsk hik hkl hil hir hic
  go_enter Tryz.func117, Tryz.ntmps117
  go_wp2_with fail
  try rw [hW1]
  clear hW1 hbx
  go_loopg [22] qn (fun gg u22 wx => ∃ (k : Nat), k + gg = qn ∧ u22 = .int .i64 k ∧ Hid (Below W1.heap.size W1 wx) ∧ Hid (∀ x ∈ ks.take k, 0 ≤ x.count ∧ x.count ≤ 1099511627776) ∧ Hid ((if ((ks.drop k).any fun k => decide (k.count < 0) || decide (1099511627776 < k.count)) = true then false else T) = R))
  case atStart => exact ⟨0, by omega, rfl, HBX0, HG0, HR0⟩
  case round =>
  clear HBX0 HG0 HR0
  obtain ⟨k, hkg, rfl, HB, HGD, HRK⟩ := hrel
  by_cases hk : k < qn
  · obtain ⟨kid, hkid, ek⟩ := drop_at (xs := ks) (k := k) (by have := HQN.out; omega)
    have hks2 := HKS.out
    obtain ⟨kb, ko, kcv, kkv, rfl, _, hkb, k0, k1, k2, k3, k4, ⟨⟨hkcl, _, _, hkki, _⟩, _⟩⟩ := hks2.at hkid
    obtain ⟨ya, yn, yc, rfl, _, _⟩ := hkcl.form'
    obtain ⟨kka, kkn, kkc, rfl, _, _⟩ := hkki.form'
    have y0 := below_c HB.out hkb k0
    have y1 := below_c HB.out hkb k1
    have y2 := below_c HB.out hkb k2
    have y3 := below_c HB.out hkb k3
    have y4 := below_c HB.out hkb k4
    have hdk : decide ((k : Int) < qn) = true := by simp; omega
    have hdk' : decide (k < qn) = true := decide_eq_true hk
    have hr := HRK.out
    rw [ek, List.any_cons] at hr
    have HTK : Hid (ks.take (k + 1) = ks.take k ++ [kid]) := Lib.hid (by rw [List.take_add_one, hkid]; rfl)
    have hbA := fun o => HB.out.alloc HB.out.size o
    have HBA := Lib.hid hbA
    clear hks2 hkid ek hkcl hkki k0 k1 k2 k3 k4 hbA HRK
    by_cases h1 : kid.count < 0
    · have d1 : decide (kid.count < 0) = true := decide_eq_true h1
      rw [d1, Bool.true_or, Bool.true_or, if_pos rfl] at hr
      subst hr
      go_wp2_with fail
      go_ret
      exact ⟨rfl, HB1.out.trans ((HBA.out _).mono HB1.out.size)⟩
    have d1 : decide (kid.count < 0) = false := decide_eq_false h1
    by_cases h2 : 1099511627776 < kid.count
    · have d2 : decide (1099511627776 < kid.count) = true := decide_eq_true h2
      rw [d1, d2, Bool.false_or, Bool.true_or, if_pos rfl] at hr
      subst hr
      go_wp2_with fail
      go_ret
      exact ⟨rfl, HB1.out.trans ((HBA.out _).mono HB1.out.size)⟩
    have d2 : decide (1099511627776 < kid.count) = false := decide_eq_false h2
    rw [d1, d2, Bool.false_or, Bool.false_or] at hr
    have HR := Lib.hid hr
    have HG2 : Hid (∀ x ∈ ks.take (k + 1), 0 ≤ x.count ∧ x.count ≤ 1099511627776) := Lib.hid (by
      rw [HTK.out]
      intro x hx
      rcases List.mem_append.1 hx with h | h
      · exact HGD.out x h
      · simp at h; subst h; omega)
    clear hr h1 h2
    go_wp2_with fail
    go_roundg (gk - 1)
    case measure => omega
    case rel => exact ⟨k + 1, by omega, by go_num, Lib.hid (HBA.out _), HG2, HR⟩
  obtain rfl : k = qn := by omega
  have hdk : decide ((k : Int) < k) = false := by simp
  have hdk' : decide (k < k) = false := decide_eq_false (by omega)
  have hTR : T = R := by
    have := HRK.out
    rw [List.drop_eq_nil_of_le (by rw [HQN.out]; exact Nat.le_refl _), List.any_nil, if_neg (by simp)] at this
    exact this
  subst hTR
  have hgd := HGD.out
  rw [List.take_of_length_le (by rw [HQN.out]; exact Nat.le_refl _)] at hgd
  have HGK := Lib.hid hgd
  have y0 := below_c HB.out hbx1 b0
  have y1 := below_c HB.out hbx1 b1
  have y2 := below_c HB.out hbx1 b2
  have y4 := below_c HB.out hbx1 b4
  have HKE := Lib.hid (lkept_any _ keep _ c.cls wr (Clss.below HCL.out HB.out) HIK.out HSC.out.1 HSC.out.2.1)
  have hsr := HB.out.size
  clear hgd HRK HGD b0 b1 b2 b4 hdk hdk'
  have hdk : decide ((k : Int) < k) = false := by simp
  have hdk' : decide (k < k) = false := decide_eq_false (by omega)
  go_wp2_with fail
  refine HKE.out.mono ?_
  rintro e w3 ⟨v3, rfl, hb3, ho3⟩
  obtain ⟨pa, pc, rfl⟩ := own_form ho3
  have hb31 : Below W1.heap.size W1 w3 := HB.out.trans (hb3.mono hsr)
  have hps : (keptM keep (occM c.cls)).length ≤ 20000 := Nat.le_trans (List.length_filter_le _ _) (occ_len_le (cs := []) (occM_strict _) fun x hx => occM_range hx)
  have hvs : Ints (fun _ => True) w3 (.slice pa (keptM keep (occM c.cls)).length pc) (keptM keep (occM c.cls)) := ⟨(ownsRow_sl1 ho3 (by omega)).mono fun _ _ => trivial, fun y hy => by have := occM_range (kept_mem.1 hy).1; unfold I64; omega⟩
  obtain ⟨pn, hpn⟩ : ∃ n, (keptM keep (occM c.cls)).length = n := ⟨_, rfl⟩
  have HPN := Lib.hid hpn
  rw [hpn] at hvs hps ⊢
  have HVS := Lib.hid hvs
  have HB3 := Lib.hid hb31
  have z0 := below_c hb3 (by omega) y0
  have z1 := below_c hb3 (by omega) y1
  have z2 := below_c hb3 (by omega) y2
  have z4 := below_c hb3 (by omega) y4
  have hs3 := hb3.size
  have HSI := Lib.hid (size_any c.lit w3 HIL.out)
  clear ho3 hb3 hb31 hvs hpn HKE HB y0 y1 y2 y4
  go_wp2_with fail
  refine HSI.out.mono ?_
  rintro e w4 ⟨rfl, hw4⟩
  subst hw4
  obtain ⟨V, hV⟩ : ∃ V, sizeM c.lit = V := ⟨_, rfl⟩
  have HV := Lib.hid hV
  have hvr := size_range c.lit
  rw [hV] at hvr ⊢
  obtain ⟨OB, hOB⟩ : ∃ OB, occB c = OB := ⟨_, rfl⟩
  have HOB := Lib.hid hOB
  have HCL3 := Lib.hid (Clss.below HCL.out HB3.out)
  clear hV hOB HSI
  go_upto_region 9 with fail
  go_cut [11] (fun u11 wx => u11 = .bool OB ∧ Hid (Below w4.heap.size w4 wx))
  case first =>
    by_cases hv0 : 0 < V
    case neg =>
      have e0 : decide (0 < V) = false := decide_eq_false hv0
      have hob : OB = false := by rw [← HOB.out]; unfold occB; rw [HV.out, e0]; rfl
      subst hob
      go_wp2_with fail
      go_meet
      exact ⟨rfl, Lib.hid (Below.refl _ _)⟩
    have e0 : decide (0 < V) = true := decide_eq_true hv0
    have HOC := Lib.hid (loccur_any _ _ c.cls w4 HCL3.out HSC.out.1 HSC.out.2.1)
    go_wp2_with fail
    refine HOC.out.mono ?_
    rintro e w5 ⟨ov, os, rfl, hos, hb5, hst, hmem⟩
    obtain rfl := occ_eq hst hmem
    have HCT := Lib.hid (contains_any _ _ (occM c.cls) V w5 hos ⟨by omega, by omega⟩)
    have hct : (occM c.cls).contains V = OB := by rw [← HOB.out]; unfold occB; rw [HV.out, e0, Bool.true_and]
    rw [hct] at HCT
    obtain ⟨oa, on, oc, rfl, _, _⟩ := hos.form'
    have HB5 := Lib.hid hb5
    clear hos hb5 hst hmem HOC hct
    go_wp2_with fail
    refine HCT.out.mono ?_
    rintro e w6 ⟨rfl, hw6⟩
    subst hw6
    go_wp2_with fail
    go_meet
    exact ⟨rfl, HB5⟩
  case rest =>
  obtain ⟨rfl, HBC⟩ := hcut
  have hsc3 := HBC.out.size
  have HB4 := Lib.hid (HB3.out.trans (HBC.out.mono HB3.out.size))
  have HBW : Hid (Below w.heap.size w wc) := Lib.hid (HB1.out.trans (HB4.out.mono HB1.out.size))
  have y0 := below_c HBC.out (by omega) z0
  have y1 := below_c HBC.out (by omega) z1
  have y2 := below_c HBC.out (by omega) z2
  have y4 := below_c HBC.out (by omega) z4
  have HVS4 := Lib.hid (HVS.out.below HBC.out)
  have HKS4 := Lib.hid (HKS.out.below HB4.out)
  have HCL4 := Lib.hid (Clss.below HCL3.out HBC.out)
  have hbxc : bx < wc.heap.size := by omega
  have HVL : Hid (V = sizeM c.lit) := Lib.hid HV.out.symm
  obtain ⟨P, hP⟩ : ∃ P, keptM keep (occM c.cls) = P := ⟨_, rfl⟩
  have HP := Lib.hid hP
  have HOV : Hid (withoutM P V = wovS keep c) := Lib.hid (by rw [← hP, HVL.out]; rfl)
  rw [hP] at HPN HVS4
  clear z0 z1 z2 z4 HVS HCL3 HCL HKS HBC HB3 HB4 hsc3 hs3 hsr hP HB1 HPN
  have hT2 := HT.out
  clear hbx1 hs1
  by_cases r0 : c.rule = 0
  · have hrv := hru.out; exfalso; omega
  rw [if_neg r0] at hT2
  have t0 : (c.rule == 0) = false := by simp; exact r0
  by_cases r1 : c.rule = 1
  · have hrv := hru.out; exfalso; omega
  rw [if_neg r1] at hT2
  have t1 : (c.rule == 1) = false := by simp; exact r1
  -- the contracts that several rules use
  have HWO : Hid (∀ W, Below wc.heap.size wc W → Calls Tryz.prog 145 #[.slice pa pn pc, .int .i64 V] W (KeptPost W (wovS keep c))) := Lib.hid fun W hW => by
    rw [← HOV.out]; exact without_any _ _ P V W (HVS4.out.below hW) ⟨by omega, by omega⟩ (by have := HVS4.out.len.1; omega)
  have hwl : (wovS keep c).length ≤ 20000 := by
    rw [← HOV.out]
    have h1 := withoutM_len P V
    have h2 : pn = P.length := HVS4.out.len.1
    omega
  have hwi : ∀ y ∈ wovS keep c, I64 y := fun y hy => by
    rw [← HOV.out] at hy
    exact HVS4.out.2 y (List.mem_filter.1 hy).1
  have HWL := Lib.hid (And.intro hwl hwi)
  clear hwl hwi
  by_cases r2 : c.rule = 2
  · rw [if_pos r2] at hT2
    have t2 : (c.rule == 2) = true := by simp; exact r2
    unfold unitS at hT2
    rw [← HVL.out] at hT2
    clear r0 r1 r2
    have HBD : Hid (Below wc.heap.size wc wc.drew) := Lib.hid (Below.refl _ _).drew
    by_cases l1 : k = 1
    case neg =>
      rw [if_pos (.inl (by rw [← HQN.out]; exact l1))] at hT2
      subst hT2
      have e1 : ((k : Int) != 1) = true := by rw [bne_iff_ne]; omega
      clear l1
      go_wp2_with fail
      go_quiet (fail)
      go_wp2_with fail
      go_ret
      exact ⟨rfl, below_drewN HBW.out _⟩
    have e1 : ((k : Int) != 1) = false := by rw [bne_eq_false_iff_eq]; omega
    by_cases l2 : V = 0
    · rw [if_pos (.inr (.inl l2))] at hT2
      subst hT2
      have e2 : (V == 0) = true := by simp; exact l2
      clear l1 l2
      go_wp2_with fail
      go_quiet (fail)
      go_wp2_with fail
      go_ret
      exact ⟨rfl, below_drewN HBW.out _⟩
    have e2 : (V == 0) = false := by simp; exact l2
    have hcf := containsfL_any (fun _ => True) (fun y => y == [c.lit]) bx _ c.cls wc.drew (HCL4.out.below HBD.out) (fun W u y hW _ hy => folc_any _ bx c.lit u y W (below_c hW (by exact hbxc) (below_c HBD.out hbxc y2)) HIL.out hy)
    obtain ⟨A, hA⟩ : ∃ A, (c.cls.any fun y => y == [c.lit]) = A := ⟨_, rfl⟩
    rw [hA] at hcf hT2
    have HCF := Lib.hid hcf
    clear hcf hA
    rcases bool2 A with rfl | rfl
    rotate_left
    · rw [if_pos (.inr (.inr (.inl rfl)))] at hT2
      subst hT2
      clear l1 l2
      go_wp2_with fail
      refine wp_region_held_drew (S := fun w' => w'.cell? ⟨bx, 0, none⟩ = some (.slice xa xn xc) ∧ w'.cell? ⟨bx, 2, none⟩ = some (.int .i64 c.lit)) (by kernel_rfl) (by exact ⟨y0, y2⟩) (fun hHeld => ?_)
      refine wpAnyH_take (i := 0) (v := ?_) rfl (by kernel_rfl) (by kernel_rfl) (by kernel_rfl) (fun _ _ _ h => h) (Or.inl ⟨by rfl, ?_⟩) (by assumption) ?_
      rotate_left
      · intro w hSw
        try dsimp only at hSw
        go_simp
        try with_reducible rfl
      try simp only [Act.put, List.getElem_toArray, List.getElem_cons_succ, List.getElem_cons_zero, List.setIfInBounds_toArray, List.set_cons_zero, List.set_cons_succ]
      refine wpAnyH_take (i := 1) (v := ?_) rfl (by kernel_rfl) (by kernel_rfl) (by kernel_rfl) (fun _ _ _ h => h) (Or.inl ⟨by rfl, ?_⟩) (by assumption) ?_
      rotate_left
      · intro w hSw
        try dsimp only at hSw
        go_simp
        try with_reducible rfl
      try simp only [Act.put, List.getElem_toArray, List.getElem_cons_succ, List.getElem_cons_zero, List.setIfInBounds_toArray, List.set_cons_zero, List.set_cons_succ]
      refine wpAnyH_take (i := 2) (v := ?_) rfl (by kernel_rfl) (by kernel_rfl) (by kernel_rfl) (fun _ _ _ h => h) (Or.inl ⟨by rfl, ?_⟩) (by assumption) ?_
      rotate_left
      · intro w hSw
        try dsimp only at hSw
        go_simp
        try with_reducible rfl
      try simp only [Act.put, List.getElem_toArray, List.getElem_cons_succ, List.getElem_cons_zero, List.setIfInBounds_toArray, List.set_cons_zero, List.set_cons_succ]
      refine wpAnyH_take (i := 3) (v := ?_) rfl (by kernel_rfl) (by kernel_rfl) (by kernel_rfl) (fun _ _ _ h => h) (Or.inl ⟨by rfl, ?_⟩) (by assumption) ?_
      rotate_left
      · intro w hSw
        try dsimp only at hSw
        go_simp
        try with_reducible rfl
      try simp only [Act.put, List.getElem_toArray, List.getElem_cons_succ, List.getElem_cons_zero, List.setIfInBounds_toArray, List.set_cons_zero, List.set_cons_succ]
      refine wpAnyH_take (i := 4) (v := ?_) rfl (by kernel_rfl) (by kernel_rfl) (by kernel_rfl) (fun _ _ _ h => h) (Or.inl ⟨by rfl, ?_⟩) (by assumption) ?_
      rotate_left
      · intro w hSw
        try dsimp only at hSw
        go_simp
        try with_reducible rfl
      try simp only [Act.put, List.getElem_toArray, List.getElem_cons_succ, List.getElem_cons_zero, List.setIfInBounds_toArray, List.set_cons_zero, List.set_cons_succ]
      refine wpAnyH_take (i := 5) (v := ?_) rfl (by kernel_rfl) (by kernel_rfl) (by kernel_rfl) (fun _ _ _ h => h) (Or.inl ⟨by rfl, ?_⟩) (by assumption) ?_
      rotate_left
      · intro w hSw
        try dsimp only at hSw
        go_simp
        try with_reducible rfl
      try simp only [Act.put, List.getElem_toArray, List.getElem_cons_succ, List.getElem_cons_zero, List.setIfInBounds_toArray, List.set_cons_zero, List.set_cons_succ]
      refine wpAnyH_take (i := 6) (v := ?_) rfl (by kernel_rfl) (by kernel_rfl) (by kernel_rfl) (fun _ _ _ h => h) (Or.inl ⟨by rfl, ?_⟩) (by assumption) ?_
      rotate_left
      · intro w hSw
        try dsimp only at hSw
        go_simp
        try with_reducible rfl
      try simp only [Act.put, List.getElem_toArray, List.getElem_cons_succ, List.getElem_cons_zero, List.setIfInBounds_toArray, List.set_cons_zero, List.set_cons_succ]
      refine wpAnyH_take (i := 7) (v := ?_) rfl (by kernel_rfl) (by kernel_rfl) (by kernel_rfl) (fun _ _ _ h => h) (Or.inl ⟨by rfl, ?_⟩) (by assumption) ?_
      rotate_left
      · intro w hSw
        try dsimp only at hSw
        go_simp
        try with_reducible rfl
      try simp only [Act.put, List.getElem_toArray, List.getElem_cons_succ, List.getElem_cons_zero, List.setIfInBounds_toArray, List.set_cons_zero, List.set_cons_succ]
      refine wpAnyH_take (i := 8) (v := ?_) rfl (by kernel_rfl) (by kernel_rfl) (by kernel_rfl) (fun _ _ _ h => h) (Or.inl ⟨by rfl, ?_⟩) (by assumption) ?_
      rotate_left
      · intro w hSw
        try dsimp only at hSw
        go_simp
        try with_reducible rfl
      try simp only [Act.put, List.getElem_toArray, List.getElem_cons_succ, List.getElem_cons_zero, List.setIfInBounds_toArray, List.set_cons_zero, List.set_cons_succ]
      refine wpAnyH_take (i := 9) (v := ?_) rfl (by kernel_rfl) (by kernel_rfl) (by kernel_rfl) (fun _ _ _ h => h) (Or.inl ⟨by rfl, ?_⟩) (by assumption) ?_
      rotate_left
      · intro w hSw
        try dsimp only at hSw
        go_simp
        try with_reducible rfl
      try simp only [Act.put, List.getElem_toArray, List.getElem_cons_succ, List.getElem_cons_zero, List.setIfInBounds_toArray, List.set_cons_zero, List.set_cons_succ]
      refine wpAnyH_take (i := 10) (v := ?_) rfl (by kernel_rfl) (by kernel_rfl) (by kernel_rfl) (fun _ _ _ h => h) (Or.inl ⟨by rfl, ?_⟩) (by assumption) ?_
      rotate_left
      · intro w hSw
        try dsimp only at hSw
        go_simp
        try with_reducible rfl
      try simp only [Act.put, List.getElem_toArray, List.getElem_cons_succ, List.getElem_cons_zero, List.setIfInBounds_toArray, List.set_cons_zero, List.set_cons_succ]
      refine wpAnyH_ready (rs := [11]) (by kernel_rfl) (by simp) ?_
      refine AllReadyH.cons rfl (fun K hK => ?_) AllReadyH.nil
      go_simp
      (go_at_call 41; refine HCF.out.mono ?_; rintro e w5 ⟨rfl, hb5⟩; have HB5 := Lib.hid (HBD.out.trans (hb5.mono HBD.out.size)); have p0 := below_c HB5.out hbxc y0; have p2 := below_c HB5.out hbxc y2; clear hb5)
      go_wp2_with fail
      refine hK.out _ _ (by exact ⟨p0, p2⟩) (fun hHeld2 => ?_)
      clear hK K
      try simp only [Act.put, List.getElem_toArray, List.getElem_cons_succ, List.getElem_cons_zero, List.setIfInBounds_toArray, List.set_cons_zero, List.set_cons_succ]
      refine wpAnyH_take (i := 12) (v := ?_) rfl (by kernel_rfl) (by kernel_rfl) (by kernel_rfl) (fun _ _ _ h => h) (Or.inl ⟨by rfl, ?_⟩) (by assumption) ?_
      rotate_left
      · intro w hSw
        try dsimp only at hSw
        go_simp
        try with_reducible rfl
      try simp only [Act.put, List.getElem_toArray, List.getElem_cons_succ, List.getElem_cons_zero, List.setIfInBounds_toArray, List.set_cons_zero, List.set_cons_succ]
      refine wpAnyH_take (i := 13) (v := ?_) rfl (by kernel_rfl) (by kernel_rfl) (by kernel_rfl) (fun _ _ _ h => h) (Or.inl ⟨by rfl, ?_⟩) (by assumption) ?_
      rotate_left
      · intro w hSw
        try dsimp only at hSw
        go_simp
        try with_reducible rfl
      try simp only [Act.put, List.getElem_toArray, List.getElem_cons_succ, List.getElem_cons_zero, List.setIfInBounds_toArray, List.set_cons_zero, List.set_cons_succ]
      refine wpAnyH_take (i := 14) (v := ?_) rfl (by kernel_rfl) (by kernel_rfl) (by kernel_rfl) (fun _ _ _ h => h) (Or.inl ⟨by rfl, ?_⟩) (by assumption) ?_
      rotate_left
      · intro w hSw
        try dsimp only at hSw
        go_simp
        try with_reducible rfl
      try simp only [Act.put, List.getElem_toArray, List.getElem_cons_succ, List.getElem_cons_zero, List.setIfInBounds_toArray, List.set_cons_zero, List.set_cons_succ]
      refine wpAnyH_take (i := 15) (v := undef) rfl (by kernel_rfl) (by kernel_rfl) (by kernel_rfl) (fun _ _ _ h => h) (Or.inr ⟨by rfl, rfl⟩) (by assumption) ?_
      try simp only [Act.put, List.getElem_toArray, List.getElem_cons_succ, List.getElem_cons_zero, List.setIfInBounds_toArray, List.set_cons_zero, List.set_cons_succ]
      refine wpAnyH_take (i := 16) (v := undef) rfl (by kernel_rfl) (by kernel_rfl) (by kernel_rfl) (fun _ _ _ h => h) (Or.inr ⟨by rfl, rfl⟩) (by assumption) ?_
      try simp only [Act.put, List.getElem_toArray, List.getElem_cons_succ, List.getElem_cons_zero, List.setIfInBounds_toArray, List.set_cons_zero, List.set_cons_succ]
      refine wpAnyH_take (i := 17) (v := undef) rfl (by kernel_rfl) (by kernel_rfl) (by kernel_rfl) (fun _ _ _ h => h) (Or.inr ⟨by rfl, rfl⟩) (by assumption) ?_
      try simp only [Act.put, List.getElem_toArray, List.getElem_cons_succ, List.getElem_cons_zero, List.setIfInBounds_toArray, List.set_cons_zero, List.set_cons_succ]
      refine wpAnyH_take (i := 18) (v := undef) rfl (by kernel_rfl) (by kernel_rfl) (by kernel_rfl) (fun _ _ _ h => h) (Or.inr ⟨by rfl, rfl⟩) (by assumption) ?_
      try simp only [Act.put, List.getElem_toArray, List.getElem_cons_succ, List.getElem_cons_zero, List.setIfInBounds_toArray, List.set_cons_zero, List.set_cons_succ]
      refine wpAnyH_take (i := 19) (v := undef) rfl (by kernel_rfl) (by kernel_rfl) (by kernel_rfl) (fun _ _ _ h => h) (Or.inr ⟨by rfl, rfl⟩) (by assumption) ?_
      try simp only [Act.put, List.getElem_toArray, List.getElem_cons_succ, List.getElem_cons_zero, List.setIfInBounds_toArray, List.set_cons_zero, List.set_cons_succ]
      refine wpAnyH_take (i := 20) (v := undef) rfl (by kernel_rfl) (by kernel_rfl) (by kernel_rfl) (fun _ _ _ h => h) (Or.inr ⟨by rfl, rfl⟩) (by assumption) ?_
      try simp only [Act.put, List.getElem_toArray, List.getElem_cons_succ, List.getElem_cons_zero, List.setIfInBounds_toArray, List.set_cons_zero, List.set_cons_succ]
      refine wpAnyH_take (i := 21) (v := undef) rfl (by kernel_rfl) (by kernel_rfl) (by kernel_rfl) (fun _ _ _ h => h) (Or.inr ⟨by rfl, rfl⟩) (by assumption) ?_
      try simp only [Act.put, List.getElem_toArray, List.getElem_cons_succ, List.getElem_cons_zero, List.setIfInBounds_toArray, List.set_cons_zero, List.set_cons_succ]
      refine wpAnyH_take (i := 22) (v := undef) rfl (by kernel_rfl) (by kernel_rfl) (by kernel_rfl) (fun _ _ _ h => h) (Or.inr ⟨by rfl, rfl⟩) (by assumption) ?_
      try simp only [Act.put, List.getElem_toArray, List.getElem_cons_succ, List.getElem_cons_zero, List.setIfInBounds_toArray, List.set_cons_zero, List.set_cons_succ]
      refine wpAnyH_take (i := 23) (v := undef) rfl (by kernel_rfl) (by kernel_rfl) (by kernel_rfl) (fun _ _ _ h => h) (Or.inr ⟨by rfl, rfl⟩) (by assumption) ?_
      try simp only [Act.put, List.getElem_toArray, List.getElem_cons_succ, List.getElem_cons_zero, List.setIfInBounds_toArray, List.set_cons_zero, List.set_cons_succ]
      refine wpAnyH_take (i := 24) (v := undef) rfl (by kernel_rfl) (by kernel_rfl) (by kernel_rfl) (fun _ _ _ h => h) (Or.inr ⟨by rfl, rfl⟩) (by assumption) ?_
      try simp only [Act.put, List.getElem_toArray, List.getElem_cons_succ, List.getElem_cons_zero, List.setIfInBounds_toArray, List.set_cons_zero, List.set_cons_succ]
      refine wpAnyH_take (i := 25) (v := undef) rfl (by kernel_rfl) (by kernel_rfl) (by kernel_rfl) (fun _ _ _ h => h) (Or.inr ⟨by rfl, rfl⟩) (by assumption) ?_
      try simp only [Act.put, List.getElem_toArray, List.getElem_cons_succ, List.getElem_cons_zero, List.setIfInBounds_toArray, List.set_cons_zero, List.set_cons_succ]
      refine wpAnyH_take (i := 26) (v := ?_) rfl (by kernel_rfl) (by kernel_rfl) (by kernel_rfl) (fun _ _ _ h => h) (Or.inl ⟨by rfl, ?_⟩) (by assumption) ?_
      rotate_left
      · intro w hSw
        try dsimp only at hSw
        go_simp
        try with_reducible rfl
      try simp only [Act.put, List.getElem_toArray, List.getElem_cons_succ, List.getElem_cons_zero, List.setIfInBounds_toArray, List.set_cons_zero, List.set_cons_succ]
      refine wpAnyH_done (by kernel_rfl) ?_ _
      go_wp2_with fail
      go_ret
      exact ⟨rfl, HBW.out.trans (HB5.out.mono HBW.out.size)⟩
    obtain ⟨kid0, hkid0⟩ : ∃ kk, ks[0]? = some kk := ⟨_, List.getElem?_eq_getElem (by rw [← HQN.out]; omega)⟩
    have hkg0 : ks.getD 0 clNil = kid0 := by rw [List.getD_eq_getElem?_getD, hkid0]; rfl
    have hkr0 := HGK.out kid0 (List.mem_of_getElem? hkid0)
    have hkz0 := HSK.out kid0 (List.mem_of_getElem? hkid0)
    have hks0 := HKS4.out
    obtain ⟨kb, ko, kcv0, kkv0, rfl, _, hkb, k00, k01, k02, k03, k04, hkv0⟩ := hks0.at hkid0
    obtain ⟨ya0, yn0, yc0, rfl, _, _⟩ := hkv0.1.1.form'
    obtain ⟨za0, zn0, zc0, rfl, _, _⟩ := hkv0.1.2.2.2.1.form'
    rw [show ko + 0 * 5 = ko by omega] at k00 k01 k02 k03 k04
    have hre : resB c ks 0 (c.lit) = (kid0.cls == resM c.cls (c.lit)) := by unfold resB; rw [hkg0]
    obtain ⟨E, hE⟩ : ∃ E, (kid0.cls == resM c.cls (c.lit)) = E := ⟨_, rfl⟩
    have HEQ : Hid (∀ rv W, Below wc.heap.size wc W → ∀ {G : Nat → Prop}, Clss G W rv (resM c.cls (c.lit)) → Calls Tryz.prog 57 #[.slice ya0 yn0 yc0, rv] W (QuietPost W (.bool E))) := Lib.hid fun rv W hW {G} hrv => by
      rw [← hE]
      exact lequal_any _ _ _ _ W (Clss.below hkv0.1.1 hW) hrv
    have HRE : Hid (∀ W, Below wc.heap.size wc W → Calls Tryz.prog 59 #[.slice xa xn xc, .int .i64 (c.lit)] W (ResPost W c.cls (c.lit))) := Lib.hid fun W hW => lresidual_any _ _ c.cls (c.lit) W (HCL4.out.below hW) (by first | exact HIL.out | (unfold I64; omega)) (by have := HSC.out.1; omega) (fun x hx => by have := HSC.out.2.1 x hx; omega)
    rw [hkg0] at hT2
    rw [hre, hE] at hT2
    have HT2 := Lib.hid hT2
    obtain ⟨⟨rn0, rb0⟩, hrr0⟩ : ∃ r, liftS keep (wovS keep c) kid0 = r := ⟨_, rfl⟩
    have HLI0 : Hid (∀ W v, Below wc.heap.size wc W → Ints (fun _ => True) W v (wovS keep c) → Calls Tryz.prog 144 #[v, .int .i64 keep, .agg #[.slice ya0 yn0 yc0, .int .i64 kid0.rule, .int .i64 kid0.lit, .slice za0 zn0 zc0, .int .i64 kid0.count]] W (fun e w' => e = .returned (.tuple #[.int .i64 rn0, .bool rb0]) ∧ Below W.heap.size W w')) := Lib.hid fun W v hW hv => by
      have := lifted_any _ keep v (wovS keep c) _ _ _ _ _ kid0 W hv (hkv0.below hW) HIK.out (by have := HWL.out.1; omega) hkz0 hkr0
      rw [hrr0] at this
      exact this
    have HK0 := Lib.hid hkv0
    have HR0' := Lib.hid hrr0
    clear hT2 hre hE hkg0 hkr0 hkz0 hks0 hkid0 hrr0 hkv0
    have hk1 : (0 : Int) < k := by omega
    have hk1' : 0 < k := by omega
    go_wp2_with fail
    go_region_held3 (fun w' => w'.cell? ⟨bx, 0, none⟩ = some (.slice xa xn xc) ∧ w'.cell? ⟨bx, 2, none⟩ = some (.int .i64 c.lit) ∧ w'.cell? ⟨kb, ko, none⟩ = some (.slice ya0 yn0 yc0))
      (first | exact ⟨y0, y2, k00⟩ | exact ⟨p0, p2, p3⟩ | exact ⟨q0, q2, q3⟩ | exact ⟨s0, s2, s3⟩ | go_keep)
      (first
        | (go_at_call 41; refine HCF.out.mono ?_; rintro e w5 ⟨rfl, hb5⟩; have HB5 := Lib.hid (HBD.out.trans (hb5.mono HBD.out.size)); have p0 := below_c HB5.out hbxc y0; have p2 := below_c HB5.out hbxc y2; have p3 := below_c HB5.out hkb k00; clear hb5)
        | (go_at_call 59; refine (HRE.out _ HB5.out).mono ?_; rintro e w6 ⟨rv, rfl, hrv, hb6⟩; have HRV := Lib.hid hrv; obtain ⟨ra, rn, rc, rfl, _, _⟩ := hrv.form'; have HB6 := Lib.hid (HB5.out.trans (hb6.mono HB5.out.size)); have q0 := below_c HB6.out hbxc y0; have q2 := below_c HB6.out hbxc y2; have q3 := below_c HB6.out hkb k00; clear hrv hb6)
        | (go_at_call 57; refine (HEQ.out _ _ HB6.out HRV.out).mono ?_; rintro e w7 ⟨rfl, nd, rfl⟩; have HB7 := Lib.hid (below_drewN HB6.out nd); have s0 := below_c HB7.out hbxc y0; have s2 := below_c HB7.out hbxc y2; have s3 := below_c HB7.out hkb k00)
        | fail)
    obtain ⟨w8, hw8⟩ : ∃ W, w6.drewN nd = W := ⟨_, rfl⟩
    rw [hw8] at HB7 ⊢
    clear hw8 p0 p2 p3 q0 q2 q3 s0 s2 s3 HB5 HB6 HRV HCF HRE HEQ
    rcases bool2 E with rfl | rfl
    case inr =>
      have hF := HT2.out
      rw [if_pos (.inr (.inr (.inr rfl)))] at hF
      subst hF
      go_wp2_with fail
      go_ret
      exact ⟨rfl, HBW.out.trans (HB7.out.mono HBW.out.size)⟩
    have hF := HT2.out
    rw [if_neg (by rintro (h | h | h | h); exact h (by rw [← HQN.out]; exact l1); exact l2 h; cases h; cases h), HR0'.out] at hF
    have HF := Lib.hid hF
    clear hF HT2 l1 l2
    have HBL0 : Hid (Below wc.heap.size wc w8.drew) := Lib.hid (HB7.out.trans ((show Below w8.heap.size w8 w8.drew from (Below.refl _ _).drew).mono HB7.out.size))
    have l00 := below_c HB7.out hkb k00
    have l01 := below_c HB7.out hkb k01
    have l02 := below_c HB7.out hkb k02
    have l03 := below_c HB7.out hkb k03
    have l04 := below_c HB7.out hkb k04
    go_wp2_with fail
    go_region_held3 (fun w' => w'.cell? ⟨kb, ko, none⟩ = some (.slice ya0 yn0 yc0) ∧ w'.cell? ⟨kb, ko + 1, none⟩ = some (.int .i64 kid0.rule) ∧ w'.cell? ⟨kb, ko + 2, none⟩ = some (.int .i64 kid0.lit) ∧ w'.cell? ⟨kb, ko + 3, none⟩ = some (.slice za0 zn0 zc0) ∧ w'.cell? ⟨kb, ko + 4, none⟩ = some (.int .i64 kid0.count))
      (first | exact ⟨l00, l01, l02, l03, l04⟩ | exact ⟨m00, m01, m02, m03, m04⟩ | exact ⟨n00, n01, n02, n03, n04⟩ | go_keep)
      (first
        | (go_at_call 145; refine (HWO.out _ HBL0.out).mono ?_; rintro e wa0 ⟨va0, rfl, hba0, hoa0⟩; obtain ⟨oa0, oc0, rfl⟩ := own_form hoa0; have HIA0 : Hid (Ints (fun _ => True) wa0 (.slice oa0 (wovS keep c).length oc0) (wovS keep c)) := Lib.hid ⟨(ownsRow_sl1 hoa0 (by have := HWL.out.1; omega)).mono fun _ _ => trivial, HWL.out.2⟩; have HBA0 := Lib.hid (HBL0.out.trans (hba0.mono HBL0.out.size)); have m00 := below_c HBA0.out hkb k00; have m01 := below_c HBA0.out hkb k01; have m02 := below_c HBA0.out hkb k02; have m03 := below_c HBA0.out hkb k03; have m04 := below_c HBA0.out hkb k04; clear hba0 hoa0)
        | (go_at_call 144; refine (HLI0.out _ _ HBA0.out HIA0.out).mono ?_; rintro e wb0 ⟨rfl, hbb0⟩; have HBB0 := Lib.hid (HBA0.out.trans (hbb0.mono HBA0.out.size)); have n00 := below_c HBB0.out hkb k00; have n01 := below_c HBB0.out hkb k01; have n02 := below_c HBB0.out hkb k02; have n03 := below_c HBB0.out hkb k03; have n04 := below_c HBB0.out hkb k04; clear hbb0)
        | fail)
    clear l00 l01 l02 l03 l04 m00 m01 m02 m03 m04 n00 n01 n02 n03 n04
    have x4 := below_c HBB0.out hbxc y4
    have hF := HF.out
    rcases bool2 rb0 with rfl | rfl
    · have HF2 : Hid ((c.count == rn0) = T) := Lib.hid (by rw [← hF]; rfl)
      clear hF
      go_wp2_with fail
      go_ret
      exact ⟨by rw [← HF2.out]; rfl, HBW.out.trans (HBB0.out.mono HBW.out.size)⟩
    · have HF2 : T = false := by rw [← hF]; rfl
      subst HF2
      clear hF
      go_wp2_with fail
      go_ret
      exact ⟨rfl, HBW.out.trans (HBB0.out.mono HBW.out.size)⟩
  rw [if_neg r2] at hT2
  have t2 : (c.rule == 2) = false := by simp; exact r2
  by_cases r3 : c.rule = 3
  · have hrv := hru.out; exfalso; omega
  rw [if_neg r3] at hT2
  have t3 : (c.rule == 3) = false := by simp; exact r3
  by_cases r4 : c.rule = 4
  · have hrv := hru.out; exfalso; omega
  rw [if_neg r4] at hT2
  have t4 : (c.rule == 4) = false := by simp; exact r4
  by_cases r5 : c.rule = 5
  · have hrv := hru.out; exfalso; omega
  rw [if_neg r5] at hT2
  have t5 : (c.rule == 5) = false := by simp; exact r5
  by_cases r6 : c.rule = 6
  · have hrv := hru.out; exfalso; omega
  rw [if_neg r6] at hT2
  have hrv := hru.out; exfalso; omega

/- (Trace seat Z) Walk: follows of the statement's definitions. No condition but the sizes and the ranges. -/
open Go.ChangeShapes Go.WideShapes Go.ChangeAt Go.RowKit
set_option linter.unusedVariables false
set_option linter.unusedSimpArgs false

set_option maxRecDepth 100000 in
set_option maxHeartbeats 16000000 in
theorem lfol3_any (keep : Int) (r0 r1 r2 r3 r4 kv : Value) (c : Claim) (ks : List Claim) (w : World) (hc : ClaimV (fun _ => True) w (r0, r1, r2, r3, r4) c) (hks : Claims (fun _ => True) w kv ks)
    (hik : I64 keep) (hsc : SzC c) (hsk : ∀ k ∈ ks, SzC k) (hkl : ks.length ≤ 4000) (hru : Hid (c.rule = 3)) :
    Calls Tryz.prog 117 #[.int .i64 keep, .agg #[r0, r1, r2, r3, r4], kv] w (BoolPost w (folS keep c ks)) := by
  obtain ⟨R, hR⟩ : ∃ R, folS keep c ks = R := ⟨_, rfl⟩
  have hR2 := hR
  unfold folS at hR2
  rw [hR]
  obtain ⟨⟨hcl, h1, h2, hki, h4⟩, hir, hil, hic⟩ := id hc
  have h1 : r1 = _ := h1
  have h2 : r2 = _ := h2
  have h4 : r4 = _ := h4
  subst h1 h2 h4
  have hcl : Clss (fun _ => True) w r0 c.cls := hcl
  have hki : Ints (fun _ => True) w r3 c.kids := hki
  have hir : I64 c.rule := hir
  have hil : I64 c.lit := hil
  have hic : I64 c.count := hic
  obtain ⟨xa, xn, xc, rfl, HCN, hcn⟩ := hcl.form'
  obtain ⟨ka, kn, kc, rfl, _, _⟩ := hki.form'
  obtain ⟨qa, qn, qc, rfl, HQN, hqn⟩ := hks.form
  obtain ⟨T, hT⟩ : ∃ T, (if c.rule = 0 then (c.lit == 0) && (decide (ks.length = 0) && (decide (c.cls.length = 0) && (c.count == 1)))
    else if c.rule = 1 then (c.lit == 0) && (decide (ks.length = 0) && (decide (0 < c.cls.length) && (decide ((c.cls.getD 0 []).length = 0) && (c.count == 0))))
    else if c.rule = 2 then unitS keep c ks
    else if c.rule = 3 then decS keep c ks
    else if c.rule = 4 then splS c ks
    else if c.rule = 5 then tryS keep c ks
    else if c.rule = 6 then bothS c ks
    else false) = T := ⟨_, rfl⟩
  rw [hT] at hR2
  have HR0 : Hid ((if ((ks.drop 0).any fun k => decide (k.count < 0) || decide (1099511627776 < k.count)) = true then false else T) = R) := Lib.hid hR2
  have HG0 : Hid (∀ k ∈ ks.take 0, 0 ≤ k.count ∧ k.count ≤ 1099511627776) := Lib.hid (by simp)
  obtain ⟨W1, hW1⟩ : ∃ W, w.alloc (.cells #[.slice xa xn xc, .int .i64 c.rule, .int .i64 c.lit, .slice ka kn kc, .int .i64 c.count] 52) = W := ⟨_, rfl⟩
  obtain ⟨bx, hbx⟩ : ∃ b, w.heap.size = b := ⟨_, rfl⟩
  have hb1 : Below w.heap.size w W1 := by rw [← hW1]; exact (Below.refl _ _).alloc (Nat.le_refl _) _
  have hrow : W1.heap[bx]? = some (.cells #[.slice xa xn xc, .int .i64 c.rule, .int .i64 c.lit, .slice ka kn kc, .int .i64 c.count] 52) := by rw [← hW1]; exact new_at' _ _ hbx.symm
  have b0 : W1.cell? ⟨bx, 0, none⟩ = some (.slice xa xn xc) := by rw [cell_of_row _ _ _ _ _ _ hrow]; rfl
  have b1 : W1.cell? ⟨bx, 1, none⟩ = some (.int .i64 c.rule) := by rw [cell_of_row _ _ _ _ _ _ hrow]; rfl
  have b2 : W1.cell? ⟨bx, 2, none⟩ = some (.int .i64 c.lit) := by rw [cell_of_row _ _ _ _ _ _ hrow]; rfl
  have b4 : W1.cell? ⟨bx, 4, none⟩ = some (.int .i64 c.count) := by rw [cell_of_row _ _ _ _ _ _ hrow]; rfl
  have hs1 : W1.heap.size = bx + 1 := by rw [← hW1]; simp; omega
  have HT := Lib.hid hT
  have HB1 := Lib.hid hb1
  have HCL := Lib.hid (Clss.below hcl hb1)
  have HKS := Lib.hid (hks.below hb1)
  have HSC := Lib.hid hsc
  have HSK := Lib.hid hsk
  have HIK := Lib.hid hik
  have HIL := Lib.hid hil
  have HBX0 : Hid (Below W1.heap.size W1 W1) := Lib.hid (Below.refl _ _)
  have hq5 : qn ≤ 4000 := by rw [HQN.out]; exact hkl
  have hbx1 : bx < W1.heap.size := by omega
  clear hR hR2 hT hc hcl hks hki hrow hb1 hsc hsk hik hkl hil hir hic
  go_enter Tryz.func117, Tryz.ntmps117
  go_wp2_with fail
  try rw [hW1]
  clear hW1 hbx
  go_loopg [22] qn (fun gg u22 wx => ∃ (k : Nat), k + gg = qn ∧ u22 = .int .i64 k ∧ Hid (Below W1.heap.size W1 wx) ∧ Hid (∀ x ∈ ks.take k, 0 ≤ x.count ∧ x.count ≤ 1099511627776) ∧ Hid ((if ((ks.drop k).any fun k => decide (k.count < 0) || decide (1099511627776 < k.count)) = true then false else T) = R))
  case atStart => exact ⟨0, by omega, rfl, HBX0, HG0, HR0⟩
  case round =>
  clear HBX0 HG0 HR0
  obtain ⟨k, hkg, rfl, HB, HGD, HRK⟩ := hrel
  by_cases hk : k < qn
  · obtain ⟨kid, hkid, ek⟩ := drop_at (xs := ks) (k := k) (by have := HQN.out; omega)
    have hks2 := HKS.out
    obtain ⟨kb, ko, kcv, kkv, rfl, _, hkb, k0, k1, k2, k3, k4, ⟨⟨hkcl, _, _, hkki, _⟩, _⟩⟩ := hks2.at hkid
    obtain ⟨ya, yn, yc, rfl, _, _⟩ := hkcl.form'
    obtain ⟨kka, kkn, kkc, rfl, _, _⟩ := hkki.form'
    have y0 := below_c HB.out hkb k0
    have y1 := below_c HB.out hkb k1
    have y2 := below_c HB.out hkb k2
    have y3 := below_c HB.out hkb k3
    have y4 := below_c HB.out hkb k4
    have hdk : decide ((k : Int) < qn) = true := by simp; omega
    have hdk' : decide (k < qn) = true := decide_eq_true hk
    have hr := HRK.out
    rw [ek, List.any_cons] at hr
    have HTK : Hid (ks.take (k + 1) = ks.take k ++ [kid]) := Lib.hid (by rw [List.take_add_one, hkid]; rfl)
    have hbA := fun o => HB.out.alloc HB.out.size o
    have HBA := Lib.hid hbA
    clear hks2 hkid ek hkcl hkki k0 k1 k2 k3 k4 hbA HRK
    by_cases h1 : kid.count < 0
    · have d1 : decide (kid.count < 0) = true := decide_eq_true h1
      rw [d1, Bool.true_or, Bool.true_or, if_pos rfl] at hr
      subst hr
      go_wp2_with fail
      go_ret
      exact ⟨rfl, HB1.out.trans ((HBA.out _).mono HB1.out.size)⟩
    have d1 : decide (kid.count < 0) = false := decide_eq_false h1
    by_cases h2 : 1099511627776 < kid.count
    · have d2 : decide (1099511627776 < kid.count) = true := decide_eq_true h2
      rw [d1, d2, Bool.false_or, Bool.true_or, if_pos rfl] at hr
      subst hr
      go_wp2_with fail
      go_ret
      exact ⟨rfl, HB1.out.trans ((HBA.out _).mono HB1.out.size)⟩
    have d2 : decide (1099511627776 < kid.count) = false := decide_eq_false h2
    rw [d1, d2, Bool.false_or, Bool.false_or] at hr
    have HR := Lib.hid hr
    have HG2 : Hid (∀ x ∈ ks.take (k + 1), 0 ≤ x.count ∧ x.count ≤ 1099511627776) := Lib.hid (by
      rw [HTK.out]
      intro x hx
      rcases List.mem_append.1 hx with h | h
      · exact HGD.out x h
      · simp at h; subst h; omega)
    clear hr h1 h2
    go_wp2_with fail
    go_roundg (gk - 1)
    case measure => omega
    case rel => exact ⟨k + 1, by omega, by go_num, Lib.hid (HBA.out _), HG2, HR⟩
  obtain rfl : k = qn := by omega
  have hdk : decide ((k : Int) < k) = false := by simp
  have hdk' : decide (k < k) = false := decide_eq_false (by omega)
  have hTR : T = R := by
    have := HRK.out
    rw [List.drop_eq_nil_of_le (by rw [HQN.out]; exact Nat.le_refl _), List.any_nil, if_neg (by simp)] at this
    exact this
  subst hTR
  have hgd := HGD.out
  rw [List.take_of_length_le (by rw [HQN.out]; exact Nat.le_refl _)] at hgd
  have HGK := Lib.hid hgd
  have y0 := below_c HB.out hbx1 b0
  have y1 := below_c HB.out hbx1 b1
  have y2 := below_c HB.out hbx1 b2
  have y4 := below_c HB.out hbx1 b4
  have HKE := Lib.hid (lkept_any _ keep _ c.cls wr (Clss.below HCL.out HB.out) HIK.out HSC.out.1 HSC.out.2.1)
  have hsr := HB.out.size
  clear hgd HRK HGD b0 b1 b2 b4 hdk hdk'
  have hdk : decide ((k : Int) < k) = false := by simp
  have hdk' : decide (k < k) = false := decide_eq_false (by omega)
  go_wp2_with fail
  refine HKE.out.mono ?_
  rintro e w3 ⟨v3, rfl, hb3, ho3⟩
  obtain ⟨pa, pc, rfl⟩ := own_form ho3
  have hb31 : Below W1.heap.size W1 w3 := HB.out.trans (hb3.mono hsr)
  have hps : (keptM keep (occM c.cls)).length ≤ 20000 := Nat.le_trans (List.length_filter_le _ _) (occ_len_le (cs := []) (occM_strict _) fun x hx => occM_range hx)
  have hvs : Ints (fun _ => True) w3 (.slice pa (keptM keep (occM c.cls)).length pc) (keptM keep (occM c.cls)) := ⟨(ownsRow_sl1 ho3 (by omega)).mono fun _ _ => trivial, fun y hy => by have := occM_range (kept_mem.1 hy).1; unfold I64; omega⟩
  obtain ⟨pn, hpn⟩ : ∃ n, (keptM keep (occM c.cls)).length = n := ⟨_, rfl⟩
  have HPN := Lib.hid hpn
  rw [hpn] at hvs hps ⊢
  have HVS := Lib.hid hvs
  have HB3 := Lib.hid hb31
  have z0 := below_c hb3 (by omega) y0
  have z1 := below_c hb3 (by omega) y1
  have z2 := below_c hb3 (by omega) y2
  have z4 := below_c hb3 (by omega) y4
  have hs3 := hb3.size
  have HSI := Lib.hid (size_any c.lit w3 HIL.out)
  clear ho3 hb3 hb31 hvs hpn HKE HB y0 y1 y2 y4
  go_wp2_with fail
  refine HSI.out.mono ?_
  rintro e w4 ⟨rfl, hw4⟩
  subst hw4
  obtain ⟨V, hV⟩ : ∃ V, sizeM c.lit = V := ⟨_, rfl⟩
  have HV := Lib.hid hV
  have hvr := size_range c.lit
  rw [hV] at hvr ⊢
  obtain ⟨OB, hOB⟩ : ∃ OB, occB c = OB := ⟨_, rfl⟩
  have HOB := Lib.hid hOB
  have HCL3 := Lib.hid (Clss.below HCL.out HB3.out)
  clear hV hOB HSI
  go_upto_region 9 with fail
  go_cut [11] (fun u11 wx => u11 = .bool OB ∧ Hid (Below w4.heap.size w4 wx))
  case first =>
    by_cases hv0 : 0 < V
    case neg =>
      have e0 : decide (0 < V) = false := decide_eq_false hv0
      have hob : OB = false := by rw [← HOB.out]; unfold occB; rw [HV.out, e0]; rfl
      subst hob
      go_wp2_with fail
      go_meet
      exact ⟨rfl, Lib.hid (Below.refl _ _)⟩
    have e0 : decide (0 < V) = true := decide_eq_true hv0
    have HOC := Lib.hid (loccur_any _ _ c.cls w4 HCL3.out HSC.out.1 HSC.out.2.1)
    go_wp2_with fail
    refine HOC.out.mono ?_
    rintro e w5 ⟨ov, os, rfl, hos, hb5, hst, hmem⟩
    obtain rfl := occ_eq hst hmem
    have HCT := Lib.hid (contains_any _ _ (occM c.cls) V w5 hos ⟨by omega, by omega⟩)
    have hct : (occM c.cls).contains V = OB := by rw [← HOB.out]; unfold occB; rw [HV.out, e0, Bool.true_and]
    rw [hct] at HCT
    obtain ⟨oa, on, oc, rfl, _, _⟩ := hos.form'
    have HB5 := Lib.hid hb5
    clear hos hb5 hst hmem HOC hct
    go_wp2_with fail
    refine HCT.out.mono ?_
    rintro e w6 ⟨rfl, hw6⟩
    subst hw6
    go_wp2_with fail
    go_meet
    exact ⟨rfl, HB5⟩
  case rest =>
  obtain ⟨rfl, HBC⟩ := hcut
  have hsc3 := HBC.out.size
  have HB4 := Lib.hid (HB3.out.trans (HBC.out.mono HB3.out.size))
  have HBW : Hid (Below w.heap.size w wc) := Lib.hid (HB1.out.trans (HB4.out.mono HB1.out.size))
  have y0 := below_c HBC.out (by omega) z0
  have y1 := below_c HBC.out (by omega) z1
  have y2 := below_c HBC.out (by omega) z2
  have y4 := below_c HBC.out (by omega) z4
  have HVS4 := Lib.hid (HVS.out.below HBC.out)
  have HKS4 := Lib.hid (HKS.out.below HB4.out)
  have HCL4 := Lib.hid (Clss.below HCL3.out HBC.out)
  have hbxc : bx < wc.heap.size := by omega
  have HVL : Hid (V = sizeM c.lit) := Lib.hid HV.out.symm
  obtain ⟨P, hP⟩ : ∃ P, keptM keep (occM c.cls) = P := ⟨_, rfl⟩
  have HP := Lib.hid hP
  have HOV : Hid (withoutM P V = wovS keep c) := Lib.hid (by rw [← hP, HVL.out]; rfl)
  rw [hP] at HPN HVS4
  clear z0 z1 z2 z4 HVS HCL3 HCL HKS HBC HB3 HB4 hsc3 hs3 hsr hP HB1 HPN
  have hT2 := HT.out
  clear hbx1 hs1
  by_cases r0 : c.rule = 0
  · have hrv := hru.out; exfalso; omega
  rw [if_neg r0] at hT2
  have t0 : (c.rule == 0) = false := by simp; exact r0
  by_cases r1 : c.rule = 1
  · have hrv := hru.out; exfalso; omega
  rw [if_neg r1] at hT2
  have t1 : (c.rule == 1) = false := by simp; exact r1
  -- the contracts that several rules use
  have HWO : Hid (∀ W, Below wc.heap.size wc W → Calls Tryz.prog 145 #[.slice pa pn pc, .int .i64 V] W (KeptPost W (wovS keep c))) := Lib.hid fun W hW => by
    rw [← HOV.out]; exact without_any _ _ P V W (HVS4.out.below hW) ⟨by omega, by omega⟩ (by have := HVS4.out.len.1; omega)
  have hwl : (wovS keep c).length ≤ 20000 := by
    rw [← HOV.out]
    have h1 := withoutM_len P V
    have h2 : pn = P.length := HVS4.out.len.1
    omega
  have hwi : ∀ y ∈ wovS keep c, I64 y := fun y hy => by
    rw [← HOV.out] at hy
    exact HVS4.out.2 y (List.mem_filter.1 hy).1
  have HWL := Lib.hid (And.intro hwl hwi)
  clear hwl hwi
  by_cases r2 : c.rule = 2
  · have hrv := hru.out; exfalso; omega
  rw [if_neg r2] at hT2
  have t2 : (c.rule == 2) = false := by simp; exact r2
  by_cases r3 : c.rule = 3
  · rw [if_pos r3] at hT2
    have t3 : (c.rule == 3) = true := by simp; exact r3
    unfold decS at hT2
    rw [← HVL.out, HOB.out] at hT2
    clear r0 r1 r2 r3
    by_cases l0 : c.lit < 1
    · rw [if_pos (.inl l0)] at hT2
      subst hT2
      have d0 : decide (c.lit < 1) = true := decide_eq_true l0
      clear l0
      go_wp2_with fail
      go_ret
      exact ⟨rfl, HBW.out⟩
    have d0 : decide (c.lit < 1) = false := decide_eq_false l0
    by_cases l1 : keep < c.lit
    · rw [if_pos (.inr (.inl l1))] at hT2
      subst hT2
      have d1 : decide (keep < c.lit) = true := decide_eq_true l1
      clear l0 l1
      go_wp2_with fail
      go_ret
      exact ⟨rfl, HBW.out⟩
    have d1 : decide (keep < c.lit) = false := decide_eq_false l1
    rcases bool2 OB with rfl | rfl
    case inr =>
      rw [if_pos (.inr (.inr (.inl rfl)))] at hT2
      subst hT2
      clear l0 l1
      go_wp2_with fail
      go_ret
      exact ⟨rfl, HBW.out⟩
    have hrs := residuals_any _ _ _ c.cls V ks wc HCL4.out HKS4.out ⟨by omega, by omega⟩ HSC.out.1 HSC.out.2.1
    obtain ⟨Q, hQ⟩ : ∃ Q, residualsM c.cls V ks = Q := ⟨_, rfl⟩
    rw [hQ] at hrs hT2
    have HRS := Lib.hid hrs
    have HQ := Lib.hid hQ
    clear hrs hQ
    rcases bool2 Q with rfl | rfl
    case inr =>
      rw [if_pos (.inr (.inr (.inr rfl)))] at hT2
      subst hT2
      clear l0 l1
      go_wp2_with fail
      refine HRS.out.mono ?_
      rintro e w5 ⟨rfl, hb5⟩
      have HB5 := Lib.hid hb5
      clear hb5
      go_wp2_with fail
      go_ret
      exact ⟨rfl, HBW.out.trans (HB5.out.mono HBW.out.size)⟩
    rw [if_neg (by rintro (h | h | h | h); exact l0 h; exact l1 h; cases h; cases h)] at hT2
    have hk2 : k = 2 := by
      have h := HQ.out
      unfold residualsM at h
      rw [Bool.and_eq_true] at h
      have := of_decide_eq_true h.1
      rw [HQN.out]
      exact this
    obtain ⟨kid0, hkid0⟩ : ∃ kk, ks[0]? = some kk := ⟨_, List.getElem?_eq_getElem (by rw [← HQN.out]; omega)⟩
    have hkg0 : ks.getD 0 clNil = kid0 := by rw [List.getD_eq_getElem?_getD, hkid0]; rfl
    have hkr0 := HGK.out kid0 (List.mem_of_getElem? hkid0)
    have hkz0 := HSK.out kid0 (List.mem_of_getElem? hkid0)
    have hks0 := HKS4.out
    obtain ⟨kb, ko, kcv0, kkv0, rfl, _, hkb, k00, k01, k02, k03, k04, hkv0⟩ := hks0.at hkid0
    obtain ⟨ya0, yn0, yc0, rfl, _, _⟩ := hkv0.1.1.form'
    obtain ⟨za0, zn0, zc0, rfl, _, _⟩ := hkv0.1.2.2.2.1.form'
    rw [show ko + 0 * 5 = ko by omega] at k00 k01 k02 k03 k04
    obtain ⟨kid1, hkid1⟩ : ∃ kk, ks[1]? = some kk := ⟨_, List.getElem?_eq_getElem (by rw [← HQN.out]; omega)⟩
    have hkg1 : ks.getD 1 clNil = kid1 := by rw [List.getD_eq_getElem?_getD, hkid1]; rfl
    have hkr1 := HGK.out kid1 (List.mem_of_getElem? hkid1)
    have hkz1 := HSK.out kid1 (List.mem_of_getElem? hkid1)
    have hks1 := HKS4.out
    obtain ⟨kb1, ko1, kcv1, kkv1, hke, _, _, k10, k11, k12, k13, k14, hkv1⟩ := hks1.at hkid1
    injection hke with hke
    injection hke with hke1 hke2
    subst hke1 hke2
    obtain ⟨ya1, yn1, yc1, rfl, _, _⟩ := hkv1.1.1.form'
    obtain ⟨za1, zn1, zc1, rfl, _, _⟩ := hkv1.1.2.2.2.1.form'
    rw [show ko + 1 * 5 = ko + 5 by omega] at k10 k11 k12 k13 k14
    rw [hkg0, hkg1] at hT2
    have HT2 := Lib.hid hT2
    obtain ⟨⟨rn0, rb0⟩, hrr0⟩ : ∃ r, liftS keep (wovS keep c) kid0 = r := ⟨_, rfl⟩
    have HLI0 : Hid (∀ W v, Below wc.heap.size wc W → Ints (fun _ => True) W v (wovS keep c) → Calls Tryz.prog 144 #[v, .int .i64 keep, .agg #[.slice ya0 yn0 yc0, .int .i64 kid0.rule, .int .i64 kid0.lit, .slice za0 zn0 zc0, .int .i64 kid0.count]] W (fun e w' => e = .returned (.tuple #[.int .i64 rn0, .bool rb0]) ∧ Below W.heap.size W w')) := Lib.hid fun W v hW hv => by
      have := lifted_any _ keep v (wovS keep c) _ _ _ _ _ kid0 W hv (hkv0.below hW) HIK.out (by have := HWL.out.1; omega) hkz0 hkr0
      rw [hrr0] at this
      exact this
    obtain ⟨⟨rn1, rb1⟩, hrr1⟩ : ∃ r, liftS keep (wovS keep c) kid1 = r := ⟨_, rfl⟩
    have HLI1 : Hid (∀ W v, Below wc.heap.size wc W → Ints (fun _ => True) W v (wovS keep c) → Calls Tryz.prog 144 #[v, .int .i64 keep, .agg #[.slice ya1 yn1 yc1, .int .i64 kid1.rule, .int .i64 kid1.lit, .slice za1 zn1 zc1, .int .i64 kid1.count]] W (fun e w' => e = .returned (.tuple #[.int .i64 rn1, .bool rb1]) ∧ Below W.heap.size W w')) := Lib.hid fun W v hW hv => by
      have := lifted_any _ keep v (wovS keep c) _ _ _ _ _ kid1 W hv (hkv1.below hW) HIK.out (by have := HWL.out.1; omega) hkz1 hkr1
      rw [hrr1] at this
      exact this
    have HR0' := Lib.hid hrr0
    have HR1' := Lib.hid hrr1
    have hlc0 := lift_cases keep c kid0 hkr0.1 hkr0.2
    have hlc1 := lift_cases keep c kid1 hkr1.1 hkr1.2
    rw [hrr0] at hlc0
    rw [hrr1] at hlc1
    have hF := HT2.out
    rw [hrr0, hrr1] at hF
    have HF := Lib.hid hF
    have HLC0 := Lib.hid hlc0
    have HLC1 := Lib.hid hlc1
    have hk1 : (0 : Int) < k := by omega
    have hk1' : 0 < k := by omega
    have hk3 : (1 : Int) < k := by omega
    have hk3' : 1 < k := by omega
    clear hT2 hkg0 hkr0 hkz0 hks0 hkid0 hrr0 hkv0 hkg1 hkr1 hkz1 hks1 hkid1 hrr1 hkv1 hF hlc0 hlc1 HT2 l0 l1 hk2
    go_wp2_with fail
    refine HRS.out.mono ?_
    rintro e w5 ⟨rfl, hb5⟩
    have HB5 := Lib.hid hb5
    clear hb5
    go_wp2_with fail
    have HBL0 : Hid (Below wc.heap.size wc w5.drew) := Lib.hid (HB5.out.trans ((show Below w5.heap.size w5 w5.drew from (Below.refl _ _).drew).mono HB5.out.size))
    have l00 := below_c HB5.out hkb k00
    have l01 := below_c HB5.out hkb k01
    have l02 := below_c HB5.out hkb k02
    have l03 := below_c HB5.out hkb k03
    have l04 := below_c HB5.out hkb k04
    go_wp2_with fail
    go_region_held3 (fun w' => w'.cell? ⟨kb, ko, none⟩ = some (.slice ya0 yn0 yc0) ∧ w'.cell? ⟨kb, ko + 1, none⟩ = some (.int .i64 kid0.rule) ∧ w'.cell? ⟨kb, ko + 2, none⟩ = some (.int .i64 kid0.lit) ∧ w'.cell? ⟨kb, ko + 3, none⟩ = some (.slice za0 zn0 zc0) ∧ w'.cell? ⟨kb, ko + 4, none⟩ = some (.int .i64 kid0.count))
      (first | exact ⟨l00, l01, l02, l03, l04⟩ | exact ⟨m00, m01, m02, m03, m04⟩ | exact ⟨n00, n01, n02, n03, n04⟩ | go_keep)
      (first
        | (go_at_call 145; refine (HWO.out _ HBL0.out).mono ?_; rintro e wa0 ⟨va0, rfl, hba0, hoa0⟩; obtain ⟨oa0, oc0, rfl⟩ := own_form hoa0; have HIA0 : Hid (Ints (fun _ => True) wa0 (.slice oa0 (wovS keep c).length oc0) (wovS keep c)) := Lib.hid ⟨(ownsRow_sl1 hoa0 (by have := HWL.out.1; omega)).mono fun _ _ => trivial, HWL.out.2⟩; have HBA0 := Lib.hid (HBL0.out.trans (hba0.mono HBL0.out.size)); have m00 := below_c HBA0.out hkb k00; have m01 := below_c HBA0.out hkb k01; have m02 := below_c HBA0.out hkb k02; have m03 := below_c HBA0.out hkb k03; have m04 := below_c HBA0.out hkb k04; clear hba0 hoa0)
        | (go_at_call 144; refine (HLI0.out _ _ HBA0.out HIA0.out).mono ?_; rintro e wb0 ⟨rfl, hbb0⟩; have HBB0 := Lib.hid (HBA0.out.trans (hbb0.mono HBA0.out.size)); have n00 := below_c HBB0.out hkb k00; have n01 := below_c HBB0.out hkb k01; have n02 := below_c HBB0.out hkb k02; have n03 := below_c HBB0.out hkb k03; have n04 := below_c HBB0.out hkb k04; clear hbb0)
        | fail)
    clear l00 l01 l02 l03 l04 m00 m01 m02 m03 m04 n00 n01 n02 n03 n04
    have HBL1 : Hid (Below wc.heap.size wc wb0.drew) := Lib.hid (HBB0.out.trans ((show Below wb0.heap.size wb0 wb0.drew from (Below.refl _ _).drew).mono HBB0.out.size))
    have l10 := below_c HBB0.out hkb k10
    have l11 := below_c HBB0.out hkb k11
    have l12 := below_c HBB0.out hkb k12
    have l13 := below_c HBB0.out hkb k13
    have l14 := below_c HBB0.out hkb k14
    go_wp2_with fail
    go_region_held3 (fun w' => w'.cell? ⟨kb, ko + 5, none⟩ = some (.slice ya1 yn1 yc1) ∧ w'.cell? ⟨kb, ko + 5 + 1, none⟩ = some (.int .i64 kid1.rule) ∧ w'.cell? ⟨kb, ko + 5 + 2, none⟩ = some (.int .i64 kid1.lit) ∧ w'.cell? ⟨kb, ko + 5 + 3, none⟩ = some (.slice za1 zn1 zc1) ∧ w'.cell? ⟨kb, ko + 5 + 4, none⟩ = some (.int .i64 kid1.count))
      (first | exact ⟨l10, l11, l12, l13, l14⟩ | exact ⟨m10, m11, m12, m13, m14⟩ | exact ⟨n10, n11, n12, n13, n14⟩ | go_keep)
      (first
        | (go_at_call 145; refine (HWO.out _ HBL1.out).mono ?_; rintro e wa1 ⟨va1, rfl, hba1, hoa1⟩; obtain ⟨oa1, oc1, rfl⟩ := own_form hoa1; have HIA1 : Hid (Ints (fun _ => True) wa1 (.slice oa1 (wovS keep c).length oc1) (wovS keep c)) := Lib.hid ⟨(ownsRow_sl1 hoa1 (by have := HWL.out.1; omega)).mono fun _ _ => trivial, HWL.out.2⟩; have HBA1 := Lib.hid (HBL1.out.trans (hba1.mono HBL1.out.size)); have m10 := below_c HBA1.out hkb k10; have m11 := below_c HBA1.out hkb k11; have m12 := below_c HBA1.out hkb k12; have m13 := below_c HBA1.out hkb k13; have m14 := below_c HBA1.out hkb k14; clear hba1 hoa1)
        | (go_at_call 144; refine (HLI1.out _ _ HBA1.out HIA1.out).mono ?_; rintro e wb1 ⟨rfl, hbb1⟩; have HBB1 := Lib.hid (HBA1.out.trans (hbb1.mono HBA1.out.size)); have n10 := below_c HBB1.out hkb k10; have n11 := below_c HBB1.out hkb k11; have n12 := below_c HBB1.out hkb k12; have n13 := below_c HBB1.out hkb k13; have n14 := below_c HBB1.out hkb k14; clear hbb1)
        | fail)
    clear l10 l11 l12 l13 l14 m10 m11 m12 m13 m14 n10 n11 n12 n13 n14
    have x4 := below_c HBB1.out hbxc y4
    have hF := HF.out
    rcases bool2 rb0 with rfl | rfl
    case inr =>
      have HF2 : T = false := by rw [← hF]; rfl
      subst HF2
      clear hF
      go_wp2_with fail
      go_ret
      exact ⟨rfl, HBW.out.trans (HBB1.out.mono HBW.out.size)⟩
    rcases bool2 rb1 with rfl | rfl
    case inr =>
      have HF2 : T = false := by rw [← hF]; rfl
      subst HF2
      clear hF
      go_wp2_with fail
      go_ret
      exact ⟨rfl, HBW.out.trans (HBB1.out.mono HBW.out.size)⟩
    have hs0 : 0 ≤ rn0 ∧ rn0 ≤ 1099511627776 := by
      rcases HLC0.out with ⟨_, _, h1, h2⟩ | ⟨h, _⟩
      · exact ⟨h1, h2⟩
      · cases h
    have hs1 : 0 ≤ rn1 ∧ rn1 ≤ 1099511627776 := by
      rcases HLC1.out with ⟨_, _, h1, h2⟩ | ⟨h, _⟩
      · exact ⟨h1, h2⟩
      · cases h
    have hw : IntKind.i64.wrap (rn0 + rn1) = rn0 + rn1 := IntWalk.i64_in _ ⟨by omega, by omega⟩
    have HF2 : Hid ((c.count == rn0 + rn1) = T) := Lib.hid (by rw [← hF]; rfl)
    clear hF hs0 hs1
    go_wp2_with fail
    go_ret
    exact ⟨by rw [← HF2.out]; rfl, HBW.out.trans (HBB1.out.mono HBW.out.size)⟩
  rw [if_neg r3] at hT2
  have t3 : (c.rule == 3) = false := by simp; exact r3
  by_cases r4 : c.rule = 4
  · have hrv := hru.out; exfalso; omega
  rw [if_neg r4] at hT2
  have t4 : (c.rule == 4) = false := by simp; exact r4
  by_cases r5 : c.rule = 5
  · have hrv := hru.out; exfalso; omega
  rw [if_neg r5] at hT2
  have t5 : (c.rule == 5) = false := by simp; exact r5
  by_cases r6 : c.rule = 6
  · have hrv := hru.out; exfalso; omega
  rw [if_neg r6] at hT2
  have hrv := hru.out; exfalso; omega
end Go.Proofs.YthanfjpmcckbhaaGreatDoor
