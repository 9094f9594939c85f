/- (Trace seat) Walk: follows of the checker. No condition but the sizes and ranges. -/
import Derived.Test.YtihkknploioakaaVh
namespace Go.Proofs.Ytihkknploioakaa
open Go.ChangeShapes Go.WideShapes Go.ChangeAt Go.RowKit
set_option linter.unusedVariables false

set_option maxRecDepth 100000 in
set_option maxHeartbeats 8000000 in
theorem follows_any (b : Nat) (keep : Int) (cv kv qv vv : Value) (c : Claim) (ks : List Claim) (vs : List Int) (w : World) (hc : Ckr w b keep cv kv qv vv c ks vs) (hir : I64 c.rule)
    (hsc : SzC c) (hsk : ∀ k ∈ ks, SzC k) (hrv : ∀ v ∈ vs, 1 ≤ v ∧ v ≤ 20000) (hvl : vs.length ≤ 100000) (hkl : ks.length ≤ 100000) :
    Calls Try.prog 16 #[.pointer (some ⟨b, 0, none⟩)] w (BoolPost w (folM keep c ks vs)) := by
  have hlt := hc.lt
  obtain ⟨⟨c0, c1, c2, c3, _, c5, c6, c7⟩, hcl, hks, hvs, hil, hic, hik⟩ := id hc
  obtain ⟨R, hR⟩ : ∃ R, folM keep c ks vs = R := ⟨_, rfl⟩
  have hR2 := hR
  unfold folM at hR2
  rw [hR]
  obtain ⟨ca, cn, cc, rfl, HCN, hcn⟩ := hcl.form'
  obtain ⟨qa, qn, qc, rfl, HQN, hqn⟩ := hks.form
  obtain ⟨T, hT⟩ : ∃ T, (if c.rule = 0 then (c.lit == 0) && (decide (ks.length = 0) && (decide (c.cls.length = 0) && (c.count == 1)))
    else if c.rule = 1 then (c.lit == 0) && (decide (ks.length = 0) && ((c.cls.any fun x => decide (x.length = 0)) && (c.count == 0)))
    else if c.rule = 2 then unitM keep c ks vs
    else if c.rule = 3 then decM keep c ks vs
    else if c.rule = 4 then splitM c ks
    else if c.rule = 5 then tryM keep c ks vs
    else if c.rule = 6 then bothM c ks vs
    else false) = T := ⟨_, rfl⟩
  rw [hT] at hR2
  have HR0 : Hid ((if ((ks.drop 0).any fun k => decide (k.count < 0) || decide (1099511627776 < k.count)) = true then false else T) = R) := Lib.hid hR2
  have HG0 : Hid (∀ k ∈ ks.take 0, 0 ≤ k.count ∧ k.count ≤ 1099511627776) := Lib.hid (by simp)
  have HT := Lib.hid hT
  have HC := Lib.hid hc
  have HSC := Lib.hid hsc
  have HSK := Lib.hid hsk
  have HRV := Lib.hid hrv
  have HKS := Lib.hid hks
  have HCL := Lib.hid hcl
  have HKL := Lib.hid hkl
  have HB0 : Hid (Below w.heap.size w w) := Lib.hid (Below.refl _ _)
  have hq5 : qn ≤ 100000 := by rw [HQN.out]; exact hkl
  clear hR hR2 hT hc hsc hsk hrv hks hcl hvs hkl
  go_enter Try.func16, Try.ntmps16
  go_wp2_with fail
  go_loopg [11] qn (fun gg u11 wx => ∃ (k : Nat), k + gg = qn ∧ u11 = .int .i64 k ∧ Hid (Below w.heap.size w wx) ∧ Hid (∀ x ∈ ks.take k, 0 ≤ x.count ∧ x.count ≤ 1099511627776) ∧ Hid ((if ((ks.drop k).any fun k => decide (k.count < 0) || decide (1099511627776 < k.count)) = true then false else T) = R))
  case atStart => exact ⟨0, by omega, rfl, HB0, HG0, HR0⟩
  case round =>
  clear HB0 HG0 HR0
  obtain ⟨k, hkg, rfl, HB, HGD, HRK⟩ := hrel
  by_cases hk : k < qn
  · obtain ⟨kid, hkid, ek⟩ := drop_at (xs := ks) (k := k) (by have := HQN.out; omega)
    have hks2 := HKS.out
    obtain ⟨kb, ko, kcv, kkv, rfl, _, hkb, k0, k1, k2, k3, k4, ⟨⟨hkcl, _, _, hkki, _⟩, _⟩⟩ := hks2.at hkid
    obtain ⟨ka, kn, kc, rfl, _, _⟩ := hkcl.form'
    obtain ⟨kka, kkn, kkc, rfl, _, _⟩ := hkki.form'
    have y0 := below_c HB.out hkb k0
    have y1 := below_c HB.out hkb k1
    have y2 := below_c HB.out hkb k2
    have y3 := below_c HB.out hkb k3
    have y4 := below_c HB.out hkb k4
    have hdk : decide ((k : Int) < qn) = true := by simp; omega
    have hdk' : decide (k < qn) = true := decide_eq_true hk
    have hr := HRK.out
    rw [ek, List.any_cons] at hr
    have HTK : Hid (ks.take (k + 1) = ks.take k ++ [kid]) := Lib.hid (by rw [List.take_add_one, hkid]; rfl)
    have hbA := fun o => HB.out.alloc HB.out.size o
    have HBA := Lib.hid hbA
    clear hks2 hkid ek hkcl hkki k0 k1 k2 k3 k4 hbA HRK
    by_cases h1 : kid.count < 0
    · have d1 : decide (kid.count < 0) = true := decide_eq_true h1
      rw [d1, Bool.true_or, Bool.true_or, if_pos rfl] at hr
      subst hr
      go_wp2_with fail
      go_ret
      exact ⟨rfl, HBA.out _⟩
    have d1 : decide (kid.count < 0) = false := decide_eq_false h1
    by_cases h2 : 1099511627776 < kid.count
    · have d2 : decide (1099511627776 < kid.count) = true := decide_eq_true h2
      rw [d1, d2, Bool.false_or, Bool.true_or, if_pos rfl] at hr
      subst hr
      go_wp2_with fail
      go_ret
      exact ⟨rfl, HBA.out _⟩
    have d2 : decide (1099511627776 < kid.count) = false := decide_eq_false h2
    rw [d1, d2, Bool.false_or, Bool.false_or] at hr
    have HR := Lib.hid hr
    have HG2 : Hid (∀ x ∈ ks.take (k + 1), 0 ≤ x.count ∧ x.count ≤ 1099511627776) := Lib.hid (by
      rw [HTK.out]
      intro x hx
      rcases List.mem_append.1 hx with h | h
      · exact HGD.out x h
      · simp at h; subst h; omega)
    clear hr h1 h2
    go_wp2_with fail
    go_roundg (gk - 1)
    case measure => omega
    case rel => exact ⟨k + 1, by omega, by go_num, Lib.hid (HBA.out _), HG2, HR⟩
  obtain rfl : k = qn := by omega
  have hdk : decide ((k : Int) < k) = false := by simp
  have hdk' : decide (k < k) = false := decide_eq_false (by omega)
  have hTR : T = R := by
    have := HRK.out
    rw [List.drop_eq_nil_of_le (by rw [HQN.out]; exact Nat.le_refl _), List.any_nil, if_neg (by simp)] at this
    exact this
  subst hTR
  have hgd := HGD.out
  rw [List.take_of_length_le (by rw [HQN.out]; exact Nat.le_refl _)] at hgd
  have hrok : RuleOk c ks vs := ⟨HSC.out, fun x hx => ⟨HSK.out x hx, hgd x hx⟩, HRV.out, hvl, HKL.out⟩
  have hblt : b < wr.heap.size := Nat.lt_of_lt_of_le hlt HB.out.size
  have HROK := Lib.hid hrok
  have HCK := Lib.hid (HC.out.below HB.out)
  have s1 := below_c HB.out hlt c1
  have s2 := below_c HB.out hlt c2
  have s3 := below_c HB.out hlt c3
  have s5 := below_c HB.out hlt c5
  have s6 := below_c HB.out hlt c6
  have hT2 := HT.out
  have HCLr := Lib.hid (HCL.out.below HB.out)
  clear hgd hrok HRK HGD c0 c1 c2 c3 c5 c6 c7 HC
  by_cases r0 : c.rule = 0
  · rw [if_pos r0] at hT2
    have t0 : (c.rule == 0) = true := by simp; exact r0
    by_cases l0 : c.lit = 0
    case neg =>
      have tl : (c.lit == 0) = false := by simp; exact l0
      rw [tl, Bool.false_and] at hT2
      subst hT2
      clear r0 l0
      go_wp2_with fail
      go_ret
      exact ⟨rfl, HB.out⟩
    have tl : (c.lit == 0) = true := by simp; exact l0
    by_cases l1 : k = 0
    case neg =>
      have tk : decide (ks.length = 0) = false := decide_eq_false (by rw [← HQN.out]; exact l1)
      have tq : ((k : Int) == 0) = false := by simp; exact l1
      rw [tl, tk, Bool.true_and, Bool.false_and] at hT2
      subst hT2
      clear r0 l0 l1
      go_wp2_with fail
      go_ret
      exact ⟨rfl, HB.out⟩
    have tk : decide (ks.length = 0) = true := decide_eq_true (by rw [← HQN.out]; exact l1)
    have tq : ((k : Int) == 0) = true := by simp; exact l1
    by_cases l2 : cn = 0
    case neg =>
      have tc : decide (c.cls.length = 0) = false := decide_eq_false (by rw [← HCN.out]; exact l2)
      have tn : ((cn : Int) == 0) = false := by simp; exact l2
      rw [tl, tk, tc, Bool.true_and, Bool.true_and, Bool.false_and] at hT2
      subst hT2
      clear r0 l0 l1 l2
      go_wp2_with fail
      go_ret
      exact ⟨rfl, HB.out⟩
    have tc : decide (c.cls.length = 0) = true := decide_eq_true (by rw [← HCN.out]; exact l2)
    have tn : ((cn : Int) == 0) = true := by simp; exact l2
    rw [tl, tk, tc, Bool.true_and, Bool.true_and, Bool.true_and] at hT2
    have HF := Lib.hid hT2
    clear r0 l0 l1 l2 hT2
    go_wp2_with fail
    go_ret
    exact ⟨by rw [← HF.out]; rfl, HB.out⟩
  rw [if_neg r0] at hT2
  have t0 : (c.rule == 0) = false := by simp; exact r0
  by_cases r1 : c.rule = 1
  · rw [if_pos r1] at hT2
    have t1 : (c.rule == 1) = true := by simp; exact r1
    have hcf := containsfE_any _ (fun x => decide (x.length = 0)) _ c.cls wr HCLr.out (fun nq u y _ hy => fol1_any _ u y _ hy)
    obtain ⟨E, hE⟩ : ∃ E, (c.cls.any fun x => decide (x.length = 0)) = E := ⟨_, rfl⟩
    rw [hE] at hcf hT2
    have HCF := Lib.hid hcf
    clear hcf hE
    have finish : True := trivial
    by_cases l0 : c.lit = 0
    case neg =>
      have tl : (c.lit == 0) = false := by simp; exact l0
      rw [tl, Bool.false_and] at hT2
      subst hT2
      clear r0 l0 r1
      go_wp2_with fail
      refine HCF.out.mono ?_
      rintro e w3 ⟨rfl, nd, rfl⟩
      have HB3 := Lib.hid (below_drewN HB.out nd)
      go_wp2_with fail
      go_ret
      exact ⟨rfl, HB3.out⟩
    have tl : (c.lit == 0) = true := by simp; exact l0
    by_cases l1 : k = 0
    case neg =>
      have tk : decide (ks.length = 0) = false := decide_eq_false (by rw [← HQN.out]; exact l1)
      have tq : ((k : Int) == 0) = false := by simp; exact l1
      rw [tl, tk, Bool.true_and, Bool.false_and] at hT2
      subst hT2
      clear r0 l0 l1 r1
      go_wp2_with fail
      refine HCF.out.mono ?_
      rintro e w3 ⟨rfl, nd, rfl⟩
      have HB3 := Lib.hid (below_drewN HB.out nd)
      go_wp2_with fail
      go_ret
      exact ⟨rfl, HB3.out⟩
    have tk : decide (ks.length = 0) = true := decide_eq_true (by rw [← HQN.out]; exact l1)
    have tq : ((k : Int) == 0) = true := by simp; exact l1
    rw [tl, tk, Bool.true_and, Bool.true_and] at hT2
    rcases bool2 E with rfl | rfl
    case inr =>
      rw [Bool.false_and] at hT2
      subst hT2
      clear r0 l0 l1 r1
      go_wp2_with fail
      refine HCF.out.mono ?_
      rintro e w3 ⟨rfl, nd, rfl⟩
      have HB3 := Lib.hid (below_drewN HB.out nd)
      go_wp2_with fail
      go_ret
      exact ⟨rfl, HB3.out⟩
    rw [Bool.true_and] at hT2
    have HF := Lib.hid hT2
    clear r0 l0 l1 r1 hT2
    go_wp2_with fail
    refine HCF.out.mono ?_
    rintro e w3 ⟨rfl, nd, rfl⟩
    have HB3 := Lib.hid (below_drewN HB.out nd)
    go_wp2_with fail
    go_ret
    exact ⟨by rw [← HF.out]; rfl, HB3.out⟩
  rw [if_neg r1] at hT2
  have t1 : (c.rule == 1) = false := by simp; exact r1
  by_cases r2 : c.rule = 2
  · rw [if_pos r2] at hT2
    have t2 : (c.rule == 2) = true := by simp; exact r2
    have hcall := unit_any b keep _ _ _ _ c ks vs wr HCK.out HROK.out
    rw [hT2] at hcall
    have HCALL := Lib.hid hcall
    clear hcall hT2 r0 r1 r2
    go_wp2_with fail
    refine HCALL.out.mono ?_
    rintro e w3 ⟨rfl, hb3⟩
    have HB3 := Lib.hid (HB.out.trans (hb3.mono HB.out.size))
    clear hb3
    go_wp2_with fail
    go_ret
    exact ⟨rfl, HB3.out⟩
  rw [if_neg r2] at hT2
  have t2 : (c.rule == 2) = false := by simp; exact r2
  by_cases r3 : c.rule = 3
  · rw [if_pos r3] at hT2
    have t3 : (c.rule == 3) = true := by simp; exact r3
    have hcall := decide_any b keep _ _ _ _ c ks vs wr HCK.out HROK.out
    rw [hT2] at hcall
    have HCALL := Lib.hid hcall
    clear hcall hT2 r0 r1 r2 r3
    go_wp2_with fail
    refine HCALL.out.mono ?_
    rintro e w3 ⟨rfl, hb3⟩
    have HB3 := Lib.hid (HB.out.trans (hb3.mono HB.out.size))
    clear hb3
    go_wp2_with fail
    go_ret
    exact ⟨rfl, HB3.out⟩
  rw [if_neg r3] at hT2
  have t3 : (c.rule == 3) = false := by simp; exact r3
  by_cases r4 : c.rule = 4
  · rw [if_pos r4] at hT2
    have t4 : (c.rule == 4) = true := by simp; exact r4
    have hcall := split_any b keep _ _ _ _ c ks vs wr HCK.out HROK.out
    rw [hT2] at hcall
    have HCALL := Lib.hid hcall
    clear hcall hT2 r0 r1 r2 r3 r4
    go_wp2_with fail
    refine HCALL.out.mono ?_
    rintro e w3 ⟨rfl, hb3⟩
    have HB3 := Lib.hid (HB.out.trans (hb3.mono HB.out.size))
    clear hb3
    go_wp2_with fail
    go_ret
    exact ⟨rfl, HB3.out⟩
  rw [if_neg r4] at hT2
  have t4 : (c.rule == 4) = false := by simp; exact r4
  by_cases r5 : c.rule = 5
  · rw [if_pos r5] at hT2
    have t5 : (c.rule == 5) = true := by simp; exact r5
    have hcall := try_any b keep _ _ _ _ c ks vs wr HCK.out HROK.out
    rw [hT2] at hcall
    have HCALL := Lib.hid hcall
    clear hcall hT2 r0 r1 r2 r3 r4 r5
    go_wp2_with fail
    refine HCALL.out.mono ?_
    rintro e w3 ⟨rfl, hb3⟩
    have HB3 := Lib.hid (HB.out.trans (hb3.mono HB.out.size))
    clear hb3
    go_wp2_with fail
    go_ret
    exact ⟨rfl, HB3.out⟩
  rw [if_neg r5] at hT2
  have t5 : (c.rule == 5) = false := by simp; exact r5
  by_cases r6 : c.rule = 6
  · rw [if_pos r6] at hT2
    have t6 : (c.rule == 6) = true := by simp; exact r6
    have hcall := both_any b keep _ _ _ _ c ks vs wr HCK.out HROK.out
    rw [hT2] at hcall
    have HCALL := Lib.hid hcall
    clear hcall hT2 r0 r1 r2 r3 r4 r5 r6
    go_wp2_with fail
    refine HCALL.out.mono ?_
    rintro e w3 ⟨rfl, hb3⟩
    have HB3 := Lib.hid (HB.out.trans (hb3.mono HB.out.size))
    clear hb3
    go_wp2_with fail
    go_ret
    exact ⟨rfl, HB3.out⟩
  rw [if_neg r6] at hT2
  have t6 : (c.rule == 6) = false := by simp; exact r6
  subst hT2
  clear r0 r1 r2 r3 r4 r5 r6
  go_wp2_with fail
  go_ret
  exact ⟨rfl, HB.out⟩
end Go.Proofs.Ytihkknploioakaa
