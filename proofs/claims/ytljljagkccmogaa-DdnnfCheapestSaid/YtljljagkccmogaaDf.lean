/- Walks of layer 33: Eval. -/
import Derived.Test.YtljljagkccmogaaDw3
import Derived.Test.YtljljagkccmogaaDe
import Derived.BigQuiet
import Derived.Deep.QuietTactic
import Derived.WalkSmall
import Derived.Deep.CutBlock
import Derived.Deep.DeepCutAuto
import Derived.Deep.LoopGhost
namespace Go.Proofs.Ytljljagkccmogaa
open Go.ChangeShapes Go.WideShapes Go.ChangeAt Go.RowKit
set_option linter.unusedVariables false

/-- what Eval answers -/
def evalA (d : Dnnf) (inp : List Bool) : Bool × Int :=
  if (checkedM d).1 ≠ 0 then (false, (checkedM d).1) else if (inp.length : Int) ≠ d.vars then (false, 2) else (evalM d.parts inp, 0)

set_option maxRecDepth 100000 in
set_option maxHeartbeats 8000000 in
theorem Eval_any {F G : Nat → Prop} (vars : Int) (pv iv : Value) (ps : List Part) (inp : List Bool) (w : World) (hp : Parts F w pv ps) (hin : Bools G w iv inp) (hv : I64 vars) (hil : inp.length ≤ 60) :
    Calls Try.prog 14 #[.agg #[.int .i64 vars, pv], iv] w fun e w' => e = .returned (.tuple #[.bool (evalA ⟨vars, ps⟩ inp).1, .int .i64 (evalA ⟨vars, ps⟩ inp).2]) ∧ Below w.heap.size w w' := by
  obtain ⟨pa, pc, rfl, hpl⟩ := hp.form
  obtain ⟨ia, il, ic, rfl, HIL, hil2⟩ : ∃ a n c, iv = .slice a n c ∧ Hid (n = inp.length) ∧ n ≤ 60 := by
    obtain ⟨a, c, h1, h2⟩ := hin.form
    exact ⟨a, _, c, h1, rfl, hil⟩
  have hbel : Below w.heap.size w (w.alloc (.cells #[.int .i64 vars, .slice pa ps.length pc] 24)) := (Below.refl _ _).alloc (Nat.le_refl _) _
  have HB := Lib.hid hbel
  have hp1 := hp.below hbel
  obtain ⟨M, hM⟩ : ∃ M, checkedM ⟨vars, ps⟩ = M := ⟨_, rfl⟩
  obtain ⟨A, hA⟩ : ∃ A, evalA ⟨vars, ps⟩ inp = A := ⟨_, rfl⟩
  have hA2 : A = if M.1 ≠ 0 then (false, M.1) else if (inp.length : Int) ≠ vars then (false, 2) else (evalM ps inp, 0) := by rw [← hA, ← hM]; rfl
  rw [hA]
  have HA0 := Lib.hid hA2
  have hchk := checked_any F vars _ ps _ hp1 hv
  have hvalid : M.1 = 0 → 0 ≤ vars ∧ vars ≤ 40 ∧ 0 < ps.length ∧ ps.length ≤ 16384 ∧ wfGo vars.toNat ps 0 := by
    intro h0
    rw [← hM] at h0
    unfold checkedM at h0
    split at h0
    · cases h0
    split at h0
    · cases h0
    split at h0
    · cases h0
    rename_i g1 g2 g3
    simp only at g1 g2 g3 h0
    have := wf_of_checked vars.toNat ps [] (by rw [show ((vars.toNat : Nat) : Int) = vars by omega]; exact h0)
    exact ⟨by omega, by omega, by omega, by omega, this⟩
  rw [hM] at hchk
  have HCH := Lib.hid hchk
  have HVAL := Lib.hid hvalid
  clear hbel hM hA hA2 hchk hvalid hil
  go_enter Try.func14, Try.ntmps14
  go_wp2_with fail
  refine HCH.out.mono ?_
  rintro e w1 ⟨fv, rfl, hb1, hn, hf⟩
  have HB1 : Hid (Below w.heap.size w w1) := Lib.hid (HB.out.trans (hb1.mono (by simp)))
  have c0 := below_c hb1 (show w.heap.size < _ by simp) (o := 0) (v := .int .i64 vars) (by simp)
  have c1 := below_c hb1 (show w.heap.size < _ by simp) (o := 1) (v := .slice pa ps.length pc) (by simp)
  have hs1 := block_lt c0
  obtain ⟨c, ms⟩ := M
  simp only at HA0 HVAL
  clear hb1 hn hf hp1 HCH
  by_cases hc : c = 0
  case neg =>
    have hne : (c != 0) = true := by simp [hc]
    have HAA : Hid (A = (false, c)) := Lib.hid (by rw [HA0.out]; simp [hc])
    clear hc
    go_wp2_with fail
    go_ret2
    exact ⟨by rw [HAA.out]; rfl, HB1.out⟩
  subst hc
  obtain ⟨hv0, hv40, h0, hps, hwf⟩ := HVAL.out rfl
  obtain ⟨V, rfl⟩ := Int.eq_ofNat_of_zero_le hv0
  have HWF := Lib.hid hwf
  clear hwf
  by_cases hlen : inp.length = V
  case neg =>
    have hne : ((il : Int) != (V : Int)) = true := by rw [bne_iff_ne]; have := HIL.out; omega
    have HAA : Hid (A = (false, 2)) := Lib.hid (by rw [HA0.out]; simp; omega)
    clear hlen
    go_wp2_with fail
    go_ret2
    exact ⟨by rw [HAA.out]; rfl, HB1.out⟩
  have hne : ((il : Int) != (V : Int)) = false := by rw [bne_eq_false_iff_eq]; have := HIL.out; omega
  have HA : Hid (A = (evalM ps inp, 0)) := Lib.hid (by rw [HA0.out]; simp [hlen])
  have hwf : wfGo inp.length ps 0 := by rw [hlen]; exact HWF.out
  obtain ⟨C, hC⟩ : ∃ C, evalGo inp ps [] = C := ⟨_, rfl⟩
  have HC : Hid (C = evalGo inp (ps.drop 0) []) := Lib.hid hC.symm
  have HS : Hid (wfGo inp.length (ps.drop 0) 0) := Lib.hid hwf
  have HR : Hid (evalM ps inp = C.getD (ps.length - 1) false) := Lib.hid (by rw [← hC]; rfl)
  obtain ⟨R, hR⟩ : ∃ r, evalM ps inp = r := ⟨_, rfl⟩
  rw [hR] at HR HA
  have hinfo : (Try.prog.info? 4).map (fun i => (i.zero, i.size, i.bytes)) = some (some (.bool false), 1, 1) := by kernel_rfl
  have HI := Lib.hid hinfo
  clear hinfo hC hR hwf hlen HWF
  go_wp2
  go_loopg [8, 32] (ps.length) (fun g u8 u32 wx => ∃ (k : Nat) (vs : List Bool), k + g = ps.length ∧ u32 = .int .i64 k ∧ Hid (C = evalGo inp (ps.drop k) vs) ∧ Hid (wfGo inp.length (ps.drop k) k) ∧ Hid (vs.length = k) ∧
    wx.ownsRow (w.heap.size + 1) 4 1 u8 k (vs.map .bool) ∧ Below w.heap.size w wx)
  case atStart => exact ⟨0, [], by omega, rfl, HC, HS, rfl, World.ownsRow_nil _ _ _ _, HB1.out⟩
  case round =>
  obtain ⟨k, vs, hkg, rfl, hinv, hsafe, hcl, hown, hB⟩ := hrel
  have HOW := Lib.hid hown
  have HBB := Lib.hid hB
  have hsz := hB.size
  clear hown hB
  rcases hd : ps.drop k with _ | ⟨p, r⟩
  · have hge := drop_nil hd
    have hk : ps.length = k := by omega
    have HCC : Hid (C = vs) := Lib.hid (by rw [hinv.out, hd]; rfl)
    subst hk
    have hk1 : ps.length - 1 < ps.length := by omega
    obtain ⟨g3, cap3, c, rfl, hc, hcc, hg31, hg32⟩ := own_any .bool HOW.out hk1
    have HRR : Hid (R = c) := Lib.hid (by rw [HR.out, HCC.out]; simp [List.getD, hc])
    obtain ⟨L, hL⟩ : ∃ L, L + 1 = ps.length := ⟨ps.length - 1, by omega⟩
    have hL2 : ps.length - 1 = L := by omega
    rw [hL2] at hcc
    have HLe := Lib.hid hL
    have hL3 : L < ps.length := by omega
    have hlen2 : ((ps.length : Int) - 1) = (L : Int) := by omega
    clear hd hinv hsafe hc hL hL2
    go_upto_region 28 with fail
    go_wp2
    go_ret2
    refine ⟨?_, HBB.out⟩
    rw [HA.out, HRR.out]
    rfl
  · obtain ⟨hd1, hd2, hd3⟩ := drop_cons hd
    have HSP : Hid (wfPart inp.length k p) := Lib.hid (by have := hsafe.out; rw [hd] at this; exact this.1)
    have HSN : Hid (wfGo inp.length (ps.drop (k + 1)) (k + 1)) := Lib.hid (by have := hsafe.out; rw [hd] at this; rw [hd2]; exact this.2)
    have HCN : Hid (C = evalGo inp (ps.drop (k + 1)) (vs ++ [evalStep inp p vs])) := Lib.hid (by rw [hinv.out, hd, hd2]; rfl)
    obtain ⟨pb, poff, kv, rfl, _, hpb, e1, e2, e3, hks, i1, i2⟩ := (hp.below HBB.out).at hd1
    obtain ⟨ka, n, kc, rfl, HN, hkl⟩ := hks.form'
    obtain ⟨i21, i22⟩ := i2
    obtain ⟨kind, lit, kids⟩ := p
    simp only at e1 e2 e3 hks HN i1 i21 i22
    clear hd hd1 hd2 hinv hsafe
    go_upto_block 3 with fail
    go_cut [11] (fun u11 wx => u11 = .bool (evalStep inp ⟨kind, lit, kids⟩ vs) ∧ ∃ nq, wx = (wr.alloc (.cells #[.int .i64 kind, .int .i64 lit, .slice ka n kc] 61)).drewN nq)
    case first =>
      have hk5 : kind = 0 ∨ kind = 1 ∨ kind = 2 ∨ kind = 3 ∨ kind = 4 := by
        have h1 := HSP.out.1
        have h2 := HSP.out.2.1
        simp only at h1 h2
        omega
      rcases hk5 with rfl | rfl | rfl | rfl | rfl
      · go_wp2
        go_meet
        exact ⟨rfl, 0, rfl⟩
      · go_wp2
        go_meet
        exact ⟨rfl, 0, rfl⟩
      · obtain ⟨hl0, hl1, hl2⟩ := HSP.out.2.2.2.1 rfl
        simp only at hl0 hl1 hl2
        by_cases hpos : 0 < lit
        · obtain ⟨L, rfl⟩ : ∃ L : Nat, lit = (L : Int) + 1 := ⟨lit.toNat - 1, by omega⟩
          obtain ⟨b, hb⟩ : ∃ b, inp[L]? = some b := ⟨_, List.getElem?_eq_getElem (by omega)⟩
          have hLi : L < il := by have := HIL.out; omega
          obtain ⟨ib, ioff, rfl, _, hib, hci⟩ := (hin.below HBB.out).at hb
          have HE : Hid (evalStep inp ⟨2, (L : Int) + 1, kids⟩ vs = b) := Lib.hid (by
            have e : ((L : Int) + 1).natAbs - 1 = L := by omega
            have e' : decide ((0 : Int) < (L : Int) + 1) = true := by rw [decide_eq_true_eq]; omega
            simp only [evalStep, e, e', List.getD, hb]; simp)
          clear hl0 hl1 hl2 hb
          go_upto_region 15 with fail
          go_quiet (fail)
          go_wp2
          go_meet
          exact ⟨by rw [HE.out], nq, rfl⟩
        · obtain ⟨L, rfl⟩ : ∃ L : Nat, lit = -((L : Int) + 1) := ⟨(-lit).toNat - 1, by omega⟩
          obtain ⟨b, hb⟩ : ∃ b, inp[L]? = some b := ⟨_, List.getElem?_eq_getElem (by omega)⟩
          have hLi : L < il := by have := HIL.out; omega
          obtain ⟨ib, ioff, rfl, _, hib, hci⟩ := (hin.below HBB.out).at hb
          have HE : Hid (evalStep inp ⟨2, -((L : Int) + 1), kids⟩ vs = !b) := Lib.hid (by
            have e : (-((L : Int) + 1)).natAbs - 1 = L := by omega
            have e' : decide ((0 : Int) < -((L : Int) + 1)) = false := by rw [decide_eq_false_iff_not]; omega
            simp only [evalStep, e, e', List.getD, hb]; simp)
          clear hl0 hl1 hl2 hb hpos
          go_upto_region 15 with fail
          go_quiet (fail)
          go_wp2
          go_meet
          refine ⟨?_, nq, rfl⟩
          rw [HE.out]
          cases b <;> rfl
      · have HKR := Lib.hid HSP.out.2.2.1
        have HST : Hid (evalStep inp ⟨3, lit, kids⟩ vs = allGo vs (kids.drop 0) true) := Lib.hid rfl
        go_wp2
        go_loopg [11, 61] n (fun g u11 u61 wx => ∃ (j : Nat) (q : Bool), j + g = n ∧ u61 = .int .i64 j ∧ u11 = .bool q ∧ Hid (evalStep inp ⟨3, lit, kids⟩ vs = allGo vs (kids.drop j) q) ∧
          wx = wr.alloc (.cells #[.int .i64 3, .int .i64 lit, .slice ka n kc] 61))
        case atStart => exact ⟨0, true, by omega, rfl, rfl, HST, rfl⟩
        case round =>
        obtain ⟨j, q, hjg, rfl, rfl, hst, rfl⟩ := hrel
        by_cases hj : j < n
        · obtain ⟨x, hx⟩ : ∃ x, kids[j]? = some x := ⟨_, List.getElem?_eq_getElem (by have := HN.out; omega)⟩
          obtain ⟨kb, koff, rfl, _, hkb, hck, hxi⟩ := hks.at hx
          obtain ⟨hx3, hx4⟩ := HKR.out x (List.mem_of_getElem? hx)
          obtain ⟨x, rfl⟩ := Int.eq_ofNat_of_zero_le hx3
          have hxl : x < k := by omega
          obtain ⟨g3, cap3, c, rfl, hc, hcc, hg31, hg32⟩ := own_any .bool HOW.out hxl
          have e : kids.drop j = (x : Int) :: kids.drop (j + 1) := by
            obtain ⟨hlt, he⟩ := List.getElem?_eq_some_iff.1 hx
            rw [List.drop_eq_getElem_cons hlt, he]
          have HST2 : Hid (evalStep inp ⟨3, lit, kids⟩ vs = allGo vs (kids.drop (j + 1)) (q && c)) := Lib.hid (by
            rw [hst.out, e]; simp only [allGo, Int.toNat_natCast, List.getD, hc, Option.getD_some])
          have hg33 : g3 < wr.heap.size + 1 := by omega
          clear hx e hst hc
          cases q
          · go_wp2
            go_roundg (gk - 1)
            case measure => omega
            case rel => exact ⟨j + 1, false, by omega, by go_num, rfl, HST2, rfl⟩
          · go_wp2
            go_roundg (gk - 1)
            case measure => omega
            case rel => exact ⟨j + 1, c, by omega, by go_num, rfl, by simpa using HST2, rfl⟩
        have hjn : n = j := by omega
        have HF : Hid (evalStep inp ⟨3, lit, kids⟩ vs = q) := Lib.hid (by rw [hst.out, List.drop_eq_nil_of_le (by have := HN.out; omega)]; rfl)
        subst hjn
        clear hj hst
        go_wp2
        go_meet
        exact ⟨by rw [HF.out], 0, rfl⟩
      · obtain ⟨hl1, hl2, hkn⟩ := HSP.out.2.2.2.2 rfl
        simp only at hl1 hl2 hkn
        obtain ⟨L, rfl⟩ : ∃ L : Nat, lit = (L : Int) + 1 := ⟨lit.toNat - 1, by omega⟩
        obtain ⟨k0, k1, rfl⟩ : ∃ a b, kids = [a, b] := by
          match kids, hkn with
          | [a, b], _ => exact ⟨a, b, rfl⟩
        have hr := HSP.out.2.2.1
        simp only [List.mem_cons, List.not_mem_nil, or_false, forall_eq_or_imp, forall_eq] at hr
        obtain ⟨⟨a0, a1⟩, b0, b1⟩ := hr
        obtain ⟨x0, rfl⟩ := Int.eq_ofNat_of_zero_le a0
        obtain ⟨x1, rfl⟩ := Int.eq_ofNat_of_zero_le b0
        have hx0 : x0 < k := by omega
        have hx1 : x1 < k := by omega
        obtain ⟨g3, cap3, c0, rfl, hc0, hcc0, hg31, hg32⟩ := own_any .bool HOW.out hx0
        obtain ⟨_, _, c1, heq, hc1, hcc1, _, _⟩ := own_any .bool HOW.out hx1
        injection heq with heq1 heq2 heq3
        injection heq1 with heq1
        injection heq1 with heq1
        subst heq1 heq3
        obtain ⟨kb, koff, rfl, _, hkb, hck0, _⟩ := hks.at (k := 0) (x := (x0 : Int)) rfl
        obtain ⟨_, _, heq, _, _, hck1, _⟩ := hks.at (k := 1) (x := (x1 : Int)) rfl
        injection heq with heq
        injection heq with heq1 heq2
        subst heq1 heq2
        obtain ⟨b, hb⟩ : ∃ b, inp[L]? = some b := ⟨_, List.getElem?_eq_getElem (by omega)⟩
        have hLi : L < il := by have := HIL.out; omega
        obtain ⟨ib, ioff, rfl, _, hib, hci⟩ := (hin.below HBB.out).at hb
        have hn2 : 1 < n := by have := HN.out; simp at this; omega
        have hn1 : 0 < n := by omega
        have hg33 : g3 < wr.heap.size + 1 := by omega
        rw [Nat.add_zero] at hck0
        have HE : Hid (evalStep inp ⟨4, (L : Int) + 1, [(x0 : Int), (x1 : Int)]⟩ vs = if b then c1 else c0) := Lib.hid (by
          simp [evalStep, List.getD, hb, hc0, hc1])
        clear hl1 hl2 hkn hb hc0 hc1
        cases b
        · go_wp2
          go_meet
          exact ⟨by rw [HE.out]; rfl, 0, rfl⟩
        · go_wp2
          go_meet
          exact ⟨by rw [HE.out]; rfl, 0, rfl⟩
    case rest =>
    obtain ⟨rfl, nq, rfl⟩ := hcut
    generalize evalStep inp ⟨kind, lit, kids⟩ vs = sv at *
    have hb1 : Below w.heap.size w ((wr.alloc (.cells #[.int .i64 kind, .int .i64 lit, .slice ka n kc] 61)).drewN nq) := below_drewN (HBB.out.alloc (by omega) _) nq
    have ho1 : ((wr.alloc (.cells #[.int .i64 kind, .int .i64 lit, .slice ka n kc] 61)).drewN nq).ownsRow (w.heap.size + 1) 4 1 u8 k (vs.map .bool) := HOW.out.alloc _
    have hs1 : ((wr.alloc (.cells #[.int .i64 kind, .int .i64 lit, .slice ka n kc] 61)).drewN nq).heap.size = wr.heap.size + 1 := by simp [World.drewN]
    obtain ⟨w1, hw1⟩ : ∃ w1, (wr.alloc (.cells #[.int .i64 kind, .int .i64 lit, .slice ka n kc] 61)).drewN nq = w1 := ⟨_, rfl⟩
    rw [hw1] at hb1 ho1 hs1 ⊢
    have HB1 := Lib.hid hb1
    have HS1 := Lib.hid hs1
    have hge : w.heap.size + 1 ≤ w1.heap.size := by omega
    clear hw1 hb1 hs1 e1 e2 e3 hks
    go_wp2_with (at_builtin; go_loud (refine wpList_push1 rfl _ _ 29 rfl 4 (.bool false) 1 Try.underlying29 HI.out rfl (w.heap.size + 1) u8 k _ w1 (.bool sv) rfl rfl ho1 rfl (by omega) (by omega) (by omega) ?_); intro g3 cap3 w3 hown3 hg3 hs3 hgb hgl _; have HB3 := Lib.hid (HB1.out.grown hg3 (by omega) (fun k hk => by have := (ho1.lt k hk).1; omega)); have HO3 := Lib.hid hown3; clear hown3 hg3 ho1)
    go_roundg (gk - 1)
    case measure => omega
    case rel => exact ⟨k + 1, vs ++ [sv], by omega, by go_num, HCN, HSN, Lib.hid (by simp [hcl.out]), by simpa using HO3.out, HB3.out⟩
end Go.Proofs.Ytljljagkccmogaa
