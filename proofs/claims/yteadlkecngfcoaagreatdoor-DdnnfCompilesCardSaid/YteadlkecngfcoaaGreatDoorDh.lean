/- Walks of layer 33: the statements' own 'holds'. -/
import Derived.Test.YteadlkecngfcoaaGreatDoorChecked
import Derived.Test.YteadlkecngfcoaaGreatDoorDe
import Derived.BigQuiet
import Derived.Deep.QuietTactic
import Derived.WalkSmall
import Derived.Deep.CutBlock
import Derived.Deep.DeepCutAuto
import Derived.Deep.LoopGhost
namespace Go.Proofs.YteadlkecngfcoaaGreatDoor
open Go.ChangeShapes Go.WideShapes Go.ChangeAt Go.RowKit
set_option linter.unusedVariables false

set_option maxRecDepth 100000 in
set_option maxHeartbeats 8000000 in
theorem holds_any {F G : Nat → Prop} (vars : Int) (pv iv : Value) (ps : List Part) (inp : List Bool) (w : World) (hp : Parts F w pv ps) (hin : Bools G w iv inp)
    (h0 : 0 < ps.length) (hps : ps.length ≤ 16384) (hwf : wfGo inp.length ps 0) (hil : inp.length ≤ 60) :
    Calls Tryz.prog 10 #[.agg #[.int .i64 vars, pv], iv] w fun e w' => e = .returned (.bool (evalM ps inp)) ∧ Below w.heap.size w w' := by
  obtain ⟨pa, pc, rfl, hpl⟩ := hp.form
  obtain ⟨ia, il, ic, rfl, HIL, hil2⟩ : ∃ a n c, iv = .slice a n c ∧ Hid (n = inp.length) ∧ n ≤ 60 := by
    obtain ⟨a, c, h1, h2⟩ := hin.form
    exact ⟨a, _, c, h1, rfl, hil⟩
  obtain ⟨C, hC⟩ : ∃ C, evalGo inp ps [] = C := ⟨_, rfl⟩
  have HC : Hid (C = evalGo inp (ps.drop 0) []) := Lib.hid hC.symm
  have HS : Hid (wfGo inp.length (ps.drop 0) 0) := Lib.hid hwf
  have HR : Hid (evalM ps inp = C.getD (ps.length - 1) false) := Lib.hid (by rw [← hC]; rfl)
  obtain ⟨R, hR⟩ : ∃ r, evalM ps inp = r := ⟨_, rfl⟩
  rw [hR] at HR ⊢
  have hinfo : (Tryz.prog.info? 4).map (fun i => (i.zero, i.size, i.bytes)) = some (some (.bool false), 1, 1) := by kernel_rfl
  have HI := Lib.hid hinfo
  have hbel : Below w.heap.size w (w.alloc (.cells #[.int .i64 vars, .slice pa ps.length pc] 29)) := (Below.refl _ _).alloc (Nat.le_refl _) _
  have HB := Lib.hid hbel
  clear hinfo hC hR hwf hbel hil
  go_enter Tryz.func10, Tryz.ntmps10
  go_wp2
  go_loopg [5, 14] (ps.length) (fun g u5 u14 wx => ∃ (k : Nat) (vs : List Bool), k + g = ps.length ∧ u14 = .int .i64 k ∧ Hid (C = evalGo inp (ps.drop k) vs) ∧ Hid (wfGo inp.length (ps.drop k) k) ∧ Hid (vs.length = k) ∧
    wx.ownsRow (w.heap.size + 1) 4 1 u5 k (vs.map .bool) ∧ Below w.heap.size w wx)
  case atStart => exact ⟨0, [], by omega, rfl, HC, HS, rfl, World.ownsRow_nil _ _ _ _, HB.out⟩
  case round =>
  obtain ⟨k, vs, hkg, rfl, hinv, hsafe, hcl, hown, hB⟩ := hrel
  have HOW := Lib.hid hown
  have HBB := Lib.hid hB
  have hsz := hB.size
  clear hown hB
  rcases hd : ps.drop k with _ | ⟨p, r⟩
  · have hge := drop_nil hd
    have hk : ps.length = k := by omega
    have HCC : Hid (C = vs) := Lib.hid (by rw [hinv.out, hd]; rfl)
    subst hk
    have hk1 : ps.length - 1 < ps.length := by omega
    obtain ⟨g3, cap3, c, rfl, hc, hcc, hg31, hg32⟩ := own_any .bool HOW.out hk1
    have HRR : Hid (R = c) := Lib.hid (by rw [HR.out, HCC.out]; simp [List.getD, hc])
    obtain ⟨L, hL⟩ : ∃ L, L + 1 = ps.length := ⟨ps.length - 1, by omega⟩
    have hL2 : ps.length - 1 = L := by omega
    rw [hL2] at hcc
    have HLe := Lib.hid hL
    have hL3 : L < ps.length := by omega
    have hlen2 : ((ps.length : Int) - 1) = (L : Int) := by omega
    clear hd hinv hsafe hc hL hL2
    go_upto_region 24 with fail
    go_wp2
    go_ret
    exact ⟨by rw [HRR.out]; rfl, HBB.out⟩
  · obtain ⟨hd1, hd2, hd3⟩ := drop_cons hd
    have HSP : Hid (wfPart inp.length k p) := Lib.hid (by have := hsafe.out; rw [hd] at this; exact this.1)
    have HSN : Hid (wfGo inp.length (ps.drop (k + 1)) (k + 1)) := Lib.hid (by have := hsafe.out; rw [hd] at this; rw [hd2]; exact this.2)
    have HCN : Hid (C = evalGo inp (ps.drop (k + 1)) (vs ++ [evalStep inp p vs])) := Lib.hid (by rw [hinv.out, hd, hd2]; rfl)
    obtain ⟨pb, poff, kv, rfl, _, hpb, e1, e2, e3, hks, i1, i2⟩ := (hp.below HBB.out).at hd1
    obtain ⟨ka, n, kc, rfl, HN, hkl⟩ := hks.form'
    obtain ⟨i21, i22⟩ := i2
    obtain ⟨kind, lit, kids⟩ := p
    simp only at e1 e2 e3 hks HN i1 i21 i22
    clear hd hd1 hd2 hinv hsafe
    go_upto_block 2 with fail
    go_cut [8] (fun u8 wx => u8 = .bool (evalStep inp ⟨kind, lit, kids⟩ vs) ∧ ∃ nq, wx = (wr.alloc (.cells #[.int .i64 kind, .int .i64 lit, .slice ka n kc] 43)).drewN nq)
    case first =>
      have hk5 : kind = 0 ∨ kind = 1 ∨ kind = 2 ∨ kind = 3 ∨ kind = 4 := by
        have h1 := HSP.out.1
        have h2 := HSP.out.2.1
        simp only at h1 h2
        omega
      rcases hk5 with rfl | rfl | rfl | rfl | rfl
      · go_wp2
        go_meet
        exact ⟨rfl, 0, rfl⟩
      · go_wp2
        go_meet
        exact ⟨rfl, 0, rfl⟩
      · obtain ⟨hl0, hl1, hl2⟩ := HSP.out.2.2.2.1 rfl
        simp only at hl0 hl1 hl2
        by_cases hpos : 0 < lit
        · obtain ⟨L, rfl⟩ : ∃ L : Nat, lit = (L : Int) + 1 := ⟨lit.toNat - 1, by omega⟩
          obtain ⟨b, hb⟩ : ∃ b, inp[L]? = some b := ⟨_, List.getElem?_eq_getElem (by omega)⟩
          have hLi : L < il := by have := HIL.out; omega
          obtain ⟨ib, ioff, rfl, _, hib, hci⟩ := (hin.below HBB.out).at hb
          have HE : Hid (evalStep inp ⟨2, (L : Int) + 1, kids⟩ vs = b) := Lib.hid (by
            have e : ((L : Int) + 1).natAbs - 1 = L := by omega
            have e' : decide ((0 : Int) < (L : Int) + 1) = true := by rw [decide_eq_true_eq]; omega
            simp only [evalStep, e, e', List.getD, hb]; simp)
          clear hl0 hl1 hl2 hb
          go_upto_region 10 with fail
          go_quiet (fail)
          go_wp2
          go_meet
          exact ⟨by rw [HE.out], nq, rfl⟩
        · obtain ⟨L, rfl⟩ : ∃ L : Nat, lit = -((L : Int) + 1) := ⟨(-lit).toNat - 1, by omega⟩
          obtain ⟨b, hb⟩ : ∃ b, inp[L]? = some b := ⟨_, List.getElem?_eq_getElem (by omega)⟩
          have hLi : L < il := by have := HIL.out; omega
          obtain ⟨ib, ioff, rfl, _, hib, hci⟩ := (hin.below HBB.out).at hb
          have HE : Hid (evalStep inp ⟨2, -((L : Int) + 1), kids⟩ vs = !b) := Lib.hid (by
            have e : (-((L : Int) + 1)).natAbs - 1 = L := by omega
            have e' : decide ((0 : Int) < -((L : Int) + 1)) = false := by rw [decide_eq_false_iff_not]; omega
            simp only [evalStep, e, e', List.getD, hb]; simp)
          clear hl0 hl1 hl2 hb hpos
          go_upto_region 10 with fail
          go_quiet (fail)
          go_wp2
          go_meet
          refine ⟨?_, nq, rfl⟩
          rw [HE.out]
          cases b <;> rfl
      · have HKR := Lib.hid HSP.out.2.2.1
        have HST : Hid (evalStep inp ⟨3, lit, kids⟩ vs = allGo vs (kids.drop 0) true) := Lib.hid rfl
        go_wp2
        go_loopg [8, 43] n (fun g u8 u43 wx => ∃ (j : Nat) (q : Bool), j + g = n ∧ u43 = .int .i64 j ∧ u8 = .bool q ∧ Hid (evalStep inp ⟨3, lit, kids⟩ vs = allGo vs (kids.drop j) q) ∧
          wx = wr.alloc (.cells #[.int .i64 3, .int .i64 lit, .slice ka n kc] 43))
        case atStart => exact ⟨0, true, by omega, rfl, rfl, HST, rfl⟩
        case round =>
        obtain ⟨j, q, hjg, rfl, rfl, hst, rfl⟩ := hrel
        by_cases hj : j < n
        · obtain ⟨x, hx⟩ : ∃ x, kids[j]? = some x := ⟨_, List.getElem?_eq_getElem (by have := HN.out; omega)⟩
          obtain ⟨kb, koff, rfl, _, hkb, hck, hxi⟩ := hks.at hx
          obtain ⟨hx3, hx4⟩ := HKR.out x (List.mem_of_getElem? hx)
          obtain ⟨x, rfl⟩ := Int.eq_ofNat_of_zero_le hx3
          have hxl : x < k := by omega
          obtain ⟨g3, cap3, c, rfl, hc, hcc, hg31, hg32⟩ := own_any .bool HOW.out hxl
          have e : kids.drop j = (x : Int) :: kids.drop (j + 1) := by
            obtain ⟨hlt, he⟩ := List.getElem?_eq_some_iff.1 hx
            rw [List.drop_eq_getElem_cons hlt, he]
          have HST2 : Hid (evalStep inp ⟨3, lit, kids⟩ vs = allGo vs (kids.drop (j + 1)) (q && c)) := Lib.hid (by
            rw [hst.out, e]; simp only [allGo, Int.toNat_natCast, List.getD, hc, Option.getD_some])
          have hg33 : g3 < wr.heap.size + 1 := by omega
          clear hx e hst hc
          cases q
          · go_wp2
            go_roundg (gk - 1)
            case measure => omega
            case rel => exact ⟨j + 1, false, by omega, by go_num, rfl, HST2, rfl⟩
          · go_wp2
            go_roundg (gk - 1)
            case measure => omega
            case rel => exact ⟨j + 1, c, by omega, by go_num, rfl, by simpa using HST2, rfl⟩
        have hjn : n = j := by omega
        have HF : Hid (evalStep inp ⟨3, lit, kids⟩ vs = q) := Lib.hid (by rw [hst.out, List.drop_eq_nil_of_le (by have := HN.out; omega)]; rfl)
        subst hjn
        clear hj hst
        go_wp2
        go_meet
        exact ⟨by rw [HF.out], 0, rfl⟩
      · obtain ⟨hl1, hl2, hkn⟩ := HSP.out.2.2.2.2 rfl
        simp only at hl1 hl2 hkn
        obtain ⟨L, rfl⟩ : ∃ L : Nat, lit = (L : Int) + 1 := ⟨lit.toNat - 1, by omega⟩
        obtain ⟨k0, k1, rfl⟩ : ∃ a b, kids = [a, b] := by
          match kids, hkn with
          | [a, b], _ => exact ⟨a, b, rfl⟩
        have hr := HSP.out.2.2.1
        simp only [List.mem_cons, List.not_mem_nil, or_false, forall_eq_or_imp, forall_eq] at hr
        obtain ⟨⟨a0, a1⟩, b0, b1⟩ := hr
        obtain ⟨x0, rfl⟩ := Int.eq_ofNat_of_zero_le a0
        obtain ⟨x1, rfl⟩ := Int.eq_ofNat_of_zero_le b0
        have hx0 : x0 < k := by omega
        have hx1 : x1 < k := by omega
        obtain ⟨g3, cap3, c0, rfl, hc0, hcc0, hg31, hg32⟩ := own_any .bool HOW.out hx0
        obtain ⟨_, _, c1, heq, hc1, hcc1, _, _⟩ := own_any .bool HOW.out hx1
        injection heq with heq1 heq2 heq3
        injection heq1 with heq1
        injection heq1 with heq1
        subst heq1 heq3
        obtain ⟨kb, koff, rfl, _, hkb, hck0, _⟩ := hks.at (k := 0) (x := (x0 : Int)) rfl
        obtain ⟨_, _, heq, _, _, hck1, _⟩ := hks.at (k := 1) (x := (x1 : Int)) rfl
        injection heq with heq
        injection heq with heq1 heq2
        subst heq1 heq2
        obtain ⟨b, hb⟩ : ∃ b, inp[L]? = some b := ⟨_, List.getElem?_eq_getElem (by omega)⟩
        have hLi : L < il := by have := HIL.out; omega
        obtain ⟨ib, ioff, rfl, _, hib, hci⟩ := (hin.below HBB.out).at hb
        have hn2 : 1 < n := by have := HN.out; simp at this; omega
        have hn1 : 0 < n := by omega
        have hg33 : g3 < wr.heap.size + 1 := by omega
        rw [Nat.add_zero] at hck0
        have HE : Hid (evalStep inp ⟨4, (L : Int) + 1, [(x0 : Int), (x1 : Int)]⟩ vs = if b then c1 else c0) := Lib.hid (by
          simp [evalStep, List.getD, hb, hc0, hc1])
        clear hl1 hl2 hkn hb hc0 hc1
        cases b
        · go_wp2
          go_meet
          exact ⟨by rw [HE.out]; rfl, 0, rfl⟩
        · go_wp2
          go_meet
          exact ⟨by rw [HE.out]; rfl, 0, rfl⟩
    case rest =>
    obtain ⟨rfl, nq, rfl⟩ := hcut
    generalize evalStep inp ⟨kind, lit, kids⟩ vs = sv at *
    have hb1 : Below w.heap.size w ((wr.alloc (.cells #[.int .i64 kind, .int .i64 lit, .slice ka n kc] 43)).drewN nq) := below_drewN (HBB.out.alloc (by omega) _) nq
    have ho1 : ((wr.alloc (.cells #[.int .i64 kind, .int .i64 lit, .slice ka n kc] 43)).drewN nq).ownsRow (w.heap.size + 1) 4 1 u5 k (vs.map .bool) := HOW.out.alloc _
    have hs1 : ((wr.alloc (.cells #[.int .i64 kind, .int .i64 lit, .slice ka n kc] 43)).drewN nq).heap.size = wr.heap.size + 1 := by simp [World.drewN]
    obtain ⟨w1, hw1⟩ : ∃ w1, (wr.alloc (.cells #[.int .i64 kind, .int .i64 lit, .slice ka n kc] 43)).drewN nq = w1 := ⟨_, rfl⟩
    rw [hw1] at hb1 ho1 hs1 ⊢
    have HB1 := Lib.hid hb1
    have HS1 := Lib.hid hs1
    have hge : w.heap.size + 1 ≤ w1.heap.size := by omega
    clear hw1 hb1 hs1 e1 e2 e3 hks
    go_wp2_with (at_builtin; go_loud (refine wpList_push1 rfl _ _ 36 rfl 4 (.bool false) 1 Tryz.underlying36 HI.out rfl (w.heap.size + 1) u5 k _ w1 (.bool sv) rfl rfl ho1 rfl (by omega) (by omega) (by omega) ?_); intro g3 cap3 w3 hown3 hg3 hs3 hgb hgl _; have HB3 := Lib.hid (HB1.out.grown hg3 (by omega) (fun k hk => by have := (ho1.lt k hk).1; omega)); have HO3 := Lib.hid hown3; clear hown3 hg3 ho1)
    go_roundg (gk - 1)
    case measure => omega
    case rel => exact ⟨k + 1, vs ++ [sv], by omega, by go_num, HCN, HSN, Lib.hid (by simp [hcl.out]), by simpa using HO3.out, HB3.out⟩
end Go.Proofs.YteadlkecngfcoaaGreatDoor
