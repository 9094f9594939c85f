/- Walk of the law DdnnfConditions. -/
import Derived.Test.YtljljagkccmogaaCw3
import Derived.Test.YtljljagkccmogaaCw4
import Derived.Test.YtljljagkccmogaaDk
import Derived.Test.YtljljagkccmogaaDh
import Derived.Test.YtljljagkccmogaaDl
import Derived.Test.YtljljagkccmogaaLb
namespace Go.Proofs.Ytljljagkccmogaa
open Go.ChangeShapes Go.WideShapes Go.ChangeAt Go.RowKit
set_option linter.unusedVariables false

theorem Ints.take {F : Nat → Prop} {w : World} {a : Option Addr} {n c : Nat} {xs : List Int} (h : Ints F w (.slice a n c) xs) (k : Nat) (hk : k ≤ n) : Ints F w (.slice a k c) (xs.take k) := by
  obtain ⟨⟨a', c', he, hl, hc⟩, h2⟩ := h
  injection he with e1 e2 e3
  subst e1 e2 e3
  have hl' : (xs.map (Value.int .i64)).length = xs.length := by simp
  refine ⟨⟨a, c, by simp; omega, by simp; omega, fun j u hu => ?_⟩, fun x hx => h2 x (List.mem_of_mem_take hx)⟩
  refine hc j u ?_
  rw [List.getElem?_map, List.getElem?_take] at hu
  rw [List.getElem?_map]
  split at hu
  · exact hu
  · simp at hu
theorem few_kids : ∀ (ps : List Part) (l : Int), fewM ps l = true → ∀ p ∈ ps, (p.kids.length : Int) ≤ l
  | [], _, _ => by simp
  | p :: r, l, h => by
    rw [fewM] at h
    split at h
    · cases h
    · intro q hq
      rcases List.mem_cons.1 hq with rfl | hq
      · omega
      · have := few_kids r _ h q hq
        omega
/-- what a form that fits has -/
theorem fit_of {vars : Int} {ps : List Part} (h : fitB ⟨vars, ps⟩ = true) : (checkedM ⟨vars, ps⟩).1 = 0 ∧ 0 ≤ vars ∧ vars ≤ 8 ∧ (∀ p ∈ ps, p.kids.length ≤ 200) ∧ 0 < ps.length ∧ ps.length ≤ 60 := by
  unfold fitB few at h
  simp only [Bool.and_eq_true, decide_eq_true_eq, beq_iff_eq] at h
  obtain ⟨⟨h1, h2⟩, h3, h4⟩ := h
  rw [← check_eq] at h4
  have := sh_of_checkedM _ h4
  simp only at this
  exact ⟨h4, this.2.1, h3, fun p hp => by have := few_kids ps 200 h1 p hp; omega, this.2.2.2.1, h2⟩
theorem cond_wf {V : Nat} {ps : List Part} (lits : List Int) (h : (checkedM ⟨V, ps⟩).1 = 0) : wfGo V (ps.map (condPart (fixM V lits))) 0 := by
  have := condM_checked ⟨V, ps⟩ lits h
  unfold condM at this
  simp only [Int.toNat_natCast] at this
  have := valid_of this
  simpa using this.2.2.2.2

set_option maxRecDepth 100000 in
set_option maxHeartbeats 8000000 in
theorem conditions_walk {F G : Nat → Prop} (vars : Int) (pv : Value) (la : Option Addr) (ln lc : Nat) (ps : List Part) (lits : List Int) (w : World) (hp : Parts F w pv ps) (hl : Ints G w (.slice la ln lc) lits) (hcap : ln ≤ lc) (hv : I64 vars) :
    Calls Try.prog 6 #[.agg #[.int .i64 vars, pv], .slice la ln lc] w fun e w' => e = .returned (.bool true) ∧ Below w.heap.size w w' := by
  obtain ⟨pa, pn, pc, rfl, HPN, hpn⟩ : ∃ a n c, pv = .slice a n c ∧ Hid (n = ps.length) ∧ n ≤ 9223372036854775807 := by
    obtain ⟨a, c, h1, h2⟩ := hp.form
    exact ⟨a, _, c, h1, rfl, h2⟩
  have HLN := Lib.hid hl.len.1
  have hln := hl.len.2
  have hbel : Below w.heap.size w (w.alloc (.cells #[.int .i64 vars, .slice pa pn pc] 24)) := (Below.refl _ _).alloc (Nat.le_refl _) _
  have HB := Lib.hid hbel
  have HP := Lib.hid (hp.below hbel)
  have HL := Lib.hid (hl.below hbel)
  clear hbel hp hl
  go_enter Try.func6, Try.ntmps6
  go_wp2_with fail
  refine (known_any _).mono ?_
  rintro e w1 ⟨rfl, hb1⟩
  have c0 := below_c hb1 (show w.heap.size < _ by simp) (o := 0) (v := .int .i64 vars) (by simp)
  have c1 := below_c hb1 (show w.heap.size < _ by simp) (o := 1) (v := .slice pa pn pc) (by simp)
  have HB1 : Hid (Below w.heap.size w w1) := Lib.hid (HB.out.trans (hb1.mono (by simp)))
  have HP1 := Lib.hid (HP.out.below hb1)
  have HL1 := Lib.hid (HL.out.below hb1)
  clear hb1
  go_wp2_with fail
  refine (fit_any F vars _ ps _ HP1.out hv).mono ?_
  rintro e w2 ⟨rfl, hb2⟩
  have hs2 := block_lt c0
  have d0 := below_c hb2 hs2 c0
  have d1 := below_c hb2 hs2 c1
  have HB2 : Hid (Below w.heap.size w w2) := Lib.hid (HB1.out.trans (hb2.mono HB1.out.size))
  have HP2 := Lib.hid (HP1.out.below hb2)
  have HL2 := Lib.hid (HL1.out.below hb2)
  have hs3 := block_lt d0
  clear hb2 c0 c1 hs2 HP HL HP1 HL1
  rcases hf : fitB ⟨vars, ps⟩ with _ | _
  · go_wp2_with fail
    go_ret
    exact ⟨rfl, HB2.out⟩
  by_cases h20 : 20 < ln
  · go_wp2_with fail
    go_ret
    exact ⟨rfl, HB2.out⟩
  have h20' : decide ((20 : Int) < ln) = false := by simp; omega
  have hln20 : ln ≤ 20 := by omega
  clear h20
  obtain ⟨hck, hv0, hv8, hkd, hp0, hp60⟩ := fit_of hf
  obtain ⟨V, rfl⟩ := Int.eq_ofNat_of_zero_le hv0
  have hV8 : V ≤ 8 := by omega
  have HCK := Lib.hid hck
  have HKD := Lib.hid hkd
  have hcd := condition_any V _ _ ps lits w2 HP2.out HL2.out hck (fun p hp => by have := hkd p hp; omega)
  obtain ⟨D, hD⟩ : ∃ D, seenGo V lits (List.replicate (V + 1) false) = D := ⟨_, rfl⟩
  have HD : Hid (D = dupGo V (lits.take 0) (lits.drop 0)) := Lib.hid (by rw [← hD, seen_dup]; rfl)
  have HLO : Hid (D = 0 → LitsOk V lits) := Lib.hid (fun h => lits_ok V lits _ (by rw [hD]; exact h))
  obtain ⟨qs, hqs⟩ : ∃ qs, (condM ⟨V, ps⟩ lits).parts = qs := ⟨_, rfl⟩
  have HQ : Hid (qs = ps.map (condPart (fixM V lits))) := Lib.hid (by rw [← hqs]; unfold condM; simp)
  rw [hD, hqs] at hcd
  have HCD := Lib.hid hcd
  clear hck hkd hcd hD hqs hf
  go_wp2_with fail
  refine HCD.out.mono ?_
  rintro e w3 ⟨rv, rfl, hb3, hno, hyes⟩
  have e0 := below_c hb3 hs3 d0
  have e1 := below_c hb3 hs3 d1
  have HB3 : Hid (Below w.heap.size w w3) := Lib.hid (HB2.out.trans (hb3.mono HB2.out.size))
  have HP3 := Lib.hid (HP2.out.below hb3)
  have HL3 := Lib.hid (HL2.out.below hb3)
  have hs4 := block_lt e0
  obtain ⟨gv, ga, gn, gc, rfl⟩ : ∃ gv a n c, rv = .agg #[.int .i64 gv, .slice a n c] := by
    by_cases hD0 : D = 0
    · obtain ⟨qv, h1, h2⟩ := hyes hD0
      obtain ⟨a, c, h3, _⟩ := h2.form
      exact ⟨_, a, _, c, by rw [h1, h3]⟩
    · exact ⟨_, none, 0, 0, hno hD0⟩
  have HNO := Lib.hid hno
  have HYES := Lib.hid hyes
  clear hb3 d0 d1 hs3 HCD HP2 HL2 hno hyes
  go_upto_region 7 with fail
  obtain ⟨W5, hW5⟩ : ∃ W5, w3.alloc (.cells #[.int .i64 gv, .slice ga gn gc] 24) = W5 := ⟨_, rfl⟩
  obtain ⟨N, hN⟩ : ∃ N, w3.heap.size = N := ⟨_, rfl⟩
  have hb5 : Below N w3 W5 := by rw [← hW5, ← hN]; exact (Below.refl _ _).alloc (Nat.le_refl _) _
  have f0 := below_c hb5 (by omega) e0
  have f1 := below_c hb5 (by omega) e1
  have n0 : W5.cell? ⟨N, 0, none⟩ = some (.int .i64 gv) := by rw [← hW5, ← hN]; simp
  have n1 : W5.cell? ⟨N, 1, none⟩ = some (.slice ga gn gc) := by rw [← hW5, ← hN]; simp
  have hNs : N < W5.heap.size := by rw [← hW5, ← hN]; simp
  have hwN : w.heap.size < N := by omega
  have HB5 : Hid (Below w.heap.size w W5) := Lib.hid (HB3.out.trans (hb5.mono (by omega)))
  have HP5 := Lib.hid (HP3.out.below (hb5.mono (by omega)))
  have HL5 := Lib.hid (HL3.out.below (hb5.mono (by omega)))
  have HYE5 : Hid (D = 0 → ∃ pv, Value.agg #[.int .i64 gv, .slice ga gn gc] = .agg #[.int .i64 V, pv] ∧ Parts (fun b => w2.heap.size ≤ b) W5 pv qs) := Lib.hid fun h => by
    obtain ⟨pv, h1, h2⟩ := HYES.out h
    exact ⟨pv, h1, h2.below (hb5.mono (by omega))⟩
  rw [hW5, hN]
  clear hW5 hb5 e0 e1 HP3 HL3 HYES hN hs4
  go_upto_block 0 with fail
  go_cut [7] (fun u7 wx => u7 = .int .i64 D ∧ wx = W5)
  case first =>
    -- fold
    have hll : lits.length = ln := HLN.out.symm
    have HLL := Lib.hid hll
    clear hll
    go_wp2
    go_loopg [7, 33] ln (fun g u7 u33 wx => ∃ (k : Nat), k + g = ln ∧ u33 = .int .i64 k ∧ u7 = .int .i64 0 ∧ wx = W5 ∧ Hid (D = dupGo V (lits.take k) (lits.drop k)))
    case atStart => exact ⟨0, by omega, rfl, rfl, rfl, HD⟩
    case round =>
    obtain ⟨k, hkg, rfl, rfl, rfl, hinv⟩ := hrel
    by_cases hlt : k < ln
    · obtain ⟨l, hy⟩ : ∃ y, lits[k]? = some y := ⟨_, List.getElem?_eq_getElem (by have := HLN.out; omega)⟩
      have HTK := Lib.hid (HL5.out.take k (by omega))
      obtain ⟨b, off, rfl, _, hb, hc, hyi⟩ := HL5.out.at hy
      have e : lits.drop k = l :: lits.drop (k + 1) := by
        obtain ⟨hlt, he⟩ := List.getElem?_eq_some_iff.1 hy
        rw [List.drop_eq_getElem_cons hlt, he]
      have e2 : lits.take (k + 1) = lits.take k ++ [l] := by
        obtain ⟨hlt, he⟩ := List.getElem?_eq_some_iff.1 hy
        rw [List.take_succ_eq_append_getElem hlt, he]
      have HI : Hid (D = if l = 0 ∨ (V : Int) < l ∨ l < -(V : Int) then 3 else if (lits.take k).contains l = true ∨ (lits.take k).contains (-l) = true then 8 else dupGo V (lits.take (k + 1)) (lits.drop (k + 1))) := Lib.hid (by rw [hinv.out, e, dupGo, e2])
      have hyl : -9223372036854775808 ≤ l ∧ l ≤ 9223372036854775807 := hyi
      clear e e2 hinv hy
      by_cases hbad : l = 0 ∨ (V : Int) < l ∨ l < -(V : Int)
      · have HMF : Hid (D = 3) := Lib.hid (by rw [HI.out, if_pos hbad])
        by_cases hl0 : l = 0
        · subst hl0
          clear hbad
          go_wp2
          go_meet
          exact ⟨by rw [HMF.out], rfl⟩
        have hne : (l == 0) = false := by simp [hl0]
        by_cases hl1 : (V : Int) < l
        · clear hbad hl0
          go_wp2
          go_meet
          exact ⟨by rw [HMF.out], rfl⟩
        · have hl2 : l < -(V : Int) := by omega
          clear hbad hl0
          go_wp2
          go_meet
          exact ⟨by rw [HMF.out], rfl⟩
      have hne : (l == 0) = false := by rw [beq_eq_false_iff_ne]; omega
      have hlV : l ≤ (V : Int) ∧ -(V : Int) ≤ l := by omega
      have HI2 : Hid (D = if (lits.take k).contains l = true ∨ (lits.take k).contains (-l) = true then 8 else dupGo V (lits.take (k + 1)) (lits.drop (k + 1))) := Lib.hid (by rw [HI.out, if_neg hbad])
      have hkl : (k : Int) ≤ ln := by omega
      have hklc : k ≤ lc := by omega
      clear hbad HI
      obtain ⟨c1, hc1⟩ : ∃ c, (lits.take k).contains l = c := ⟨_, rfl⟩
      obtain ⟨c2, hc2⟩ : ∃ c, (lits.take k).contains (-l) = c := ⟨_, rfl⟩
      have hC1 := contains_any G _ (lits.take k) l wr HTK.out hyi
      have hC2 := contains_any G _ (lits.take k) (-l) wr HTK.out (by unfold I64; omega)
      rw [hc1] at hC1 HI2
      rw [hc2] at hC2 HI2
      have HC1 := Lib.hid hC1
      have HC2 := Lib.hid hC2
      clear hc1 hc2 hC1 hC2
      rcases bool2 c1 with rfl | rfl
      · have HMF : Hid (D = 8) := Lib.hid (by rw [HI2.out]; simp)
        go_wp2_with fail
        refine HC1.out.mono ?_
        rintro e w' ⟨rfl, rfl⟩
        go_wp2_with fail
        go_meet
        exact ⟨by rw [HMF.out], rfl⟩
      · rcases bool2 c2 with rfl | rfl
        · have HMF : Hid (D = 8) := Lib.hid (by rw [HI2.out]; simp)
          go_wp2_with fail
          refine HC1.out.mono ?_
          rintro e w' ⟨rfl, rfl⟩
          go_wp2_with fail
          refine HC2.out.mono ?_
          rintro e w' ⟨rfl, rfl⟩
          go_wp2_with fail
          go_meet
          exact ⟨by rw [HMF.out], rfl⟩
        · have HMF : Hid (D = dupGo V (lits.take (k + 1)) (lits.drop (k + 1))) := Lib.hid (by rw [HI2.out]; simp)
          go_wp2_with fail
          refine HC1.out.mono ?_
          rintro e w' ⟨rfl, rfl⟩
          go_wp2_with fail
          refine HC2.out.mono ?_
          rintro e w' ⟨rfl, rfl⟩
          go_wp2_with fail
          go_roundg (gk - 1)
          case measure => omega
          case rel => exact ⟨k + 1, by omega, by go_num, rfl, rfl, HMF⟩
    · have hk : ln ≤ k := by omega
      have HMF : Hid (D = 0) := Lib.hid (by rw [hinv.out, List.drop_eq_nil_of_le (by have := HLN.out; omega)]; rfl)
      go_wp2
      go_meet
      exact ⟨by rw [HMF.out], rfl⟩
    -- unfold
  case rest =>
  obtain ⟨rfl, rfl⟩ := hcut
  by_cases hD0 : D = 0
  case neg =>
    have hn := HNO.out hD0
    injection hn with hn
    simp only [Array.mk.injEq, List.cons.injEq, and_true, Value.int.injEq, true_and, Value.slice.injEq] at hn
    obtain ⟨rfl, rfl, rfl, rfl⟩ := hn
    have hne : (D != 0) = true := by simp [hD0]
    clear hD0
    go_wp2
    go_ret
    exact ⟨by simp, HB5.out⟩
  obtain ⟨qv, hq, hqp⟩ := HYE5.out hD0
  injection hq with hq
  simp only [Array.mk.injEq, List.cons.injEq, and_true, Value.int.injEq, true_and] at hq
  obtain ⟨rfl, rfl⟩ := hq
  have hlo := HLO.out hD0
  have hgn : gn = ps.length := by rw [hqp.len.1, HQ.out]; simp
  have hgp : gn = pn := by rw [hgn, HPN.out]
  have hwq := cond_wf lits HCK.out
  rw [← HQ.out] at hwq
  have hckq : checkL ⟨V, qs⟩ = 0 := by
    rw [← check_eq]
    have := condM_checked ⟨V, ps⟩ lits HCK.out
    have h2 : condM ⟨V, ps⟩ lits = ⟨V, qs⟩ := by rw [HQ.out]; unfold condM; simp
    rwa [h2] at this
  have hcq := check_any _ V _ qs wc hqp hv
  rw [hckq] at hcq
  have HCQ := Lib.hid hcq
  have HQP := Lib.hid hqp
  have HLOK := Lib.hid hlo
  have HGN := Lib.hid hgn
  have HWQ := Lib.hid hwq
  subst hgp hD0
  clear hcq hckq hqp hlo hgn hwq
  go_wp2_with fail
  refine HCQ.out.mono ?_
  rintro e w6 ⟨rfl, hb6⟩
  have g0 := below_c hb6 (by omega) f0
  have g1 := below_c hb6 (by omega) f1
  have k0 := below_c hb6 hNs n0
  have k1 := below_c hb6 hNs n1
  have hN6 : N < w6.heap.size := by have := hb6.size; omega
  have HB6 : Hid (Below w.heap.size w w6) := Lib.hid (HB5.out.trans (hb6.mono (by omega)))
  have HP6 := Lib.hid (HP5.out.below hb6)
  have HL6 := Lib.hid (HL5.out.below hb6)
  have HQ6 := Lib.hid (HQP.out.below hb6)
  obtain ⟨K, hK⟩ : ∃ K : Nat, 2 ^ V = K := ⟨_, rfl⟩
  have hK256 : K ≤ 256 := by rw [← hK]; exact Nat.le_trans (Nat.pow_le_pow_right (by decide) hV8) (by decide)
  have hKw : wrap64 ((2 : Int) ^ V) = (K : Int) := by
    rw [show (2 : Int) ^ V = ((2 ^ V : Nat) : Int) by simp, hK]
    exact IntWalk.wrap64_in _ ⟨by omega, by omega⟩
  have hinfo : (Try.prog.info? 4).map (fun i => (i.zero, i.size, i.bytes)) = some (some (.bool false), 1, 1) := by kernel_rfl
  have HI := Lib.hid hinfo
  clear hb6 f0 f1 n0 n1 hNs HCQ HYE5 HNO HLO HD HP5 HL5 HQP HB5 hinfo hK
  go_upto_block 2 with fail
  rw [hKw]
  clear hKw
  go_wp2
  go_loopg [109] K (fun g u109 wx => ∃ (k : Nat), k + g = K ∧ u109 = .int .i64 k ∧ Hid (Below w6.heap.size w6 wx))
  case atStart => exact ⟨0, by omega, rfl, Lib.hid (Below.refl _ _)⟩
  case round =>
  obtain ⟨GK, hGK⟩ : ∃ G, G = gk := ⟨_, rfl⟩
  subst hGK
  obtain ⟨k, hkg, rfl, HBX⟩ := hrel
  have hsx := HBX.out.size
  have x0 := below_c HBX.out (by omega) g0
  have x1 := below_c HBX.out (by omega) g1
  have y0 := below_c HBX.out hN6 k0
  have y1 := below_c HBX.out hN6 k1
  have HBR : Hid (Below w.heap.size w wr) := Lib.hid (HB6.out.trans (HBX.out.mono (by omega)))
  by_cases hlt : k < K
  case neg =>
    have hk : K ≤ k := by omega
    clear hlt
    go_wp2
    go_ret
    exact ⟨rfl, HBR.out⟩
  go_wp2_with fail
  refine (assign_any V k _ (by omega) (by omega)).mono ?_
  rintro e w7 ⟨iv, rfl, hib, hb7⟩
  obtain ⟨ia, iN, ic, rfl, HIN⟩ : ∃ a n c, iv = .slice a n c ∧ Hid (n = V) := by
    obtain ⟨a, c, h, _⟩ := hib.form
    exact ⟨a, _, c, h, Lib.hid (assM_len V k)⟩
  have hiV : iN = V := HIN.out
  subst hiV
  have a0 := below_c hb7 (by omega) x0
  have a1 := below_c hb7 (by omega) x1
  have b0 := below_c hb7 (by omega) y0
  have b1 := below_c hb7 (by omega) y1
  have hs7 := hb7.size
  have HB7 : Hid (Below w6.heap.size w6 w7) := Lib.hid (HBX.out.trans (hb7.mono (by omega)))
  have HBW7 : Hid (Below w.heap.size w w7) := Lib.hid (HBR.out.trans (hb7.mono (by omega)))
  obtain ⟨inp, hinp⟩ : ∃ inp, assM iN k = inp := ⟨_, rfl⟩
  rw [hinp] at hib
  have hilen : inp.length = iN := by rw [← hinp, assM_len]
  have HIL := Lib.hid hilen
  have hbn : Below w7.heap.size w7 (w7.alloc (.cells #[] 4)) := (Below.refl _ _).alloc (Nat.le_refl _) _
  have hown0 : (w7.alloc (.cells #[] 4)).ownsRow w7.heap.size 4 1 (.slice (some ⟨w7.heap.size, 0, none⟩) 0 0) 0 [] := by
    simpa using own_new (base := w7.heap.size) (w := w7) #[] 4 (Nat.le_refl _) (by simp)
  have HIB := Lib.hid (hib.lt.mono (G := fun b => b < w7.heap.size) fun _ h => h.2)
  have HIS : Hid (Sl1 (fun _ => True) (w7.alloc (.cells #[] 4)) (.slice ia iN ic) (inp.map .bool)) := Lib.hid (Sl1.mono (HIB.out.below hbn) fun _ _ => trivial)
  have HBN := Lib.hid hbn
  clear hinp hilen hb7 x0 x1 y0 y1 hib hbn
  go_upto_region 24 with (at_builtin; go_loud (refine wpList_pushAll rfl _ _ 29 rfl 4 (.bool false) 1 Try.underlying29 HI.out rfl w7.heap.size (.slice (some ⟨w7.heap.size, 0, none⟩) 0 0) 0 [] _ (fun _ => True) ia iN ic _ rfl rfl hown0 HIS.out (bools_oneCell _) (by omega) (by omega) (by simp) ?_); intro cv w8 hown8 hg8 _; have HO8 := Lib.hid hown8; have HG8 := Lib.hid hg8; clear hown8 hg8 hown0)
  have hb8 : Below w7.heap.size w7 w8 := HBN.out.grown HG8.out (by simp) fun k hk => by simp [Value.ownBlock] at hk; omega
  have a0' := below_c hb8 (by omega) a0
  have a1' := below_c hb8 (by omega) a1
  have b0' := below_c hb8 (by omega) b0
  have b1' := below_c hb8 (by omega) b1
  have hs8 := hb8.size
  have HB8 : Hid (Below w6.heap.size w6 w8) := Lib.hid (HB7.out.trans (hb8.mono (by omega)))
  have HIB8 := Lib.hid (HIB.out.below hb8)
  have HO9 : Hid (w8.ownsRow w7.heap.size 4 1 cv iN (inp.map .bool)) := Lib.hid (by have := HO8.out; rwa [List.nil_append, Nat.zero_add] at this)
  obtain ⟨chg, hch⟩ : ∃ c, chGo lits inp = c := ⟨_, rfl⟩
  have HCH : Hid (chg = chGo (lits.drop 0) inp) := Lib.hid (by rw [← hch]; rfl)
  have HCE := Lib.hid hch
  clear hb8 a0 a1 b0 b1 HO8 HG8 HIS HBN hch HIB
  have hlo := HLOK.out
  have HL8 := Lib.hid (HL6.out.below HB8.out)
  go_wp2
  go_loopg [121] ln (fun g u121 wx => ∃ (j : Nat) (cg : List Bool), j + g = ln ∧ u121 = .int .i64 j ∧ Hid (chg = chGo (lits.drop j) cg) ∧ Hid (wx.ownsRow w7.heap.size 4 1 cv iN (cg.map .bool)) ∧ Hid (Below w7.heap.size w8 wx))
  case atStart => exact ⟨0, _, by omega, rfl, HCH, HO9, Lib.hid (Below.refl _ _)⟩
  case round =>
  obtain ⟨j, cg, hjg, rfl, hinv, HOX, HBJ⟩ := hrel
  have HBA : Hid (Below w6.heap.size w6 wr) := Lib.hid (HB8.out.trans (HBJ.out.mono (by omega)))
  by_cases hlt2 : j < ln
  ·
    -- fold
    obtain ⟨l, hy⟩ : ∃ y, lits[j]? = some y := ⟨_, List.getElem?_eq_getElem (by have := HLN.out; omega)⟩
    have hlo2 := hlo l (List.mem_of_getElem? hy)
    obtain ⟨b, off, rfl, _, hb, hc, hyi⟩ := (HL6.out.below HBA.out).at hy
    have e : lits.drop j = l :: lits.drop (j + 1) := by
      obtain ⟨hlt, he⟩ := List.getElem?_eq_some_iff.1 hy
      rw [List.drop_eq_getElem_cons hlt, he]
    have HMN : Hid (chg = chGo (lits.drop (j + 1)) (cg.set (l.natAbs - 1) (decide (0 < l)))) := Lib.hid (by rw [hinv.out, e]; rfl)
    have hls : l ≠ 0 ∧ -(iN : Int) ≤ l ∧ l ≤ iN := hlo2
    clear e hinv hlo hlo2 hy
    by_cases hpos : 0 < l
    · obtain ⟨L, rfl⟩ : ∃ L : Nat, l = (L : Int) + 1 := ⟨l.toNat - 1, by omega⟩
      have hLi : L < iN := by omega
      obtain ⟨g3, cap3, _, rfl, _, _, _, _⟩ := own_any .bool HOX.out hLi
      obtain ⟨_, _, hcell, hfz, hg1, hg2, hset⟩ := own_at .bool HOX.out hLi
      have HMM : Hid (chg = chGo (lits.drop (j + 1)) (cg.set L true)) := Lib.hid (by
        have e1 : ((L : Int) + 1).natAbs - 1 = L := by omega
        have e2 : decide ((0 : Int) < (L : Int) + 1) = true := by rw [decide_eq_true_eq]; omega
        rw [HMN.out, e1, e2])
      have HRW := Lib.hid (hset true)
      clear hset HMN hls
      go_wp2
      go_roundg (gk - 1)
      case measure => omega
      case rel => exact ⟨j + 1, _, by omega, by go_num, HMM, HRW, Lib.hid (HBJ.out.setCell (by show w7.heap.size ≤ g3; omega) _)⟩
    · obtain ⟨L, rfl⟩ : ∃ L : Nat, l = -((L : Int) + 1) := ⟨(-l).toNat - 1, by omega⟩
      have hLi : L < iN := by omega
      obtain ⟨g3, cap3, _, rfl, _, _, _, _⟩ := own_any .bool HOX.out hLi
      obtain ⟨_, _, hcell, hfz, hg1, hg2, hset⟩ := own_at .bool HOX.out hLi
      have HMM : Hid (chg = chGo (lits.drop (j + 1)) (cg.set L false)) := Lib.hid (by
        have e1 : (-((L : Int) + 1)).natAbs - 1 = L := by omega
        have e2 : decide ((0 : Int) < -((L : Int) + 1)) = false := by rw [decide_eq_false_iff_not]; omega
        rw [HMN.out, e1, e2])
      have HRW := Lib.hid (hset false)
      clear hset HMN hls hpos
      go_wp2
      go_roundg (gk - 1)
      case measure => omega
      case rel => exact ⟨j + 1, _, by omega, by go_num, HMM, HRW, Lib.hid (HBJ.out.setCell (by show w7.heap.size ≤ g3; omega) _)⟩
    -- unfold
  · have hjl : j = ln := by omega
    have HMF : Hid (chg = cg) := Lib.hid (by rw [hinv.out, List.drop_eq_nil_of_le (by have := HLN.out; omega)]; rfl)
    have hx0 := below_c HBA.out (by omega) g0
    have hx1 := below_c HBA.out (by omega) g1
    have hx2 := below_c HBA.out hN6 k0
    have hx3 := below_c HBA.out hN6 k1
    have hsr : w.heap.size < wr.heap.size ∧ N < wr.heap.size := by have := HBA.out.size; omega
    have HPR := Lib.hid (HP6.out.below HBA.out)
    have HQR := Lib.hid (HQ6.out.below HBA.out)
    have HIR : Hid (Bools (fun _ => True) wr (.slice ia iN ic) inp) := Lib.hid ((HIB8.out.move fun b hb hlt => HBJ.out.block b hb).mono fun _ _ => trivial)
    have hcgl : cg.length = iN := by have := HOX.out.1; simpa using this
    obtain ⟨ca, cc, rfl⟩ : ∃ a c, cv = .slice a iN c := by
      obtain ⟨a, c, h, _⟩ := (show Bools (fun _ => True) wr cv cg from (ownsRow_sl1 HOX.out (by omega)).mono fun _ _ => trivial).form
      exact ⟨a, c, by rw [h, hcgl]⟩
    have HCR : Hid (Bools (fun _ => True) wr (.slice ca iN cc) cg) := Lib.hid ((ownsRow_sl1 HOX.out (by omega)).mono fun _ _ => trivial)
    have heq : evalM qs inp = evalM ps cg := by
      rw [HQ.out, ← HMF.out, ← HCE.out]
      exact eval_cond (fixed_by lits hlo HIL.out) (by have := sh_of_checkedM _ HCK.out; simpa using this.1)
    obtain ⟨X, hX⟩ : ∃ X, evalM ps cg = X := ⟨_, rfl⟩
    have hA : ∀ w', Below wr.heap.size wr w' → Calls Try.prog 15 #[.agg #[.int .i64 iN, .slice ga gn gc], .slice ia iN ic] w' fun e w'' => e = .returned (.bool X) ∧ Below w'.heap.size w' w'' := fun w' hb => by
      have := holds_any iN _ _ qs inp w' (HQR.out.below hb) (HIR.out.below hb) (by have := HGN.out; have := HQR.out.len.1; omega) (by have := HGN.out; have := HQR.out.len.1; omega) (by rw [HIL.out]; exact HWQ.out) (by rw [HIL.out]; omega)
      rwa [heq, hX] at this
    have hB : ∀ w', Below wr.heap.size wr w' → Calls Try.prog 15 #[.agg #[.int .i64 iN, .slice pa gn pc], .slice ca iN cc] w' fun e w'' => e = .returned (.bool X) ∧ Below w'.heap.size w' w'' := fun w' hb => by
      have := holds_any iN _ _ ps cg w' (HPR.out.below hb) (HCR.out.below hb) (by omega) (by omega) (by rw [hcgl]; have := valid_of HCK.out; simpa using this.2.2.2.2) (by omega)
      rwa [hX] at this
    have HA := Lib.hid hA
    have HBB := Lib.hid hB
    clear hinv hjl heq hX hA hB hcgl
    go_upto_region 29 with fail
    go_cut [141] (fun u wx => u = .bool false ∧ Hid (Below wr.heap.size wr wx))
    case first =>
      go_region_held3 (fun w' => w'.cell? ⟨w.heap.size, 0, none⟩ = some (.int .i64 iN) ∧ w'.cell? ⟨w.heap.size, 1, none⟩ = some (.slice pa gn pc) ∧ w'.cell? ⟨N, 0, none⟩ = some (.int .i64 iN) ∧ w'.cell? ⟨N, 1, none⟩ = some (.slice ga gn gc) ∧ Hid (Below wr.heap.size wr w'))
        (first | exact ⟨hx0, hx1, hx2, hx3, Lib.hid (Below.refl _ _).drew⟩ | exact ⟨below_c hbz (by omega) hx0, below_c hbz (by omega) hx1, below_c hbz (by omega) hx2, below_c hbz (by omega) hx3, Lib.hid hbz⟩ | exact ⟨below_c hbz2 (by omega) hx0, below_c hbz2 (by omega) hx1, below_c hbz2 (by omega) hx2, below_c hbz2 (by omega) hx3, Lib.hid hbz2⟩)
        (first
          | (go_at_call 15; (with_reducible refine (HA.out _ ((Below.refl _ _).drew)).mono ?_); rintro e wz ⟨rfl, hbz'⟩; have hbz : Below wr.heap.size wr wz := ((Below.refl _ _).drew).trans (hbz'.mono (by simp)))
          | (go_at_call 15; (with_reducible refine (HBB.out _ hbz).mono ?_); rintro e wz2 ⟨rfl, hbz2'⟩; have hbz2 : Below wr.heap.size wr wz2 := hbz.trans (hbz2'.mono hbz.size)))
      all_goals
        go_wp2_with fail
        go_meet
        exact ⟨by simp, Lib.hid hbz2⟩
    case rest =>
    obtain ⟨rfl, HBZ⟩ := hcut
    go_wp2_with fail
    go_roundg (GK - 1)
    case measure => omega
    case rel => exact ⟨k + 1, by omega, by go_num, Lib.hid (HBA.out.trans (HBZ.out.mono (by have := HBA.out.size; omega)))⟩
end Go.Proofs.Ytljljagkccmogaa
