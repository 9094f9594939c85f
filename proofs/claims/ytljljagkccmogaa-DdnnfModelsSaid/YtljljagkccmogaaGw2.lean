/- Walks: Least, the law DdnnfModels. -/
import Derived.Test.YtljljagkccmogaaGw1
import Derived.Test.YtljljagkccmogaaCw5
namespace Go.Proofs.Ytljljagkccmogaa
open Go.ChangeShapes Go.WideShapes Go.ChangeAt Go.RowKit
set_option linter.unusedVariables false

def leastC (V : Nat) (ps : List Part) : Int := if Cn V (evalM ps) = 0 then 11 else 0

set_option maxRecDepth 100000 in
set_option maxHeartbeats 4000000 in
theorem least_any {F : Nat → Prop} (V : Nat) (pv : Value) (ps : List Part) (w : World) (hp : Parts F w pv ps) (h0 : (checkedM ⟨V, ps⟩).1 = 0) (hks : ∀ p ∈ ps, p.kids.length ≤ 16384) :
    Calls Try.prog 26 #[.agg #[.int .i64 V, pv]] w (NthPost w (leastC V ps) (nthGo (evalM ps) V [] 0)) := by
  obtain ⟨pa, pn, pc, rfl, HPN⟩ : ∃ a n c, pv = .slice a n c ∧ Hid (n = ps.length) := by
    obtain ⟨a, c, h1, h2⟩ := hp.form
    exact ⟨a, _, c, h1, rfl⟩
  have hV40 := (sh_of_checkedM _ h0).2.2.1
  simp only at hV40
  have hbel : Below w.heap.size w (w.alloc (.cells #[.int .i64 V, .slice pa pn pc] 24)) := (Below.refl _ _).alloc (Nat.le_refl _) _
  have hnt := nth_any V _ ps 0 _ (hp.below hbel) h0 hks (by unfold I64; omega)
  have hck := fun wx (h : Parts F wx (.slice pa pn pc) ps) => Check_any F V _ ps wx h (by unfold I64; omega)
  rw [h0] at hck
  obtain ⟨R, hR⟩ : ∃ R, nthGo (evalM ps) V [] 0 = R := ⟨_, rfl⟩
  rw [show (0 : Int).toNat = 0 from rfl, hR] at hnt
  rw [hR]
  obtain ⟨c, hc⟩ : ∃ c, nthC V ps 0 = c := ⟨_, rfl⟩
  rw [hc] at hnt
  obtain ⟨d, hd⟩ : ∃ d, leastC V ps = d := ⟨_, rfl⟩
  rw [hd]
  have HCD : Hid ((c = 3 ∧ d = 11) ∨ (c = 0 ∧ d = 0)) := Lib.hid (by
    rw [← hc, ← hd]
    unfold nthC leastC
    by_cases h : Cn V (evalM ps) = 0
    · left; rw [if_pos h, if_pos (by omega)]; exact ⟨rfl, rfl⟩
    · right; rw [if_neg h, if_neg (by omega)]; exact ⟨rfl, rfl⟩)
  have HNT := Lib.hid hnt
  have HCK := Lib.hid hck
  have HB := Lib.hid hbel
  have HP := Lib.hid (hp.below hbel)
  clear hnt hck hR hc hd hbel hp hks h0
  rcases HCD.out with ⟨rfl, rfl⟩ | ⟨rfl, rfl⟩
  · clear HCD
    go_enter Try.func26, Try.ntmps26
    go_wp2_with fail
    refine HNT.out.mono ?_
    rintro e w1 ⟨v, rfl, hb1, hno, _⟩
    have hv := hno (by decide)
    subst hv
    have c0 := below_c hb1 (show w.heap.size < _ by simp) (o := 0) (v := .int .i64 V) (by simp)
    have c1 := below_c hb1 (show w.heap.size < _ by simp) (o := 1) (v := .slice pa pn pc) (by simp)
    have HB1 : Hid (Below w.heap.size w w1) := Lib.hid (HB.out.trans (hb1.mono (by simp)))
    have HP1 := Lib.hid (HP.out.below hb1)
    clear hb1 hno
    go_wp2_with fail
    refine (HCK.out _ HP1.out).mono ?_
    rintro e w2 ⟨rfl, hb2⟩
    have HB2 : Hid (Below w.heap.size w w2) := Lib.hid (HB1.out.trans (hb2.mono HB1.out.size))
    clear hb2
    go_wp2_with fail
    go_ret2
    exact ⟨_, rfl, HB2.out, fun _ => rfl, fun h => absurd h (by decide)⟩
  · clear HCD
    go_enter Try.func26, Try.ntmps26
    go_wp2_with fail
    refine HNT.out.mono ?_
    rintro e w1 ⟨v, rfl, hb1, _, hyes⟩
    have HY := Lib.hid (hyes rfl)
    have HB1 : Hid (Below w.heap.size w w1) := Lib.hid (HB.out.trans (hb1.mono (by simp)))
    clear hb1 hyes
    go_wp2_with fail
    go_ret2
    exact ⟨_, rfl, HB1.out, fun h => absurd rfl h, fun _ => HY.out⟩

set_option maxRecDepth 100000 in
set_option maxHeartbeats 8000000 in
theorem models_walk {F : Nat → Prop} (vars : Int) (pv : Value) (ps : List Part) (n : Int) (w : World) (hp : Parts F w pv ps) (hv : I64 vars) (hn : I64 n) :
    Calls Try.prog 7 #[.agg #[.int .i64 vars, pv], .int .i64 n] w fun e w' => e = .returned (.bool true) ∧ Below w.heap.size w w' := by
  obtain ⟨pa, pn, pc, rfl, HPN⟩ : ∃ a n c, pv = .slice a n c ∧ Hid (n = ps.length) := by
    obtain ⟨a, c, h1, h2⟩ := hp.form
    exact ⟨a, _, c, h1, rfl⟩
  have hbel : Below w.heap.size w (w.alloc (.cells #[.int .i64 vars, .slice pa pn pc] 24)) := (Below.refl _ _).alloc (Nat.le_refl _) _
  have HB := Lib.hid hbel
  have HP := Lib.hid (hp.below hbel)
  have HN := Lib.hid hn
  clear hbel hp hn
  go_enter Try.func7, Try.ntmps7
  go_wp2_with fail
  refine (known_any _).mono ?_
  rintro e w1 ⟨rfl, hb1⟩
  have c0 := below_c hb1 (show w.heap.size < _ by simp) (o := 0) (v := .int .i64 vars) (by simp)
  have c1 := below_c hb1 (show w.heap.size < _ by simp) (o := 1) (v := .slice pa pn pc) (by simp)
  have HB1 : Hid (Below w.heap.size w w1) := Lib.hid (HB.out.trans (hb1.mono (by simp)))
  have HP1 := Lib.hid (HP.out.below hb1)
  have hs1 := block_lt c0
  clear hb1 HP HB
  go_wp2_with fail
  refine (fit_any F vars _ ps _ HP1.out hv).mono ?_
  rintro e w2 ⟨rfl, hb2⟩
  have d0 := below_c hb2 hs1 c0
  have d1 := below_c hb2 hs1 c1
  have HB2 : Hid (Below w.heap.size w w2) := Lib.hid (HB1.out.trans (hb2.mono HB1.out.size))
  have HP2 := Lib.hid (HP1.out.below hb2)
  have hs2 := block_lt d0
  clear hb2 c0 c1 HP1 HB1 hs1
  rcases hf : fitB ⟨vars, ps⟩ with _ | _
  · go_wp2_with fail
    go_ret
    exact ⟨rfl, HB2.out⟩
  obtain ⟨hck, hv0, hv8, hkd, hp0, hp60⟩ := fit_of hf
  obtain ⟨V, rfl⟩ := Int.eq_ofNat_of_zero_le hv0
  have hV8 : V ≤ 8 := by omega
  have hkd2 : ∀ p ∈ ps, p.kids.length ≤ 16384 := fun p hp => by have := hkd p hp; omega
  have hwf := (valid_of hck).2.2.2.2
  rw [Int.toNat_natCast] at hwf
  have hmo := models_any V _ ps w2 HP2.out hV8 hp0 hp60 hwf
  have hml := models_len V ps
  have hnt := fun wx (h : Parts F wx (.slice pa pn pc) ps) => nth_any V _ ps n wx h hck hkd2 HN.out
  have hle := fun wx (h : Parts F wx (.slice pa pn pc) ps) => least_any V _ ps wx h hck hkd2
  have hne := fun (k : Nat) (m : List Bool) (h : (modelsM V ps)[k]? = some m) => nth_eq h
  have hnc : nthC V ps n = if n < 0 ∨ (((modelsM V ps).length : Nat) : Int) ≤ n then 3 else 0 := by rw [hml]; rfl
  have hlc : leastC V ps = if (modelsM V ps).length = 0 then 11 else 0 := by rw [hml]; rfl
  have h256 : (modelsM V ps).length ≤ 256 := by
    rw [hml]
    exact Nat.le_trans (Cn_le _ _) (Nat.le_trans (Nat.pow_le_pow_right (by decide) hV8) (by decide))
  rw [hnc] at hnt
  rw [hlc] at hle
  obtain ⟨MS, hMS⟩ : ∃ MS, modelsM V ps = MS := ⟨_, rfl⟩
  rw [hMS] at hmo hnt hle hne h256
  have HMO := Lib.hid hmo
  have HNT := Lib.hid hnt
  have HLE := Lib.hid hle
  have HNE := Lib.hid hne
  clear hmo hml hnt hle hne hnc hlc hMS hwf hkd hkd2 hck hf
  go_wp2_with fail
  refine HMO.out.mono ?_
  rintro e w3 ⟨av, rfl, har, hb3⟩
  have e0 := below_c hb3 hs2 d0
  have e1 := below_c hb3 hs2 d1
  have HB3 : Hid (Below w.heap.size w w3) := Lib.hid (HB2.out.trans (hb3.mono HB2.out.size))
  have HP3 := Lib.hid (HP2.out.below hb3)
  have hs3 := block_lt e0
  obtain ⟨aa, an, ac, rfl, HAN, han⟩ : ∃ a n c, av = .slice a n c ∧ Hid (n = MS.length) ∧ n ≤ 256 := by
    obtain ⟨a, c, h, _⟩ := har.form
    exact ⟨a, _, c, h, rfl, h256⟩
  have HAR := Lib.hid har
  clear hb3 d0 d1 HP2 HB2 hs2 har HMO h256
  have hnt := HNT.out w3 HP3.out
  rw [← HAN.out] at hnt
  obtain ⟨nc, hnc⟩ : ∃ nc : Int, (if n < 0 ∨ (an : Int) ≤ n then (3 : Int) else 0) = nc := ⟨_, rfl⟩
  rw [hnc] at hnt
  have HNC := Lib.hid hnc
  have HN3 := Lib.hid hnt
  clear hnt hnc
  go_wp2_with fail
  refine HN3.out.mono ?_
  rintro e w4 ⟨v, rfl, hb4, hno, hyes⟩
  have f0 := below_c hb4 hs3 e0
  have f1 := below_c hb4 hs3 e1
  have HB4 : Hid (Below w.heap.size w w4) := Lib.hid (HB3.out.trans (hb4.mono HB3.out.size))
  have HP4 := Lib.hid (HP3.out.below hb4)
  have HAR4 : Hid (Rows1 Bools (fun _ => True) w4 (.slice aa an ac) MS) := Lib.hid (HAR.out.move (fun F w w' v x h hm => Bools.move h hm) fun b _ hlt => hb4.block b hlt)
  have hs4 := block_lt f0
  have HNO := Lib.hid hno
  have HYES := Lib.hid hyes
  clear hb4 e0 e1 HP3 HB3 hs3 HAR hno hyes HN3
  -- the second half, whatever world
  have hrest : ∀ wx, Below w4.heap.size w4 wx → Calls Try.prog 26 #[.agg #[.int .i64 V, .slice pa pn pc]] wx (NthPost wx (if MS.length = 0 then 11 else 0) (nthGo (evalM ps) V [] 0)) := fun wx hb => HLE.out wx (HP4.out.below hb)
  have HREST := Lib.hid hrest
  clear hrest
  have hnI : -9223372036854775808 ≤ n ∧ n ≤ 9223372036854775807 := HN.out
  have hmain : (n < 0 ∨ (an : Int) ≤ n) ∨ (0 ≤ n ∧ n < (an : Int)) := by omega
  have HMAIN := Lib.hid hmain
  clear hmain
  -- the test's outcome
  obtain ⟨t0, ht0⟩ : ∃ t, decide (n < 0) = t := ⟨_, rfl⟩
  obtain ⟨t1, ht1⟩ : ∃ t, decide ((an : Int) ≤ n) = t := ⟨_, rfl⟩
  have HT0 := Lib.hid ht0
  have HT1 := Lib.hid ht1
  have hcase : (t0 = true) ∨ (t0 = false ∧ t1 = true) ∨ (t0 = false ∧ t1 = false) := by cases t0 <;> cases t1 <;> simp
  clear ht0 ht1
  rcases hcase with rfl | ⟨rfl, rfl⟩ | ⟨rfl, rfl⟩
  · have hh0 := HT0.out
    have hh1 := HT1.out
    go_upto_if 28 with fail
    go_cut [] (fun wx => Hid (Below w4.heap.size w4 wx))
    case first =>
      have hnc : nc = 3 := by rw [← HNC.out, if_pos (by left; simpa using hh0)]
      have hv := HNO.out (by rw [hnc]; decide)
      subst hv hnc
      go_wp2
      go_meet
      exact Lib.hid (Below.refl _ _)
    case rest =>
      have HBX := hcut
      have g0 := below_c HBX.out hs4 f0
      have g1 := below_c HBX.out hs4 f1
      have hsx := HBX.out.size
      have HBW : Hid (Below w.heap.size w wc) := Lib.hid (HB4.out.trans (HBX.out.mono (by omega)))
      have HAX : Hid (Rows1 Bools (fun _ => True) wc (.slice aa an ac) MS) := Lib.hid (HAR4.out.move (fun F w w' v x h hm => Bools.move h hm) fun b _ hlt => HBX.out.block b hlt)
      have hlst := HREST.out wc HBX.out
      clear hh0 hh1 f0 f1
      by_cases hz : MS.length = 0
      · rw [if_pos hz] at hlst
        have HLS := Lib.hid hlst
        have hz2 : ((an : Int) == 0) = true := by have := HAN.out; simp; omega
        clear hz hlst
        go_wp2_with fail
        refine HLS.out.mono ?_
        rintro e w6 ⟨lv, rfl, hb6, hno, _⟩
        have hlv := hno (by decide)
        subst hlv
        have HB6 : Hid (Below w.heap.size w w6) := Lib.hid (HBW.out.trans (hb6.mono HBW.out.size))
        clear hb6 hno
        go_wp2_with fail
        go_ret
        exact ⟨by simp, HB6.out⟩
      · rw [if_neg hz] at hlst
        have HLS := Lib.hid hlst
        have hz2 : ((an : Int) == 0) = false := by have := HAN.out; rw [beq_eq_false_iff_ne]; omega
        obtain ⟨m, hm⟩ : ∃ m, MS[0]? = some m := ⟨_, List.getElem?_eq_getElem (by omega)⟩
        have hnm := HNE.out 0 m hm
        rw [hnm] at hlst
        have HLS := Lib.hid hlst
        have hax := HAX.out
        obtain ⟨ab, aoff, mv, rfl, _, hab, hmc, hmr⟩ := hax.at hm
        rw [Nat.add_zero] at hmc
        have hpos : 0 < an := by have := HAN.out; omega
        have HMR := Lib.hid hmr
        clear hz hlst hm hnm hax hmr
        go_wp2_with fail
        refine HLS.out.mono ?_
        rintro e w6 ⟨lv, rfl, hb6, _, hyes⟩
        have HB6 : Hid (Below w.heap.size w w6) := Lib.hid (HBW.out.trans (hb6.mono HBW.out.size))
        have heq := equalb_any lv mv m m w6 (hyes rfl) (HMR.out.below hb6)
        rw [show (m == m) = true by simp] at heq
        have HEQ := Lib.hid heq
        have hmc6 := below_c hb6 hab hmc
        clear hb6 hyes heq hmc
        go_wp2_with fail
        refine HEQ.out.mono ?_
        rintro e w7 ⟨rfl, nq, rfl⟩
        go_wp2_with fail
        go_ret
        exact ⟨by simp, below_drewN HB6.out _⟩
  · have hh0 := HT0.out
    have hh1 := HT1.out
    go_upto_if 28 with fail
    go_cut [] (fun wx => Hid (Below w4.heap.size w4 wx))
    case first =>
      have hnc : nc = 3 := by rw [← HNC.out, if_pos (by right; simpa using hh1)]
      have hv := HNO.out (by rw [hnc]; decide)
      subst hv hnc
      go_wp2
      go_meet
      exact Lib.hid (Below.refl _ _)
    case rest =>
      have HBX := hcut
      have g0 := below_c HBX.out hs4 f0
      have g1 := below_c HBX.out hs4 f1
      have hsx := HBX.out.size
      have HBW : Hid (Below w.heap.size w wc) := Lib.hid (HB4.out.trans (HBX.out.mono (by omega)))
      have HAX : Hid (Rows1 Bools (fun _ => True) wc (.slice aa an ac) MS) := Lib.hid (HAR4.out.move (fun F w w' v x h hm => Bools.move h hm) fun b _ hlt => HBX.out.block b hlt)
      have hlst := HREST.out wc HBX.out
      clear hh0 hh1 f0 f1
      by_cases hz : MS.length = 0
      · rw [if_pos hz] at hlst
        have HLS := Lib.hid hlst
        have hz2 : ((an : Int) == 0) = true := by have := HAN.out; simp; omega
        clear hz hlst
        go_wp2_with fail
        refine HLS.out.mono ?_
        rintro e w6 ⟨lv, rfl, hb6, hno, _⟩
        have hlv := hno (by decide)
        subst hlv
        have HB6 : Hid (Below w.heap.size w w6) := Lib.hid (HBW.out.trans (hb6.mono HBW.out.size))
        clear hb6 hno
        go_wp2_with fail
        go_ret
        exact ⟨by simp, HB6.out⟩
      · rw [if_neg hz] at hlst
        have HLS := Lib.hid hlst
        have hz2 : ((an : Int) == 0) = false := by have := HAN.out; rw [beq_eq_false_iff_ne]; omega
        obtain ⟨m, hm⟩ : ∃ m, MS[0]? = some m := ⟨_, List.getElem?_eq_getElem (by omega)⟩
        have hnm := HNE.out 0 m hm
        rw [hnm] at hlst
        have HLS := Lib.hid hlst
        have hax := HAX.out
        obtain ⟨ab, aoff, mv, rfl, _, hab, hmc, hmr⟩ := hax.at hm
        rw [Nat.add_zero] at hmc
        have hpos : 0 < an := by have := HAN.out; omega
        have HMR := Lib.hid hmr
        clear hz hlst hm hnm hax hmr
        go_wp2_with fail
        refine HLS.out.mono ?_
        rintro e w6 ⟨lv, rfl, hb6, _, hyes⟩
        have HB6 : Hid (Below w.heap.size w w6) := Lib.hid (HBW.out.trans (hb6.mono HBW.out.size))
        have heq := equalb_any lv mv m m w6 (hyes rfl) (HMR.out.below hb6)
        rw [show (m == m) = true by simp] at heq
        have HEQ := Lib.hid heq
        have hmc6 := below_c hb6 hab hmc
        clear hb6 hyes heq hmc
        go_wp2_with fail
        refine HEQ.out.mono ?_
        rintro e w7 ⟨rfl, nq, rfl⟩
        go_wp2_with fail
        go_ret
        exact ⟨by simp, below_drewN HB6.out _⟩
  · have hh0 := HT0.out
    have hh1 := HT1.out
    go_upto_if 28 with fail
    go_cut [] (fun wx => Hid (Below w4.heap.size w4 wx))
    case first =>
      simp only [decide_eq_false_iff_not] at hh0 hh1
      have hnc : nc = 0 := by rw [← HNC.out, if_neg (by omega)]
      obtain ⟨k, rfl⟩ := Int.eq_ofNat_of_zero_le (show 0 ≤ n by omega)
      have hkl : k < an := by omega
      obtain ⟨m, hm⟩ : ∃ m, MS[k]? = some m := ⟨_, List.getElem?_eq_getElem (by have := HAN.out; omega)⟩
      have hnm := HNE.out k m hm
      have hy := HYES.out hnc
      rw [Int.toNat_natCast, hnm] at hy
      have har := HAR4.out
      obtain ⟨ab, aoff, mv, rfl, _, hab, hmc, hmr⟩ := har.at hm
      have heq := equalb_any v mv m m w4 hy hmr
      rw [show (m == m) = true by simp] at heq
      have HEQ := Lib.hid heq
      have hkz : (0 : Int) ≤ k := by omega
      have hkn : (k : Int) < an := by omega
      subst hnc
      clear heq hy hmr har hm hnm hh0 hh1
      go_wp2_with fail
      refine HEQ.out.mono ?_
      rintro e w7 ⟨rfl, nq, rfl⟩
      go_wp2_with fail
      go_meet
      exact Lib.hid (below_drewN (Below.refl _ _) _)
    case rest =>
      have HBX := hcut
      have g0 := below_c HBX.out hs4 f0
      have g1 := below_c HBX.out hs4 f1
      have hsx := HBX.out.size
      have HBW : Hid (Below w.heap.size w wc) := Lib.hid (HB4.out.trans (HBX.out.mono (by omega)))
      have HAX : Hid (Rows1 Bools (fun _ => True) wc (.slice aa an ac) MS) := Lib.hid (HAR4.out.move (fun F w w' v x h hm => Bools.move h hm) fun b _ hlt => HBX.out.block b hlt)
      have hlst := HREST.out wc HBX.out
      clear hh0 hh1 f0 f1
      by_cases hz : MS.length = 0
      · rw [if_pos hz] at hlst
        have HLS := Lib.hid hlst
        have hz2 : ((an : Int) == 0) = true := by have := HAN.out; simp; omega
        clear hz hlst
        go_wp2_with fail
        refine HLS.out.mono ?_
        rintro e w6 ⟨lv, rfl, hb6, hno, _⟩
        have hlv := hno (by decide)
        subst hlv
        have HB6 : Hid (Below w.heap.size w w6) := Lib.hid (HBW.out.trans (hb6.mono HBW.out.size))
        clear hb6 hno
        go_wp2_with fail
        go_ret
        exact ⟨by simp, HB6.out⟩
      · rw [if_neg hz] at hlst
        have HLS := Lib.hid hlst
        have hz2 : ((an : Int) == 0) = false := by have := HAN.out; rw [beq_eq_false_iff_ne]; omega
        obtain ⟨m, hm⟩ : ∃ m, MS[0]? = some m := ⟨_, List.getElem?_eq_getElem (by omega)⟩
        have hnm := HNE.out 0 m hm
        rw [hnm] at hlst
        have HLS := Lib.hid hlst
        have hax := HAX.out
        obtain ⟨ab, aoff, mv, rfl, _, hab, hmc, hmr⟩ := hax.at hm
        rw [Nat.add_zero] at hmc
        have hpos : 0 < an := by have := HAN.out; omega
        have HMR := Lib.hid hmr
        clear hz hlst hm hnm hax hmr
        go_wp2_with fail
        refine HLS.out.mono ?_
        rintro e w6 ⟨lv, rfl, hb6, _, hyes⟩
        have HB6 : Hid (Below w.heap.size w w6) := Lib.hid (HBW.out.trans (hb6.mono HBW.out.size))
        have heq := equalb_any lv mv m m w6 (hyes rfl) (HMR.out.below hb6)
        rw [show (m == m) = true by simp] at heq
        have HEQ := Lib.hid heq
        have hmc6 := below_c hb6 hab hmc
        clear hb6 hyes heq hmc
        go_wp2_with fail
        refine HEQ.out.mono ?_
        rintro e w7 ⟨rfl, nq, rfl⟩
        go_wp2_with fail
        go_ret
        exact ⟨by simp, below_drewN HB6.out _⟩
end Go.Proofs.Ytljljagkccmogaa
