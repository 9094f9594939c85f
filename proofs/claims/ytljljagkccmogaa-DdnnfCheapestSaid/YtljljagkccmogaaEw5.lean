/- Walk of the law DdnnfCheapest. -/
import Derived.Test.YtljljagkccmogaaEr
namespace Go.Proofs.Ytljljagkccmogaa
open Go.ChangeShapes Go.WideShapes Go.ChangeAt Go.RowKit
set_option linter.unusedVariables false

theorem two_ints {w : World} {base : Nat} {e : TypeId} {v : Value} {n : Nat} {xs ys : List Int} (h : w.ownsRow base e 1 v n ([] ++ xs.map (Value.int .i64) ++ ys.map (Value.int .i64))) (h1 : ∀ x ∈ xs, I64 x) (h2 : ∀ x ∈ ys, I64 x) (hn : n ≤ 9223372036854775807) : Ints (fun _ => True) w v (xs ++ ys) :=
  ⟨by
    have h := ownsRow_sl1 h hn
    rw [List.nil_append, ← List.map_append] at h
    exact h.mono fun _ _ => trivial, fun x hx => by
    rcases List.mem_append.1 hx with h | h
    · exact h1 x h
    · exact h2 x h⟩

set_option maxRecDepth 100000 in
set_option maxHeartbeats 16000000 in
theorem cheapest_walk {F G1 G2 : Nat → Prop} (vars : Int) (pv nv yv : Value) (ps : List Part) (no yes : List Int) (w : World) (hp : Parts F w pv ps) (hn : Ints G1 w nv no) (hy : Ints G2 w yv yes) (hv : I64 vars) :
    Calls Try.prog 9 #[.agg #[.int .i64 vars, pv], nv, yv] w fun e w' => e = .returned (.bool true) ∧ Below w.heap.size w w' := by
  obtain ⟨pa, pn, pc, rfl, HPN⟩ : ∃ a n c, pv = .slice a n c ∧ Hid (n = ps.length) := by
    obtain ⟨a, c, h1, h2⟩ := hp.form
    exact ⟨a, _, c, h1, rfl⟩
  obtain ⟨na, nn, nc, rfl, HNN, hnm⟩ := hn.form'
  obtain ⟨ya, yn, yc, rfl, HYN, hym⟩ := hy.form'
  have hinfo : (Try.prog.info? 3).map (fun i => (i.zero, i.size, i.bytes)) = some (some (.int .i64 0), 1, 8) := by kernel_rfl
  have HI := Lib.hid hinfo
  have hbel : Below w.heap.size w (w.alloc (.cells #[.int .i64 vars, .slice pa pn pc] 24)) := (Below.refl _ _).alloc (Nat.le_refl _) _
  have HB := Lib.hid hbel
  have HP := Lib.hid (hp.below hbel)
  have HN := Lib.hid (hn.below hbel)
  have HY := Lib.hid (hy.below hbel)
  clear hbel hp hn hy hinfo
  go_enter Try.func9, Try.ntmps9
  go_wp2_with fail
  refine (known_any _).mono ?_
  rintro e w1 ⟨rfl, hb1⟩
  have c0 := below_c hb1 (show w.heap.size < _ by simp) (o := 0) (v := .int .i64 vars) (by simp)
  have c1 := below_c hb1 (show w.heap.size < _ by simp) (o := 1) (v := .slice pa pn pc) (by simp)
  have HB1 : Hid (Below w.heap.size w w1) := Lib.hid (HB.out.trans (hb1.mono (by simp)))
  have HP1 := Lib.hid (HP.out.below hb1)
  have HN1 := Lib.hid (HN.out.below hb1)
  have HY1 := Lib.hid (HY.out.below hb1)
  have hs1 := block_lt c0
  clear hb1 HP HN HY HB
  go_wp2_with fail
  refine (fit_any F vars _ ps _ HP1.out hv).mono ?_
  rintro e w2 ⟨rfl, hb2⟩
  have d0 := below_c hb2 hs1 c0
  have d1 := below_c hb2 hs1 c1
  have HB2 : Hid (Below w.heap.size w w2) := Lib.hid (HB1.out.trans (hb2.mono HB1.out.size))
  have HP2 := Lib.hid (HP1.out.below hb2)
  have HN2 := Lib.hid (HN1.out.below hb2)
  have HY2 := Lib.hid (HY1.out.below hb2)
  have hs2 := block_lt d0
  clear hb2 c0 c1 HP1 HN1 HY1 HB1 hs1
  rcases hf : fitB ⟨vars, ps⟩ with _ | _
  · go_wp2_with fail
    go_ret
    exact ⟨rfl, HB2.out⟩
  by_cases hn20 : 20 < nn
  · have h1 : decide ((20 : Int) < nn) = true := by simp; omega
    go_wp2_with fail
    go_ret
    exact ⟨rfl, HB2.out⟩
  have hn20' : decide ((20 : Int) < nn) = false := by simp; omega
  by_cases hy20 : 20 < yn
  · have h1 : decide ((20 : Int) < yn) = true := by simp; omega
    go_wp2_with fail
    go_ret
    exact ⟨rfl, HB2.out⟩
  have hy20' : decide ((20 : Int) < yn) = false := by simp; omega
  have hnl : nn ≤ 20 ∧ yn ≤ 20 := by omega
  clear hn20 hy20
  obtain ⟨hck, hv0, hv8, hkd, hp0, hp60⟩ := fit_of hf
  obtain ⟨V, rfl⟩ := Int.eq_ofNat_of_zero_le hv0
  have hV8 : V ≤ 8 := by omega
  have hche := cheapest_any V _ _ _ ps no yes w2 HP2.out HN2.out HY2.out hck (fun p hp => by have := hkd p hp; omega) (by have := HNN.out; omega) (by have := HYN.out; omega)
  have hwf := (valid_of hck).2.2.2.2
  rw [Int.toNat_natCast] at hwf
  have hmo := fun wx (h : Parts F wx (.slice pa pn pc) ps) => models_any V _ ps wx h hV8 hp0 hp60 hwf
  have hlb := fun h1 h2 => law_best (no := no) (yes := yes) hck h1 h2
  have hmm := fun m (h : m ∈ modelsM V ps) => models_mem h
  have hcz : ∀ (h1 : CostOk V no) (h2 : CostOk V yes), 0 ≤ (cheapV no yes V ps).1 := fun h1 h2 => by
    obtain ⟨_, _, _, hc0, _⟩ := cheap_ok hck h1 h2
    exact hc0
  have h256 : (modelsM V ps).length ≤ 256 := by
    rw [models_len]
    exact Nat.le_trans (Cn_le _ _) (Nat.le_trans (Nat.pow_le_pow_right (by decide) hV8) (by decide))
  obtain ⟨Bv, hBv⟩ : ∃ b, cheapV no yes V ps = b := ⟨_, rfl⟩
  obtain ⟨MS, hMS⟩ : ∃ m, modelsM V ps = m := ⟨_, rfl⟩
  rw [hBv] at hche hlb hcz
  rw [hMS] at hmo hlb hmm h256
  obtain ⟨cst, ok⟩ := Bv
  simp only at hche hlb hcz
  obtain ⟨R, hR⟩ : ∃ R, cgo (evalM ps) (costL no yes 0) cst V [] = R := ⟨_, rfl⟩
  rw [hR] at hche hlb
  obtain ⟨CC, hCC⟩ : ∃ c, chC V no yes ok = c := ⟨_, rfl⟩
  rw [hCC] at hche
  have HCC : Hid (CC = if nn ≠ V ∨ yn ≠ V then 2 else if no.any outB = true ∨ yes.any outB = true then 3 else if ok = false then 11 else 0) := Lib.hid (by rw [← hCC, HNN.out, HYN.out]; rfl)
  have HCHE := Lib.hid hche
  have HMO := Lib.hid hmo
  have HLB := Lib.hid hlb
  have HCZ := Lib.hid hcz
  have HMM := Lib.hid hmm
  clear hche hmo hlb hcz hmm hwf hBv hMS hR hCC hck hkd hf hv0 hv8
  go_wp2_with fail
  refine HCHE.out.mono ?_
  rintro e w3 ⟨zn, mv, rfl, hb3, hno, hyes⟩
  have e0 := below_c hb3 hs2 d0
  have e1 := below_c hb3 hs2 d1
  have HB3 : Hid (Below w.heap.size w w3) := Lib.hid (HB2.out.trans (hb3.mono HB2.out.size))
  have HP3 := Lib.hid (HP2.out.below hb3)
  have HN3 := Lib.hid (HN2.out.below hb3)
  have HY3 := Lib.hid (HY2.out.below hb3)
  have hs3 := block_lt e0
  have HNO := Lib.hid hno
  have HYES := Lib.hid hyes
  clear hb3 d0 d1 HP2 HN2 HY2 HB2 hs2 hno hyes HCHE
  -- the code of the costs
  obtain ⟨C1, hC1⟩ : ∃ c : Int, (if nn ≠ V ∨ yn ≠ V then (2 : Int) else if no.any outB = true ∨ yes.any outB = true then 3 else 0) = c := ⟨_, rfl⟩
  have HC1 := Lib.hid hC1
  clear hC1
  go_upto_region 7 with fail
  obtain ⟨T, hT⟩ : ∃ t, decide (nn ≠ V ∨ yn ≠ V) = t := ⟨_, rfl⟩
  have HT := Lib.hid hT
  clear hT
  go_cut [54] (fun u54 wx => u54 = .bool T ∧ wx = w3)
  case first =>
    by_cases hl1 : nn = V
    case neg =>
      have HF : Hid (T = true) := Lib.hid (by rw [← HT.out]; simp [hl1])
      have h1 : ((nn : Int) != (V : Int)) = true := by rw [bne_iff_ne]; omega
      clear hl1
      go_wp2
      go_meet
      exact ⟨by rw [HF.out], rfl⟩
    have h1 : ((nn : Int) != (V : Int)) = false := by rw [bne_eq_false_iff_eq]; omega
    by_cases hl2 : yn = V
    case neg =>
      have HF : Hid (T = true) := Lib.hid (by rw [← HT.out]; simp [hl2])
      have h2 : ((yn : Int) != (V : Int)) = true := by rw [bne_iff_ne]; omega
      clear hl1 hl2
      go_wp2
      go_meet
      exact ⟨by rw [HF.out], rfl⟩
    have HF : Hid (T = false) := Lib.hid (by rw [← HT.out]; simp [hl1, hl2])
    have h2 : ((yn : Int) != (V : Int)) = false := by rw [bne_eq_false_iff_eq]; omega
    clear hl1 hl2
    go_wp2
    go_meet
    exact ⟨by rw [HF.out], rfl⟩
  case rest =>
  obtain ⟨rfl, rfl⟩ := hcut
  go_upto_if 54 with fail
  go_cut [10] (fun u10 wx => u10 = .int .i64 C1 ∧ Hid (Below wc.heap.size wc wx))
  case first =>
    -- fold
    rcases bool2 T with rfl | rfl
    · have hTT : nn ≠ V ∨ yn ≠ V := of_decide_eq_true HT.out
      have HF : Hid (C1 = 2) := Lib.hid (by rw [← HC1.out, if_pos hTT])
      clear hTT
      go_wp2
      go_meet
      exact ⟨by rw [HF.out], Lib.hid (Below.refl _ _)⟩
    have hTT : ¬ (nn ≠ V ∨ yn ≠ V) := of_decide_eq_false HT.out
    have HF : Hid (C1 = if ((no ++ yes).drop 0).any outB = true then 3 else 0) := Lib.hid (by rw [← HC1.out, if_neg hTT]; simp)
    clear hTT
    have hown0 : (wc.alloc (.cells #[] 3)).ownsRow wc.heap.size 3 1 (.slice (some ⟨wc.heap.size, 0, none⟩) 0 0) 0 [] := by
      simpa using own_new (base := wc.heap.size) (w := wc) #[] 3 (Nat.le_refl _) (by simp)
    have hba : Below wc.heap.size wc (wc.alloc (.cells #[] 3)) := (Below.refl _ _).alloc (Nat.le_refl _) _
    have HSN := Lib.hid (HN3.out.below hba).1
    have HSY := Lib.hid (HY3.out.below hba)
    have HBA := Lib.hid hba
    have hbz : wc.heap.size ≤ (wc.alloc (.cells #[] 3)).heap.size := hba.size
    clear hba
    go_upto_block 0 with (at_builtin; first
      | (refine wpList_pushAll rfl _ _ 35 rfl 3 (.int .i64 0) 8 Try.underlying35 HI.out rfl wc.heap.size (.slice (some ⟨wc.heap.size, 0, none⟩) 0 0) 0 [] _ G1 na nn nc _ rfl rfl hown0 HSN.out (ints_oneCell .i64 _) (by omega) (by omega) hbz ?_; intro v5 w5 hown5 hg5 _; have HB5 := Lib.hid (HBA.out.grown hg5 hbz (fun k hk => by simp [Value.ownBlock] at hk; omega)); have HSY5 := Lib.hid (HY3.out.below HB5.out); clear hown0)
      | (refine wpList_pushAll rfl _ _ 35 rfl 3 (.int .i64 0) 8 Try.underlying35 HI.out rfl wc.heap.size v5 (0 + nn) _ w5 G2 ya yn yc _ rfl rfl hown5 HSY5.out.1 (ints_oneCell .i64 _) (by omega) (by omega) HB5.out.size ?_; intro v6 w6 hown6 hg6 _; have HB6 := Lib.hid (HB5.out.grown hg6 HB5.out.size (fun k hk => (hown5.lt k hk).1)); clear hg5 hg6 hown5; have HV6 := Lib.hid (two_ints (hown6) HN3.out.2 HY3.out.2 (by omega)); clear hown6; obtain ⟨va, vn, vc, rfl, HVN, hvm⟩ := HV6.out.form'))
    go_wp2
    go_loopg [10, 61] vn (fun g u10 u61 wx => ∃ (k : Nat) (c : Int), k + g = vn ∧ u61 = .int .i64 k ∧ u10 = .int .i64 c ∧ wx = w6 ∧ Hid (C1 = if ((no ++ yes).drop k).any outB = true then 3 else c))
    case atStart => exact ⟨0, 0, by omega, rfl, rfl, rfl, HF⟩
    case round =>
    obtain ⟨k, c, hkg, rfl, rfl, rfl, hinv⟩ := hrel
    by_cases hk : k < vn
    case neg =>
      have HFF : Hid (C1 = c) := Lib.hid (by rw [hinv.out, List.drop_eq_nil_of_le (by have := HVN.out; omega)]; simp)
      have hk2 : vn ≤ k := by omega
      clear hinv hk
      go_wp2
      go_meet
      exact ⟨by rw [HFF.out], HB6⟩
    obtain ⟨x, hx⟩ : ∃ x, (no ++ yes)[k]? = some x := ⟨_, List.getElem?_eq_getElem (by have := HVN.out; omega)⟩
    have e : (no ++ yes).drop k = x :: (no ++ yes).drop (k + 1) := by
      obtain ⟨hlt, he⟩ := List.getElem?_eq_some_iff.1 hx
      rw [List.drop_eq_getElem_cons hlt, he]
    have hv6 := HV6.out
    obtain ⟨xb, xo, rfl, _, hxb, hxc, _⟩ := hv6.at hx
    by_cases hout : x < 0 ∨ 1048576 < x
    · have HFF : Hid (C1 = if ((no ++ yes).drop (k + 1)).any outB = true then 3 else 3) := Lib.hid (by
        have ho : outB x = true := by unfold outB; rcases hout with h | h <;> simp [h]
        rw [hinv.out, e, List.any_cons, ho]; simp)
      clear hinv e hx hv6
      by_cases hx0 : x < 0
      · clear hout
        go_wp2
        go_roundg (gk - 1)
        case measure => omega
        case rel => exact ⟨k + 1, 3, by omega, by go_num, rfl, rfl, HFF⟩
      · have hx1 : 1048576 < x := by omega
        have hx00 : decide (x < 0) = false := by simp; omega
        clear hout
        go_wp2
        go_roundg (gk - 1)
        case measure => omega
        case rel => exact ⟨k + 1, 3, by omega, by go_num, rfl, rfl, HFF⟩
    · have HFF : Hid (C1 = if ((no ++ yes).drop (k + 1)).any outB = true then 3 else c) := Lib.hid (by
        have ho : outB x = false := by unfold outB; simp; omega
        rw [hinv.out, e, List.any_cons, ho]; simp)
      have hx00 : decide (x < 0) = false := by simp; omega
      have hx11 : decide (1048576 < x) = false := by simp; omega
      clear hinv e hx hv6 hout
      go_wp2
      go_roundg (gk - 1)
      case measure => omega
      case rel => exact ⟨k + 1, c, by omega, by go_num, rfl, rfl, HFF⟩
    -- unfold
  case rest =>
  obtain ⟨rfl, HBX⟩ := hcut
  have hsx := HBX.out.size
  have f0 := below_c HBX.out hs3 e0
  have f1 := below_c HBX.out hs3 e1
  have HBR : Hid (Below w.heap.size w wc) := Lib.hid (HB3.out.trans (HBX.out.mono HB3.out.size))
  have HPX := Lib.hid (HP3.out.below HBX.out)
  have HNX := Lib.hid (HN3.out.below HBX.out)
  have HYX := Lib.hid (HY3.out.below HBX.out)
  by_cases hz : C1 = 0
  case neg =>
    have hCE : CC = C1 := by
      rw [HCC.out, ← HC1.out]
      have hz2 := hz
      rw [← HC1.out] at hz2
      by_cases h1 : nn ≠ V ∨ yn ≠ V
      · rw [if_pos h1, if_pos h1]
      · rw [if_neg h1] at hz2 ⊢
        rw [if_neg h1]
        by_cases h2 : no.any outB = true ∨ yes.any outB = true
        · rw [if_pos h2, if_pos h2]
        · rw [if_neg h2] at hz2; exact absurd rfl hz2
    obtain ⟨h1, h2⟩ := HNO.out (by rw [hCE]; exact hz)
    have hne : (C1 == 0) = false := by simp [hz]
    have hne2 : (C1 != 0) = true := by simp [hz]
    subst h1 h2
    obtain rfl : CC = C1 := hCE
    clear hz HCC HC1
    go_wp2_with fail
    go_ret
    exact ⟨by simp, HBR.out⟩
  have hlens : ¬ (nn ≠ V ∨ yn ≠ V) := fun h => by
    have := HC1.out
    rw [if_pos h, hz] at this
    cases this
  have houts : ¬ (no.any outB = true ∨ yes.any outB = true) := fun h => by
    have := HC1.out
    rw [if_neg hlens, if_pos h, hz] at this
    cases this
  have hnV : nn = V := by omega
  have hyV : yn = V := by omega
  have hok1 : CostOk V no := costOk_of (by rw [← HNN.out]; exact hnV) (by simpa using fun h => houts (.inl h))
  have hok2 : CostOk V yes := costOk_of (by rw [← HYN.out]; exact hyV) (by simpa using fun h => houts (.inr h))
  have HBL : Hid (bestL no yes (MS.drop 0) (-1) [] = if ok = true then (cst, R) else (-1, [])) := Lib.hid (HLB.out hok1 hok2)
  have HC2 : Hid (CC = if ok = false then 11 else 0) := Lib.hid (by rw [HCC.out, if_neg hlens, if_neg houts])
  have hcst : 0 ≤ cst := HCZ.out hok1 hok2
  have HK1 := Lib.hid hok1
  have HK2 := Lib.hid hok2
  subst hz
  clear hlens houts HC1 HCC HLB HCZ hok1 hok2
  subst hnV
  obtain rfl : yn = nn := hyV
  have hmo := HMO.out _ HPX.out
  have HMO2 := Lib.hid hmo
  clear hmo
  go_wp2_with fail
  refine HMO2.out.mono ?_
  rintro e w7 ⟨av, rfl, har, hb7⟩
  have g0 := below_c hb7 (by omega) f0
  have g1 := below_c hb7 (by omega) f1
  have HB7 : Hid (Below w.heap.size w w7) := Lib.hid (HBR.out.trans (hb7.mono HBR.out.size))
  have HBX7 := Lib.hid (HBX.out.trans (hb7.mono hsx))
  have HN7 := Lib.hid (HNX.out.below hb7)
  have HY7 := Lib.hid (HYX.out.below hb7)
  obtain ⟨aa, an, ac, rfl, HAN, han⟩ : ∃ a n c, av = .slice a n c ∧ Hid (n = MS.length) ∧ n ≤ 256 := by
    obtain ⟨a, c, h, _⟩ := har.form
    exact ⟨a, _, c, h, rfl, h256⟩
  have HAR := Lib.hid har
  clear hb7 har HMO HMO2 HPX HNX HYX f0 f1 h256
  have hYN : yn ≤ 20 := hnl.1
  go_wp2
  go_loopg [13, 14, 77] an (fun g u13 u14 u77 wx => ∃ (k : Nat) (b : Int) (wv : Value) (want : List Bool), k + g = an ∧ u77 = .int .i64 k ∧ u13 = .int .i64 b ∧ u14 = wv ∧ Hid (Bools (fun _ => True) w7 wv want) ∧ w7 = wx ∧ Hid (bestL no yes (MS.drop k) b want = if ok = true then (cst, R) else (-1, [])) ∧ -1 ≤ b ∧ b ≤ 1099511627776)
  case atStart => exact ⟨0, -1, _, [], by omega, rfl, rfl, rfl, Lib.hid (Bools.nil _ _), rfl, HBL, by omega, by omega⟩
  case round =>
  obtain ⟨k, b, wv, want, hkg, rfl, rfl, rfl, HW, rfl, HI2, hb1, hb2⟩ := hrel
  have hbm1 : decide (b < 0) = decide (b < 0) := rfl
  clear hbm1
  by_cases hk : k < an
  case neg =>
    have hk2 : an ≤ k := by omega
    have HE : Hid ((b, want) = if ok = true then (cst, R) else (-1, [])) := Lib.hid (by
      have := HI2.out
      rw [List.drop_eq_nil_of_le (by have := HAN.out; omega)] at this
      exact this)
    clear HI2 hk
    rcases bool2 ok with rfl | rfl
    · have hCC : CC = 0 := by rw [HC2.out]; rfl
      obtain ⟨h1, h2⟩ : b = cst ∧ want = R := by
        have := HE.out
        rw [if_pos rfl] at this
        exact ⟨congrArg Prod.fst this, congrArg Prod.snd this⟩
      obtain ⟨h3, h4⟩ := HYES.out hCC
      have HM7 := Lib.hid (h4.below HBX7.out)
      have hb0 : decide (cst < 0) = false := decide_eq_false (by omega)
      subst h1 h2 h3 hCC
      clear HE HC2 HYES HNO h4
      go_wp2_with fail
      refine (equalb_any _ _ _ _ _ HM7.out HW.out).mono ?_
      rintro e w8 ⟨rfl, nq, rfl⟩
      go_wp2_with fail
      go_ret
      exact ⟨by simp, below_drewN HB7.out _⟩
    · have hCC : CC = 11 := by rw [HC2.out]; rfl
      obtain ⟨h1, h2⟩ : b = -1 ∧ want = [] := by
        have := HE.out
        rw [if_neg (by simp)] at this
        exact ⟨congrArg Prod.fst this, congrArg Prod.snd this⟩
      obtain ⟨h3, h4⟩ := HNO.out (by rw [hCC]; decide)
      subst h1 h2 h3 h4 hCC
      have hb0 : decide ((-1 : Int) < 0) = true := by decide
      clear HE HC2 HYES HNO
      go_wp2_with fail
      go_ret
      exact ⟨by simp, HB7.out⟩
  obtain ⟨a, ha⟩ : ∃ a, MS[k]? = some a := ⟨_, List.getElem?_eq_getElem (by have := HAN.out; omega)⟩
  have HIN : Hid ((if b < 0 ∨ costL no yes 0 a < b then bestL no yes (MS.drop (k + 1)) (costL no yes 0 a) a else bestL no yes (MS.drop (k + 1)) b want) = if ok = true then (cst, R) else (-1, [])) := Lib.hid (by
    obtain ⟨hlt, he⟩ := List.getElem?_eq_some_iff.1 ha
    rw [← HI2.out, List.drop_eq_getElem_cons hlt, he, bestL])
  have hal : a.length = yn := HMM.out a (by obtain ⟨hlt, he⟩ := List.getElem?_eq_some_iff.1 ha; exact he ▸ List.getElem_mem hlt)
  obtain ⟨ab, ao, u, rfl, _, hab, hac, hbo⟩ := HAR.out.at ha
  obtain ⟨va, vn, vc, rfl, HVN⟩ : ∃ p n c, u = .slice p n c ∧ Hid (n = a.length) := by
    obtain ⟨p, c, h1, _⟩ := hbo.form
    exact ⟨p, _, c, h1, rfl⟩
  have hvn : vn = yn := by rw [HVN.out, hal]
  subst hvn
  have HBO := Lib.hid hbo
  have HAC := Lib.hid hac
  have HA := Lib.hid ha
  clear HI2 hbo ha
  obtain ⟨GK, hGK⟩ : ∃ G, G = gk := ⟨_, rfl⟩
  subst hGK
  go_wp2
  go_loopg [17, 83] vn (fun g u17 u83 wx => ∃ (j : Nat) (s : Int), j + g = vn ∧ u83 = .int .i64 j ∧ u17 = .int .i64 s ∧ w7 = wx ∧ Hid (costL no yes 0 a = s + costL no yes j (a.drop j)) ∧ 0 ≤ s ∧ s ≤ 1048576 * j)
  case atStart => exact ⟨0, 0, by omega, rfl, rfl, rfl, Lib.hid (by simp), by omega, by omega⟩
  case round =>
  obtain ⟨j, s, hjg, rfl, rfl, rfl, HS, hs0, hs1⟩ := hrel
  by_cases hj : j < vn
  case neg =>
    have hj2 : vn ≤ j := by omega
    have HSE : Hid (costL no yes 0 a = s) := Lib.hid (by rw [HS.out, List.drop_eq_nil_of_le (by omega)]; simp [costL])
    have hj3 : s ≤ 20971520 := by omega
    clear HS hj
    by_cases hbn : b < 0
    · have HX : Hid (bestL no yes (MS.drop (k + 1)) s a = if ok = true then (cst, R) else (-1, [])) := Lib.hid (by
        rw [← HSE.out, ← HIN.out, if_pos (.inl hbn)])
      clear HIN HSE
      go_wp2
      go_roundg (GK - 1)
      case measure => omega
      case rel => exact ⟨k + 1, s, _, a, by omega, by go_num, rfl, rfl, HBO, rfl, HX, by omega, by omega⟩
    have hbn2 : decide (b < 0) = false := by simp; omega
    by_cases hbs : s < b
    · have HX : Hid (bestL no yes (MS.drop (k + 1)) s a = if ok = true then (cst, R) else (-1, [])) := Lib.hid (by
        rw [← HSE.out, ← HIN.out, if_pos (.inr (by rw [HSE.out]; exact hbs))])
      clear HIN HSE
      go_wp2
      go_roundg (GK - 1)
      case measure => omega
      case rel => exact ⟨k + 1, s, _, a, by omega, by go_num, rfl, rfl, HBO, rfl, HX, by omega, by omega⟩
    have hbs2 : decide (s < b) = false := by simp; omega
    have HX : Hid (bestL no yes (MS.drop (k + 1)) b want = if ok = true then (cst, R) else (-1, [])) := Lib.hid (by
      rw [← HIN.out, if_neg (by rw [HSE.out]; omega)])
    clear HIN HSE
    go_wp2
    go_roundg (GK - 1)
    case measure => omega
    case rel => exact ⟨k + 1, b, _, want, by omega, by go_num, rfl, rfl, HW, rfl, HX, by omega, by omega⟩
  obtain ⟨x, hx⟩ : ∃ x, a[j]? = some x := ⟨_, List.getElem?_eq_getElem (by omega)⟩
  have e : a.drop j = x :: a.drop (j + 1) := by
    obtain ⟨hlt, he⟩ := List.getElem?_eq_some_iff.1 hx
    rw [List.drop_eq_getElem_cons hlt, he]
  obtain ⟨bb, bo, rfl, _, hbb, hbc⟩ := HBO.out.at hx
  have hsb : s ≤ 20971520 := by omega
  rcases bool2 x with rfl | rfl
  · obtain ⟨y, hy⟩ : ∃ y, yes[j]? = some y := ⟨_, List.getElem?_eq_getElem (by rw [HK2.out.1]; omega)⟩
    have hy7 := HY7.out
    obtain ⟨yb, yo, rfl, _, hyb, hyc, _⟩ := hy7.at hy
    have hyv := (HK2.out.2 y (List.mem_of_getElem? hy))
    have HSS : Hid (costL no yes 0 a = (s + y) + costL no yes (j + 1) (a.drop (j + 1))) := Lib.hid (by
      rw [HS.out, e, costL, wOf, if_pos rfl, List.getD, hy, Option.getD_some]; omega)
    clear HS e hx hy hy7
    go_wp2
    go_roundg (gk - 1)
    case measure => omega
    case rel => exact ⟨j + 1, s + y, by omega, by go_num, by go_num, rfl, HSS, by omega, by omega⟩
  · obtain ⟨y, hy⟩ : ∃ y, no[j]? = some y := ⟨_, List.getElem?_eq_getElem (by rw [HK1.out.1]; omega)⟩
    have hy7 := HN7.out
    obtain ⟨yb, yo, rfl, _, hyb, hyc, _⟩ := hy7.at hy
    have hyv := (HK1.out.2 y (List.mem_of_getElem? hy))
    have HSS : Hid (costL no yes 0 a = (s + y) + costL no yes (j + 1) (a.drop (j + 1))) := Lib.hid (by
      rw [HS.out, e, costL, wOf, if_neg (by simp), List.getD, hy, Option.getD_some]; omega)
    clear HS e hx hy hy7
    go_wp2
    go_roundg (gk - 1)
    case measure => omega
    case rel => exact ⟨j + 1, s + y, by omega, by go_num, by go_num, rfl, HSS, by omega, by omega⟩
end Go.Proofs.Ytljljagkccmogaa
