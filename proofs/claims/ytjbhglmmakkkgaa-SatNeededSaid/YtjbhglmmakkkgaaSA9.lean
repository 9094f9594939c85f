/- Walk of the law SatNeeded. -/
import Derived.Test.YtjbhglmmakkkgaaSn
namespace Go.Proofs.Ytjbhglmmakkkgaa
open Go.ChangeShapes Go.WideShapes Go.ChangeAt Go.RowKit
set_option linter.unusedVariables false

theorem lits_of {V : Nat} {keep : Int} {cs : List (List Int)} (h : checkM V keep cs = 0) : LitsOk V cs := by
  obtain ⟨V', h1, _, _, _, _, h2, _⟩ := check_ok h
  have e : V = V' := by omega
  rw [e]
  exact h2
theorem solves_unsat {V : Nat} {keep : Int} {cs : List (List Int)} (h : checkM V keep cs = 0) (hn : ¬ ∃ x : List Bool, x.length = V ∧ modelB cs x = true) : solvesM V keep cs = ([], false, 0) := by
  rw [← sat_iff (lits_of h)] at hn
  rw [solvesM, if_neg (by omega), Int.toNat_natCast]
  rcases hr : (solveM V cs []).1 with _ | x
  · rfl
  · rw [hr] at hn; exact absurd rfl hn
theorem solves_sat {V : Nat} {keep : Int} {cs : List (List Int)} (h : checkM V keep cs = 0) (hn : ∃ x : List Bool, x.length = V ∧ modelB cs x = true) : ∃ x, solvesM V keep cs = (x, true, 0) := by
  rw [← sat_iff (lits_of h)] at hn
  rw [solvesM, if_neg (by omega), Int.toNat_natCast]
  rcases hr : (solveM V cs []).1 with _ | x
  · rw [hr] at hn; cases hn
  · exact ⟨x, rfl⟩

set_option maxRecDepth 100000 in
set_option maxHeartbeats 16000000 in
theorem needed_walk {F : Nat → Prop} (vars keep : Int) (cv : Value) (cs : List (List Int)) (kk : Int) (w : World) (hc : Clss F w cv cs) (hv : I64 vars) (hk : I64 keep) (hkk : 0 ≤ kk ∧ kk ≤ 255) :
    Calls Try.prog 8 #[.agg #[.int .i64 vars, .int .i64 keep, cv], .int .u8 kk] w (BoolPost w true) := by
  obtain ⟨K0, rfl⟩ := Int.eq_ofNat_of_zero_le hkk.1
  have hK0 : K0 ≤ 255 := by omega
  clear hkk
  obtain ⟨a, n, c, rfl, HN, hn⟩ := hc.form'
  have hb : Below w.heap.size w (w.alloc (.cells #[.int .i64 vars, .int .i64 keep, .slice a n c] 24)) := (Below.refl _ _).alloc (Nat.le_refl _) _
  have HB := Lib.hid hb
  have HX := Lib.hid (Box.new (vars := vars) (keep := keep) hc)
  clear hb hc
  go_enter Try.func8, Try.ntmps8
  go_wp2_with fail
  refine (known_any _).mono ?_
  rintro e w1 ⟨rfl, hb1⟩
  have HB1 : Hid (Below w.heap.size w w1) := Lib.hid (HB.out.trans (hb1.mono (by simp)))
  have HX1 := Lib.hid (HX.out.below hb1)
  have c0 := HX1.out.c0
  have c1 := HX1.out.c1
  have c2 := HX1.out.c2
  clear hb1 HX HB
  go_wp2_with fail
  refine (few_any vars keep 8 30 _ cs w1 HX1.out.cls (by omega) hv).mono ?_
  rintro e w2 ⟨rfl, hb2⟩
  have HB2 : Hid (Below w.heap.size w w2) := Lib.hid (HB1.out.trans (hb2.mono HB1.out.size))
  have HX2 := Lib.hid (HX1.out.below hb2)
  clear hb2 c0 c1 c2 HX1 HB1
  rcases hf : fewM vars cs 8 30 with _ | _
  · go_wp2_with fail
    go_ret
    exact ⟨rfl, HB2.out⟩
  obtain ⟨hv8, hn30, _⟩ := few_of hf
  have hn30' : n ≤ 30 := by have := HN.out; omega
  have c0 := HX2.out.c0
  have c1 := HX2.out.c1
  have c2 := HX2.out.c2
  have hva := valid_any vars keep (.slice a n c) cs w2 HX2.out.cls hv hk
  obtain ⟨T, hT⟩ : ∃ T, validM vars keep cs = T := ⟨_, rfl⟩
  have HTC : Hid (T = true ↔ checkM vars keep cs = 0) := Lib.hid (by rw [← hT]; exact valid_check vars keep cs)
  rw [hT] at hva
  have HVA := Lib.hid hva
  clear hva hT hf
  go_wp2_with fail
  refine HVA.out.mono ?_
  rintro e w4 ⟨rfl, hb4⟩
  have HB4 : Hid (Below w.heap.size w w4) := Lib.hid (HB2.out.trans (hb4.mono HB2.out.size))
  have HX4 := Lib.hid (HX2.out.below hb4)
  clear hb4 c0 c1 c2 HX2 HB2 HVA
  rcases bool2 T with rfl | rfl
  case inr =>
    go_wp2_with fail
    go_ret
    exact ⟨rfl, HB4.out⟩
  have h0 := HTC.out.1 rfl
  obtain ⟨V, rfl, hV2, _, _, hcl, hlo, _⟩ := check_ok h0
  have hco := Core_any V keep (.slice a n c) cs w4 HX4.out.cls hv hk (by omega) (by omega)
  obtain ⟨S, hS⟩ : ∃ S, coreM V keep cs = S := ⟨_, rfl⟩
  have hSS : S = if (solveM V cs []).1.isSome = true then ([], 11) else (leftGo (dropGo V cs cs.length 0 (List.replicate cs.length false)) 0, 0) := by rw [← hS, coreM, if_neg (by omega)]; rfl
  have hq : solvesM V keep cs = match (solveM V cs []).1 with | some x => (x, true, 0) | none => ([], false, 0) := by rw [solvesM, if_neg (by omega)]; rfl
  have hne := fun h => needed (L := leftGo (dropGo V cs cs.length 0 (List.replicate cs.length false)) 0) hlo h rfl
  rw [hS] at hco
  have HCO := Lib.hid hco
  obtain ⟨r, hr⟩ : ∃ r, (solveM V cs []).1 = r := ⟨_, rfl⟩
  rw [hr] at hSS hq hne
  obtain ⟨L, hL⟩ : ∃ l, leftGo (dropGo V cs cs.length 0 (List.replicate cs.length false)) 0 = l := ⟨_, rfl⟩
  rw [hL] at hSS hne
  obtain ⟨Q, hQ⟩ : ∃ q, solvesM V keep cs = q := ⟨_, rfl⟩
  rw [hQ] at hq
  have HQ := Lib.hid hQ
  have HQQ := Lib.hid hq
  have HSS := Lib.hid hSS
  have HNE := Lib.hid hne
  have HLO := Lib.hid hlo
  have H0 := Lib.hid h0
  have c0 := HX4.out.c0
  have c1 := HX4.out.c1
  have c2 := HX4.out.c2
  clear h0 hco hS hSS hq hne hr hL hQ hlo HTC
  go_wp2_with fail
  refine HCO.out.mono ?_
  rintro e w5 ⟨mv, rfl, hm, hb5⟩
  have HB5 : Hid (Below w.heap.size w w5) := Lib.hid (HB4.out.trans (hb5.mono HB4.out.size))
  have HX5 := Lib.hid (HX4.out.below hb5)
  have HM := Lib.hid hm
  obtain ⟨ma, mn, mc, rfl, HMN⟩ : ∃ a n c, mv = .slice a n c ∧ Hid (n = S.1.length) := by
    obtain ⟨a, c, h, _⟩ := hm.form
    exact ⟨a, _, c, h, rfl⟩
  clear hb5 hm c0 c1 c2 HX4 HB4 HCO
  have c0 := HX5.out.c0
  have c1 := HX5.out.c1
  have c2 := HX5.out.c2
  have hso := Solve_any V keep (.slice a n c) cs w5 HX5.out.cls hv hk (by omega)
  rw [HQ.out] at hso
  have HSO := Lib.hid hso
  clear hso
  go_wp2_with fail
  refine HSO.out.mono ?_
  rintro e w6 ⟨xv, rfl, hx6, hb6⟩
  have HB6 : Hid (Below w.heap.size w w6) := Lib.hid (HB5.out.trans (hb6.mono HB5.out.size))
  have HX6 := Lib.hid (HX5.out.below hb6)
  have HM6 := Lib.hid (HM.out.below hb6)
  obtain ⟨xa, xn, xc, rfl⟩ : ∃ a n c, xv = .slice a n c := by
    obtain ⟨a, c, h, _⟩ := hx6.form
    exact ⟨a, _, c, h⟩
  clear hb6 hx6 c0 c1 c2 HX5 HB5 HSO HM
  rcases r with _ | x
  case some =>
    obtain rfl : S = ([], 11) := HSS.out
    obtain rfl : Q = (x, true, 0) := HQQ.out
    simp only
    go_wp2_with fail
    go_ret
    exact ⟨rfl, HB6.out⟩
  obtain rfl : S = (L, 0) := HSS.out
  obtain rfl : Q = ([], false, 0) := HQQ.out
  obtain ⟨hasc, hrg, hnil, hunsat, hsat⟩ := HNE.out rfl
  simp only at HM6 HMN ⊢
  have hmL : 0 < mn := by
    have := HMN.out
    rcases L with _ | ⟨l, r⟩
    · exact absurd rfl hnil
    · simp at this; omega
  have hmb : mn ≤ 30 := by
    have h1 := (pick_sub (cs := cs) L 0 hasc hrg).length_le
    have h2 : ∀ (L : List Int), (pick cs L).length = L.length := fun L => by
      induction L with
      | nil => rfl
      | cons a r ih => rw [pick, List.length_cons, List.length_cons, ih]
    rw [h2, List.drop_zero] at h1
    have := HMN.out
    omega
  have c0 := HX6.out.c0
  have c1 := HX6.out.c1
  have c2 := HX6.out.c2
  have hwb := block_lt c0
  have HASC := Lib.hid hasc
  have HRG := Lib.hid hrg
  have HUN := Lib.hid hunsat
  have HSAT := Lib.hid hsat
  clear HSS HQQ HNE HQ hasc hrg hnil hunsat hsat
  have hinfo2 : (Try.prog.info? 25).map (fun i => (i.zero, i.size, i.bytes)) = some (some (.slice none 0 0), 1, 24) := by kernel_rfl
  have HI2 := Lib.hid hinfo2
  obtain ⟨p, hp⟩ : ∃ p, K0 % mn = p := ⟨_, rfl⟩
  have hpm : p < mn := by rw [← hp]; exact Nat.mod_lt _ hmL
  have hm1 : ((K0 : Int) % (mn : Int)) = (p : Int) := by rw [← hp]; simp
  have hm2 : ((K0 : Int).tmod (mn : Int)) = (p : Int) := by rw [Int.tmod_eq_emod_of_nonneg (by omega)]; exact hm1
  have hpn : mn ≠ 0 := by omega
  have hpn2 : (mn : Int) ≠ 0 := by omega
  have hpz : ((mn : Int) == 0) = false := by simp; omega
  have HPS : Hid (pick cs (L.eraseIdx p) = [] ++ pick cs (skipL p (L.drop 0) 0)) := Lib.hid (by rw [List.drop_zero, skipL_erase L 0 (Nat.zero_le _), Nat.sub_zero]; rfl)
  clear hinfo2 hp
  go_upto_region 13 with fail
  obtain ⟨B, hBB⟩ : ∃ B, w6.heap.size = B := ⟨_, rfl⟩
  have ho1 : Own3 ((w6.alloc (.cells #[.int .i64 (V : Int), .int .i64 keep, .slice none 0 0] 24)).alloc (.cells #[.int .i64 (V : Int), .int .i64 keep, .slice none 0 0] 24)) w6.heap.size V keep (.slice none 0 0) := ⟨by simp, by simp, by simp, by simp⟩
  have ho2 : Own3 ((w6.alloc (.cells #[.int .i64 (V : Int), .int .i64 keep, .slice none 0 0] 24)).alloc (.cells #[.int .i64 (V : Int), .int .i64 keep, .slice none 0 0] 24)) (w6.heap.size + 1) V keep (.slice none 0 0) := ⟨by simp, by simp, by simp, by simp⟩
  have hbw : Below w6.heap.size w6 ((w6.alloc (.cells #[.int .i64 (V : Int), .int .i64 keep, .slice none 0 0] 24)).alloc (.cells #[.int .i64 (V : Int), .int .i64 keep, .slice none 0 0] 24)) := ((Below.refl _ _).alloc (Nat.le_refl _) _).alloc (by simp) _
  have hwz : ((w6.alloc (.cells #[.int .i64 (V : Int), .int .i64 keep, .slice none 0 0] 24)).alloc (.cells #[.int .i64 (V : Int), .int .i64 keep, .slice none 0 0] 24)).heap.size = w6.heap.size + 2 := by simp
  generalize (w6.alloc (.cells #[.int .i64 (V : Int), .int .i64 keep, .slice none 0 0] 24)).alloc (.cells #[.int .i64 (V : Int), .int .i64 keep, .slice none 0 0] 24) = W0 at *
  have HBW : Hid (w6.heap.size = B) := Lib.hid hBB
  rw [hBB] at ho1 ho2 hbw hwz hwb
  rw [hBB]
  have HO1 := Lib.hid ho1
  have HO2 := Lib.hid ho2
  have HBL := Lib.hid hbw
  have HWZ : Hid (B + 2 ≤ W0.heap.size) := Lib.hid (by omega)
  have HLT : Hid (Ints (fun b => b < B) w6 (.slice ma mn mc) L) := Lib.hid (by have := HM6.out.lt; rw [hBB] at this; exact this.mono fun b hb => hb.2)
  have HCL : Hid (Clss (fun b => b < B) w6 (.slice a n c) cs) := Lib.hid (by have := HX6.out.cls.lt; rwa [hBB] at this)
  clear ho1 ho2 hbw hwz hBB
  go_wp2
  go_loopg [62] mn (fun gg u62 wx => ∃ (k : Nat) (v1 v2 : Value) (P1 P2 : List (List Int)), k + gg = mn ∧ u62 = .int .i64 k ∧ Hid (Own3 wx B V keep v1) ∧ Hid (Own3 wx (B + 1) V keep v2) ∧ Hid (RowsY wx B v1 P1) ∧ Hid (RowsY wx B v2 P2) ∧ Hid (Below B w6 wx) ∧ Hid (B + 2 ≤ wx.heap.size) ∧
    Hid (∀ g, v1.ownBlock = some g → v2.ownBlock ≠ some g) ∧ Hid (P1 = pick cs (L.take k)) ∧ Hid (pick cs (L.eraseIdx p) = P2 ++ pick cs (skipL p (L.drop k) k)) ∧ P1.length ≤ k ∧ P2.length ≤ k)
  case atStart => exact ⟨0, _, _, [], [], by omega, rfl, HO1, HO2, Lib.hid (RowsY.nil _ _), Lib.hid (RowsY.nil _ _), HBL, HWZ, Lib.hid (fun g h => by cases h), Lib.hid (by simp [pick]), HPS, by simp, by simp⟩
  case round =>
  clear HO1 HO2 HBL HWZ HPS
  obtain ⟨k, v1, v2, P1, P2, hkg, rfl, HO1, HO2, HR1, HR2, HBL, HWZ, HNE, HP1, HP2, hl1, hl2⟩ := hrel
  have e0 := below_c HBL.out hwb c0
  have e1 := below_c HBL.out hwb c1
  have e2 := below_c HBL.out hwb c2
  obtain ⟨a1, cc1, rfl⟩ := HR1.out.form
  obtain ⟨a2, cc2, rfl⟩ := HR2.out.form
  have s2 := HO1.out.c2
  have sz := HO1.out.fz
  have t2 := HO2.out.c2
  have tz := HO2.out.fz
  by_cases hk2 : k < mn
  case neg =>
    have hP1 : P1 = pick cs L := by rw [HP1.out, List.take_of_length_le (by have := HMN.out; omega)]
    have hP2 : P2 = pick cs (L.eraseIdx p) := by
      rw [HP2.out, List.drop_eq_nil_of_le (by have := HMN.out; omega), skipL, pick, List.append_nil]
    have hdk : decide (k < mn) = false := decide_eq_false hk2
    have hc1 : checkM V keep P1 = 0 := check_sub H0.out (by rw [hP1]; simpa using pick_sub (cs := cs) L 0 HASC.out HRG.out)
    have hc2 : checkM V keep P2 = 0 := check_sub H0.out (by
      rw [hP2]
      have hsub := List.eraseIdx_sublist L p
      simpa using pick_sub (cs := cs) (L.eraseIdx p) 0 (HASC.out.sublist hsub) (fun l hl => HRG.out l (hsub.subset hl)))
    have hs1 : solvesM V keep P1 = ([], false, 0) := solves_unsat hc1 (by rw [hP1]; exact HUN.out)
    obtain ⟨x, hs2⟩ : ∃ x, solvesM V keep P2 = (x, true, 0) := solves_sat hc2 (by rw [hP2]; exact HSAT.out p (by have := HMN.out; omega))
    have q0 := HO1.out.c0
    have q1 := HO1.out.c1
    have hso1 := Solve_any V keep _ P1 wr (HR1.out.clss (by omega)) hv hk (by omega)
    rw [hs1] at hso1
    have HSO1 := Lib.hid hso1
    clear hso1 e0 e1 e2 t2 tz sz hP1 hP2 hc1 hc2 hs1
    go_wp2_with fail
    refine HSO1.out.mono ?_
    rintro e w8 ⟨xv8, rfl, hx8, hb8⟩
    obtain ⟨xa8, xn8, xc8, rfl⟩ : ∃ a n c, xv8 = .slice a n c := by
      obtain ⟨a, c, h, _⟩ := hx8.form
      exact ⟨a, _, c, h⟩
    have hO2 := HO2.out.same (hb8.block _ HO2.out.lt)
    have hwz := HWZ.out
    have hR2 := HR2.out.keep (hb8.mono (by omega)) fun k hk => hb8.block k (HR2.out.block k hk).2
    have HB8 := Lib.hid (HBL.out.trans (hb8.mono (by omega)))
    have q20 := hO2.c0
    have q21 := hO2.c1
    have q22 := hO2.c2
    have hso2 := Solve_any V keep _ P2 w8 (hR2.clss (by omega)) hv hk (by omega)
    rw [hs2] at hso2
    have HSO2 := Lib.hid hso2
    clear hso2 hb8 hO2 hR2 hx8 hs2 q0 q1 s2
    simp only
    go_wp2_with fail
    refine HSO2.out.mono ?_
    rintro e w9 ⟨xv9, rfl, hx9, hb9⟩
    obtain ⟨xa9, xn9, xc9, rfl⟩ : ∃ a n c, xv9 = .slice a n c := by
      obtain ⟨a, c, h, _⟩ := hx9.form
      exact ⟨a, _, c, h⟩
    have hb9' := HB8.out.trans (hb9.mono (by have h1 := HB8.out.size; have h2 := HBW.out; omega))
    have HB9 := Lib.hid (HB6.out.trans (hb9'.mono (by rw [← HBW.out]; exact HB6.out.size)))
    have hdm : decide ((0 : Int) < mn) = true := decide_eq_true (by omega)
    have hdm2 : decide (0 < mn) = true := decide_eq_true (by omega)
    clear hb9 hb9' hx9
    simp only
    go_wp2_with fail
    go_ret
    exact ⟨rfl, HB9.out⟩
  obtain ⟨nI, hnI, en⟩ := drop_at (xs := L) (k := k) (by have := HMN.out; omega)
  have hrg := HRG.out nI (List.mem_of_getElem? hnI)
  obtain ⟨N, rfl⟩ := Int.eq_ofNat_of_zero_le hrg.1
  have hNn : N < n := by have := HN.out; omega
  have hll := HLT.out.move (w' := wr) fun b hb _ => HBL.out.block b hb
  obtain ⟨lb, lo, rfl, _, hlb, hlc, _⟩ := hll.at hnI
  obtain ⟨cl, hcl, ecl⟩ := drop_at (xs := cs) (k := N) (by omega)
  have hcw := Rows1.move (w' := wr) (fun _ _ _ _ _ h hm => h.move hm) HCL.out fun b hb _ => HBL.out.block b hb
  obtain ⟨b, o, u, rfl, _, hb, hcc, hu⟩ := hcw.at hcl
  obtain ⟨va, un, vc, rfl, HUN, hun⟩ := hu.form'
  have HUI := Lib.hid hu
  have HP1N : Hid (P1 ++ [cl] = pick cs (L.take (k + 1))) := Lib.hid (by
    rw [List.take_succ_eq_append_getElem (by have := HMN.out; omega), pick_app, ← HP1.out]
    have h3 : L[k]'(by have := HMN.out; omega) = (N : Int) := by rw [List.getElem?_eq_getElem (by have := HMN.out; omega)] at hnI; injection hnI
    rw [h3, pick, pick, Int.toNat_natCast, List.getD, hcl]; rfl)
  have HP2E : Hid (pick cs (L.eraseIdx p) = P2 ++ pick cs (if k = p then skipL p (L.drop (k + 1)) (k + 1) else (N : Int) :: skipL p (L.drop (k + 1)) (k + 1))) := Lib.hid (by rw [HP2.out, en, skipL])
  have HCLN : Hid (cs.getD (N : Int).toNat [] = cl) := Lib.hid (by rw [Int.toNat_natCast, List.getD, hcl]; rfl)
  have hdA : decide ((N : Int) < 0) = false := decide_eq_false (by omega)
  have hdB : decide ((n : Int) ≤ (N : Int)) = false := decide_eq_false (by omega)
  have hdB2 : decide (n ≤ N) = false := decide_eq_false (by omega)
  have HUS1 := HR1
  obtain ⟨us1, hown1, hus1, hrow1⟩ := HR1.out
  have HUS := Lib.hid hus1
  have HROW := Lib.hid hrow1
  have hblk1 := HR1.out.block
  have HBK1 := Lib.hid hblk1
  have HNI := Lib.hid hnI
  clear hrg hll en ecl hcw hu hcl hnI HP2 hus1 hrow1 hblk1
  -- the tests of order
  go_upto_region 16 with fail
  go_cut [88] (fun u88 wx => u88 = .bool false ∧ wr = wx)
  case first =>
    by_cases hk0 : k = 0
    · have hd1 : decide ((0 : Int) < k) = false := by simp; omega
      have hd2 : decide (0 < k) = false := by simp; omega
      clear hk0
      go_wp2
      go_meet
      exact ⟨rfl, rfl⟩
    obtain ⟨k', hk'⟩ : ∃ k', k' + 1 = k := ⟨k - 1, by omega⟩
    obtain ⟨q, hq, _⟩ := drop_at (xs := L) (k := k') (by have := HMN.out; omega)
    have hll := HLT.out.move (w' := wr) fun b hb _ => HBL.out.block b hb
    obtain ⟨qb, qo, hqo, _, _, hqc, _⟩ := hll.at hq
    injection hqo with hqo
    injection hqo with h1 h2
    subst h1 h2
    have hqN : q < (N : Int) := by
      have h1 := List.pairwise_iff_getElem.1 HASC.out k' k (by have := HMN.out; omega) (by have := HMN.out; omega) (by omega)
      have h2 := HNI.out
      rw [List.getElem?_eq_getElem (by have := HMN.out; omega)] at hq h2
      injection hq with hq
      injection h2 with h2
      rwa [hq, h2] at h1
    have hd1 : decide ((0 : Int) < k) = true := by simp; omega
    have hd2 : decide (0 < k) = true := by simp; omega
    have hd3 : decide ((N : Int) ≤ q) = false := decide_eq_false (by omega)
    have hw1 : IntKind.i64.wrap ((k : Int) - 1) = (k' : Int) := by rw [IntWalk.i64_in _ ⟨by omega, by omega⟩]; omega
    have hw0 : wrap64 ((k : Int) - 1) = (k' : Int) := by rw [IntWalk.wrap64_in _ ⟨by omega, by omega⟩]; omega
    have hw2 : ((k : Int) - 1) = (k' : Int) := by omega
    have hk3 : k' < mn := by omega
    clear hk0 hk' hq hll
    go_wp2
    go_meet
    exact ⟨rfl, rfl⟩
  case rest =>
  obtain ⟨rfl, rfl⟩ := hcut
  have hBs : B < wr.heap.size := HO1.out.lt
  have HNB : Hid ((Value.slice a1 P1.length cc1).ownBlock ≠ some B) := Lib.hid (fun e => by have := (HBK1.out B e).1; omega)
  have hwz := HWZ.out
  go_upto_region 18 with fail
  go_cut [] (fun wx => Hid (GrowPost wr B B V keep (.slice a1 P1.length cc1) (P1 ++ [cl]) wx))
  case first =>
    have hi1 : (0 : Int) ≤ N := by omega
    have hi2 : (N : Int) < n := by omega
    go_region_law (refine step_push1 rfl _ _ 22 rfl 25 (.slice none 0 0) 24 Try.underlying22 HI2.out rfl (B + 2) (.slice a1 P1.length cc1) P1.length us1 wr.heap.size (.slice va un vc) rfl rfl (by simp) (own_heap (hown1.alloc _) rfl) rfl (by omega) (by omega) (by simp; omega) ?_; intro g3 cap3 w3 hown3 hg3 hat3; obtain ⟨ho3, hgp3⟩ := grow_post (by omega) (by omega) HBK1.out HO1.out HUS.out HROW.out HUI.out (((Below.refl _ wr).alloc (Nat.le_refl _) _).drew) hown3 hg3 hat3; have k2 := ho3.c2; have kz := ho3.fz; have HGP := Lib.hid hgp3; clear ho3 hgp3 hown3 hg3 hat3)
    all_goals
      go_wp2_with fail
      go_meet
      exact HGP
  case rest =>
  obtain ⟨v1', hO1, hR1, hO2, hR2, hB', hsz', hne'⟩ := hcut.out.other (Nat.le_refl _) (by omega) (by omega) (by omega) (by omega) HBK1.out HO2.out HR2.out HNE.out (by omega)
  have HO1' := Lib.hid hO1
  have HR1' := Lib.hid hR1
  have HO2' := Lib.hid hO2
  have HR2' := Lib.hid hR2
  have HNE' : Hid (∀ g, (Value.slice a2 P2.length cc2).ownBlock = some g → v1'.ownBlock ≠ some g) := Lib.hid (fun g h1 h2 => hne' g h2 h1)
  have HNE2' := Lib.hid hne'
  have HBX := Lib.hid hB'
  have HBL' : Hid (Below B w6 wc) := Lib.hid (HBL.out.trans hB')
  have HWZ' : Hid (B + 2 ≤ wc.heap.size) := Lib.hid (by have := HWZ.out; omega)
  have g0 := below_c HBX.out hwb e0
  have g2 := below_c HBX.out hwb e2
  have glc := below_c HBX.out (show lb < B by assumption) hlc
  have gcc := below_c HBX.out (show b < B by assumption) hcc
  have HUI' : Hid (Ints (fun b => b < B) wc (.slice va un vc) cl) := Lib.hid (HUI.out.move fun b hb _ => HBX.out.block b hb)
  have r2 := HO2'.out.c2
  have rz := HO2'.out.fz
  have hB2s := HO2'.out.lt
  obtain ⟨us2, hown2, hus2, hrow2⟩ := HR2'.out
  have HUS2 := Lib.hid hus2
  have HROW2 := Lib.hid hrow2
  have HBK2 := Lib.hid HR2'.out.block
  have hkc : IntKind.i64.wrap (K0 : Int) = (K0 : Int) := IntWalk.i64_in _ ⟨by omega, by omega⟩
  have hwz' := HWZ'.out
  clear hcut hO1 hR1 hO2 hR2 hB' hne' hsz' e0 e1 e2 s2 sz t2 tz hlc hcc hown1 HUS HROW HR1 HR2 HO1 HO2 HNE HBK1 HUI HNB hwz HUS1 hus2 hrow2 hBs
  by_cases hkp : k = p
  · have hd : ((k : Int) != (p : Int)) = false := by rw [bne_eq_false_iff_eq]; omega
    have HP2N : Hid (pick cs (L.eraseIdx p) = P2 ++ pick cs (skipL p (L.drop (k + 1)) (k + 1))) := Lib.hid (by rw [HP2E.out, if_pos hkp])
    clear hkp HP2E
    go_wp2_with fail
    go_roundg (gk - 1)
    case measure => omega
    case rel => exact ⟨k + 1, v1', _, P1 ++ [cl], P2, by omega, by go_num, HO1', HO2', HR1', HR2', HBL', HWZ', HNE2', HP1N, HP2N, by simp; omega, by omega⟩
  have hd : ((k : Int) != (p : Int)) = true := by rw [bne_iff_ne]; omega
  have HP2N : Hid (pick cs (L.eraseIdx p) = (P2 ++ [cl]) ++ pick cs (skipL p (L.drop (k + 1)) (k + 1))) := Lib.hid (by rw [HP2E.out, if_neg hkp, pick, HCLN.out, List.append_assoc]; rfl)
  obtain ⟨w7, hw7⟩ : ∃ x, x = wc := ⟨_, rfl⟩
  subst hw7
  clear hkp HP2E
  go_upto_region 20 with fail
  have hi1 : (0 : Int) ≤ N := by omega
  have hi2 : (N : Int) < n := by omega
  go_region_law (refine step_push1 rfl _ _ 22 rfl 25 (.slice none 0 0) 24 Try.underlying22 HI2.out rfl (B + 2) (.slice a2 P2.length cc2) P2.length us2 w7.heap.size (.slice va un vc) rfl rfl (by simp) (own_heap (hown2.alloc _) rfl) rfl (by omega) (by omega) (by simp; omega) ?_; intro g3 cap3 w3 hown3 hg3 hat3; obtain ⟨ho3, hgp3⟩ := grow_post (by omega) (by omega) HBK2.out HO2'.out HUS2.out HROW2.out HUI'.out (((Below.refl _ w7).alloc (Nat.le_refl _) _).drew) hown3 hg3 hat3; have k2 := ho3.c2; have kz := ho3.fz; have HGP := Lib.hid hgp3; clear ho3 hgp3 hown3 hg3 hat3)
  all_goals
    obtain ⟨v2', hO2, hR2, hO1, hR1, hB', hsz', hne'⟩ := HGP.out.other (q := B) (by omega) (by omega) (Nat.le_refl _) (by omega) (by omega) HBK2.out HO1'.out HR1'.out HNE'.out (by omega)
    have HO1'' := Lib.hid hO1
    have HR1'' := Lib.hid hR1
    have HO2'' := Lib.hid hO2
    have HR2'' := Lib.hid hR2
    have HNE'' : Hid (∀ g, v1'.ownBlock = some g → v2'.ownBlock ≠ some g) := Lib.hid (fun g h1 h2 => hne' g h2 h1)
    have HBL'' := Lib.hid (HBL'.out.trans hB')
    have HWZ'' := Lib.hid (Nat.le_trans hwz' hsz')
    clear hO1 hR1 hO2 hR2 hB' hne' hsz' g0 g2 glc gcc
    go_wp2_with fail
    go_roundg (gk - 1)
    case measure => omega
    case rel => exact ⟨k + 1, v1', v2', P1 ++ [cl], P2 ++ [cl], by omega, by go_num, HO1'', HO2'', HR1'', HR2'', HBL'', HWZ'', HNE'', HP1N, HP2N, by simp; omega, by simp; omega⟩
end Go.Proofs.Ytjbhglmmakkkgaa
