/- Walk: the statement CnfOfBdd. No condition. -/
import Derived.Test.YtelobilhppoooaaNi
import Derived.Test.YtelobilhppoooaaNh
import Derived.Test.YtelobilhppoooaaNe
import Derived.Test.YtelobilhppoooaaQi
import Derived.Test.YtelobilhppoooaaQj
namespace Go.Proofs.Ytelobilhppoooaa
open Go.ChangeShapes Go.WideShapes Go.ChangeAt Go.RowKit
set_option linter.unusedVariables false

theorem make_bdd {vars root : Int} {ns : List Fork} (h : BddOk vars root ns) (hl : ns.length ≤ 40) : makeM (vars + ns.length) vars (bddC vars root ns) = 0 := by
  have h1 := h.1
  have h2 := h.2.1
  unfold makeM
  rw [if_neg (by omega), if_neg (by omega), if_neg, if_neg]
  · have := bddC_len vars root ns
    have := canM_ln (bddC vars root ns)
    omega
  · intro he
    rw [List.any_eq_true] at he
    obtain ⟨c, hc, he⟩ := he
    rw [List.any_eq_true] at he
    obtain ⟨x, hx, he⟩ := he
    obtain ⟨g1, g2⟩ := bddC_lv h c hc x hx
    unfold outB at he
    simp at he
    omega
/-- what an assignment is worth -/
def folN (ns : List Fork) (root : Int) (m k : Nat) : Nat := (folV ns 2 (fun v => (assM m k).getD v.toNat false) (ns.length + 2) root).toNat
theorem folN_eq {ns : List Fork} {vars root : Int} (h : BddOk vars root ns) (m k : Nat) : folV ns 2 (fun v => (assM m k).getD v.toNat false) (ns.length + 2) root = (folN ns root m k : Int) ∧ folN ns root m k ≤ 1 := by
  have h2 := h.2.2.2.2.1
  have := fol_end h.2.2.2.1.toB (fun v => (assM m k).getD v.toNat false) (ns.length + 2) root h2.1 (by omega) (by omega)
  unfold folN
  omega
theorem sum_le {ns : List Fork} {vars root : Int} (h : BddOk vars root ns) (m : Nat) : ∀ j, sumTo (folN ns root m) j ≤ j
  | 0 => Nat.le_refl _
  | j + 1 => by
    have := sum_le h m j
    have := (folN_eq h m j).2
    rw [sumTo]
    omega
set_option maxRecDepth 100000 in
set_option maxHeartbeats 8000000 in
theorem CnfOfBdd_any (F : Nat → Prop) (vars root : Int) (nv : Value) (ns : List Fork) (w : World) (hx : Forks F w nv ns) (hv : I64 vars) (hr : I64 root) (hcap : ∀ a n c, nv = .slice a n c → n ≤ c) :
    Calls Try.prog 3 #[.agg #[.int .i64 vars, nv, .int .i64 root]] w (BoolPost w true) := by
  obtain ⟨a, n, c, rfl, HN, hn⟩ := hx.form
  obtain ⟨W1, hW1⟩ : ∃ W, w.alloc (.cells #[.int .i64 vars, .slice a n c, .int .i64 root] 24) = W := ⟨_, rfl⟩
  have hb1 : Below w.heap.size w W1 := by rw [← hW1]; exact (Below.refl _ _).alloc (Nat.le_refl _) _
  have c0 : W1.cell? ⟨w.heap.size, 0, none⟩ = some (.int .i64 vars) := by rw [← hW1]; simp
  have c1 : W1.cell? ⟨w.heap.size, 1, none⟩ = some (.slice a n c) := by rw [← hW1]; simp
  have c2 : W1.cell? ⟨w.heap.size, 2, none⟩ = some (.int .i64 root) := by rw [← hW1]; simp
  have hs1 : W1.heap.size = w.heap.size + 1 := by rw [← hW1]; simp
  have hl1 : w.heap.size < W1.heap.size := by omega
  have HX1 := Lib.hid (hx.below hb1)
  have HB1 := Lib.hid hb1
  have HW1 := Lib.hid hW1
  have HCP := Lib.hid hcap
  have HV := Lib.hid hv
  have HRR := Lib.hid hr
  clear hx hb1 hW1 hcap hv hr
  go_enter Try.func3, Try.ntmps3
  go_wp2_with fail
  rw [HW1.out]
  refine (known_any W1).mono ?_
  rintro e w2 ⟨rfl, hb2⟩
  have d0 := below_c hb2 hl1 c0
  have d1 := below_c hb2 hl1 c1
  have d2 := below_c hb2 hl1 c2
  have hl2 : w.heap.size < w2.heap.size := Nat.lt_of_lt_of_le hl1 hb2.size
  have HX2 := Lib.hid (HX1.out.below hb2)
  have HB2 : Hid (Below w.heap.size w w2) := Lib.hid (HB1.out.trans (hb2.mono (by omega)))
  clear hb2 c0 c1 c2 HX1 HW1 HB1
  by_cases h40 : 40 < n
  · have hd : decide ((40 : Int) < n) = true := decide_eq_true (by omega)
    have hd2 : decide (40 < n) = true := decide_eq_true h40
    clear h40
    go_wp2_with fail
    go_ret
    exact ⟨rfl, HB2.out⟩
  have hd : decide ((40 : Int) < n) = false := decide_eq_false (by omega)
  have hd2 : decide (40 < n) = false := decide_eq_false h40
  have hn40 : n ≤ 40 := by omega
  have HOF := Lib.hid (ofbdd_any _ vars root _ ns w2 HX2.out HV.out HRR.out)
  clear h40
  go_wp2_with fail
  refine HOF.out.mono ?_
  rintro e w3 ⟨v3, rfl, hb3, hno, hyes⟩
  have e0 := below_c hb3 hl2 d0
  have e1 := below_c hb3 hl2 d1
  have e2 := below_c hb3 hl2 d2
  have hl3 : w.heap.size < w3.heap.size := Nat.lt_of_lt_of_le hl2 hb3.size
  have HX3 := Lib.hid (HX2.out.below hb3)
  have HB3 : Hid (Below w.heap.size w w3) := Lib.hid (HB2.out.trans (hb3.mono (by omega)))
  obtain ⟨C, hC⟩ : ∃ C, ofBddM vars root ns = C := ⟨_, rfl⟩
  rw [hC] at hno hyes
  obtain ⟨R, hR⟩ : ∃ R, rigM vars root ns = R := ⟨_, rfl⟩
  have HR := Lib.hid hR
  rw [hC]
  clear hb3 d0 d1 d2 HX2 HB2 HOF
  rcases bool2 R with rfl | rfl
  case inr =>
    have hC0 : C ≠ 0 := by
      have hb : bddM vars root ns ≠ 0 := fun h => by rw [(bdd_rig vars root ns).1 h] at hR; cases hR
      rw [← hC, ofBddM, if_pos hb]
      exact hb
    obtain rfl := hno hC0
    have hd3 : (C != 0) = true := by rw [bne_iff_ne]; exact hC0
    obtain ⟨w4, hw4⟩ : ∃ W, w3.alloc (.cells #[.int .i64 0, .int .i64 0, .slice none 0 0] 28) = W := ⟨_, rfl⟩
    have hb4 : Below w3.heap.size w3 w4 := by rw [← hw4]; exact (Below.refl _ _).alloc (Nat.le_refl _) _
    have hs4 : w4.heap.size = w3.heap.size + 1 := by rw [← hw4]; simp
    have g0 : w4.cell? ⟨w3.heap.size, 0, none⟩ = some (.int .i64 0) := by rw [← hw4]; simp
    have g1 : w4.cell? ⟨w3.heap.size, 1, none⟩ = some (.int .i64 0) := by rw [← hw4]; simp
    have g2 : w4.cell? ⟨w3.heap.size, 2, none⟩ = some (.slice none 0 0) := by rw [← hw4]; simp
    have f0 := below_c hb4 hl3 e0
    have f1 := below_c hb4 hl3 e1
    have f2 := below_c hb4 hl3 e2
    have HRT := Lib.hid (right_any _ vars root _ ns w4 (HX3.out.below hb4) HV.out HRR.out HCP.out)
    rw [hR] at HRT
    have HB4 : Hid (Below w.heap.size w w4) := Lib.hid (HB3.out.trans (hb4.mono (by omega)))
    have HW4 := Lib.hid hw4
    have hl4 : w3.heap.size < w4.heap.size := by omega
    clear hno hyes hC hR hC0 hb4 hw4 HB3
    go_wp2_with fail
    rw [HW4.out]
    refine HRT.out.mono ?_
    rintro e w5 ⟨rfl, hb5⟩
    have i0 := below_c hb5 hl4 g0
    have i1 := below_c hb5 hl4 g1
    have i2 := below_c hb5 hl4 g2
    have HB5 : Hid (Below w.heap.size w w5) := Lib.hid (HB4.out.trans (hb5.mono (by omega)))
    clear hb5 HRT HW4 HB4 g0 g1 g2
    go_wp2_with fail
    go_ret
    exact ⟨rfl, HB5.out⟩
  have hbd : bddM vars root ns = 0 := (bdd_rig vars root ns).2 hR
  have hok : BddOk vars root ns := bdd_ok hbd
  have hC0 : C = 0 := by rw [← hC, ofBddM, if_neg (by rw [hbd]; simp), make_bdd hok (by rw [← HN.out]; exact hn40)]
  subst hC0
  obtain ⟨cv, rfl, hcv⟩ := hyes rfl
  obtain ⟨qa, qn, qc, rfl, _, _⟩ := hcv.form'
  have HOK := Lib.hid hok
  have HCV := Lib.hid hcv
  have hok1 := hok.1
  have hok2 := hok.2.1
  rw [← HN.out]
  obtain ⟨w4, hw4⟩ : ∃ W, w3.alloc (.cells #[.int .i64 (vars + n), .int .i64 vars, .slice qa qn qc] 28) = W := ⟨_, rfl⟩
  have hb4 : Below w3.heap.size w3 w4 := by rw [← hw4]; exact (Below.refl _ _).alloc (Nat.le_refl _) _
  have hs4 : w4.heap.size = w3.heap.size + 1 := by rw [← hw4]; simp
  have g0 : w4.cell? ⟨w3.heap.size, 0, none⟩ = some (.int .i64 (vars + n)) := by rw [← hw4]; simp
  have g1 : w4.cell? ⟨w3.heap.size, 1, none⟩ = some (.int .i64 vars) := by rw [← hw4]; simp
  have g2 : w4.cell? ⟨w3.heap.size, 2, none⟩ = some (.slice qa qn qc) := by rw [← hw4]; simp
  have f0 := below_c hb4 hl3 e0
  have f1 := below_c hb4 hl3 e1
  have f2 := below_c hb4 hl3 e2
  have HX4 := Lib.hid (HX3.out.below hb4)
  have HRT := Lib.hid (right_any _ vars root _ ns w4 HX4.out HV.out HRR.out HCP.out)
  rw [hR] at HRT
  have HB4 : Hid (Below w.heap.size w w4) := Lib.hid (HB3.out.trans (hb4.mono (by omega)))
  have HC4 := Lib.hid (HCV.out.below hb4)
  have HW4 := Lib.hid hw4
  have hl4 : w3.heap.size < w4.heap.size := by omega
  have hl4' : w.heap.size < w4.heap.size := by omega
  obtain ⟨cb, hcb⟩ : ∃ b, w3.heap.size = b := ⟨_, rfl⟩
  have HCB := Lib.hid hcb
  rw [hcb] at g0 g1 g2 hl4 hl3
  clear hno hyes hC hR hbd hok hcv hb4 hw4 HB3 HX3 HCV hcb hs4 e0 e1 e2
  go_upto_region 6 with fail
  rw [HW4.out, HCB.out]
  go_wp2_with fail
  refine HRT.out.mono ?_
  rintro e w5 ⟨rfl, hb5⟩
  have i0 := below_c hb5 hl4 g0
  have i1 := below_c hb5 hl4 g1
  have i2 := below_c hb5 hl4 g2
  have j0 := below_c hb5 hl4' f0
  have j1 := below_c hb5 hl4' f1
  have j2 := below_c hb5 hl4' f2
  have hs5 := hb5.size
  have hl5 : cb < w5.heap.size := by omega
  have hl5' : w.heap.size < w5.heap.size := by omega
  have HX5 := Lib.hid (HX4.out.below hb5)
  have HC5 := Lib.hid (HC4.out.below hb5)
  have HB5 : Hid (Below w.heap.size w w5) := Lib.hid (HB4.out.trans (hb5.mono (by omega)))
  have HLF := Lib.hid (lofbdd_any _ vars root _ ns w5 HX5.out HOK.out)
  clear hb5 HRT HW4 HB4 g0 g1 g2 f0 f1 f2 HX4 HC4 HCB
  go_wp2_with fail
  refine HLF.out.mono ?_
  rintro e w6 ⟨cv6, rfl, hb6, hc6⟩
  obtain ⟨ra, rn, rc, rfl, _, _⟩ := hc6.form'
  rw [← HN.out]
  obtain ⟨w7, hw7⟩ : ∃ W, w6.alloc (.cells #[.int .i64 (vars + n), .int .i64 vars, .slice ra rn rc] 28) = W := ⟨_, rfl⟩
  have hb7 : Below w6.heap.size w6 w7 := by rw [← hw7]; exact (Below.refl _ _).alloc (Nat.le_refl _) _
  have hb57 : Below w5.heap.size w5 w7 := hb6.trans (hb7.mono hb6.size)
  have hs7 : w7.heap.size = w6.heap.size + 1 := by rw [← hw7]; simp
  have m0 : w7.cell? ⟨w6.heap.size, 0, none⟩ = some (.int .i64 (vars + n)) := by rw [← hw7]; simp
  have m1 : w7.cell? ⟨w6.heap.size, 1, none⟩ = some (.int .i64 vars) := by rw [← hw7]; simp
  have m2 : w7.cell? ⟨w6.heap.size, 2, none⟩ = some (.slice ra rn rc) := by rw [← hw7]; simp
  have p0 := below_c hb57 hl5 i0
  have p1 := below_c hb57 hl5 i1
  have p2 := below_c hb57 hl5 i2
  have q0 := below_c hb57 hl5' j0
  have q1 := below_c hb57 hl5' j1
  have q2 := below_c hb57 hl5' j2
  have HX7 := Lib.hid (HX5.out.below hb57)
  have HC7 := Lib.hid (HC5.out.below hb57)
  have HB7 : Hid (Below w.heap.size w w7) := Lib.hid (HB5.out.trans (hb57.mono (by omega)))
  have HEQ := Lib.hid (lequal_any (.slice qa qn qc) (.slice ra rn rc) _ _ w7 HC7.out (hc6.below hb7))
  rw [beq_self_eq_true] at HEQ
  have HW7 := Lib.hid hw7
  have hl7 : cb < w7.heap.size := by have := hb57.size; omega
  have hl7' : w.heap.size < w7.heap.size := by omega
  obtain ⟨eb, heb⟩ : ∃ b, w6.heap.size = b := ⟨_, rfl⟩
  have HEB := Lib.hid heb
  rw [heb] at m0 m1 m2
  clear hb6 hb7 hb57 hw7 hs7 i0 i1 i2 j0 j1 j2 HX5 HC5 HB5 HLF hc6 heb hs5 hl5 hl5'
  go_upto_region 9 with fail
  rw [HW7.out, HEB.out]
  go_wp2_with fail
  refine HEQ.out.mono ?_
  rintro e w8 ⟨rfl, nd, rfl⟩
  obtain ⟨w9, hw9⟩ : ∃ W, w7.drewN nd = W := ⟨_, rfl⟩
  rw [hw9]
  have hb9 : Below w7.heap.size w7 w9 := by rw [← hw9]; exact below_drewN (Below.refl _ _) nd
  have s0 := below_c hb9 hl7 p0
  have s1 := below_c hb9 hl7 p1
  have s2 := below_c hb9 hl7 p2
  have t0 := below_c hb9 hl7' q0
  have t1 := below_c hb9 hl7' q1
  have t2 := below_c hb9 hl7' q2
  have HX9 := Lib.hid (HX7.out.below hb9)
  have HC9 := Lib.hid (HC7.out.below hb9)
  have HB9 : Hid (Below w.heap.size w w9) := Lib.hid (HB7.out.trans (hb9.mono (by omega)))
  have hl9 : cb < w9.heap.size := by have := hb9.size; omega
  have hl9' : w.heap.size < w9.heap.size := by have := hb9.size; omega
  clear hw9 hb9 p0 p1 p2 q0 q1 q2 m0 m1 m2 HX7 HC7 HB7 HEQ HW7 HEB hl7 hl7' hs1 hl1 hl2
  by_cases h6 : 6 < vars
  · have hd6 : decide (6 < vars) = true := decide_eq_true h6
    clear h6
    go_wp2_with fail
    go_ret
    exact ⟨rfl, HB9.out⟩
  have hd6 : decide (6 < vars) = false := decide_eq_false h6
  obtain ⟨m, rfl⟩ : ∃ m : Nat, vars = m := ⟨vars.toNat, by omega⟩
  have hm6 : m ≤ 6 := by omega
  clear h6
  obtain ⟨P, hP⟩ : ∃ P, 2 ^ m = P := ⟨_, rfl⟩
  have hpi : (2 : Int) ^ m = (P : Int) := by rw [← hP]; push_cast; rfl
  have hP64 : P ≤ 64 := by rw [← hP]; exact Nat.pow_le_pow_right (n := 2) (by omega) hm6
  have hsh : IntKind.i64.wrap ((2 : Int) ^ m) = (P : Int) := by rw [hpi]; exact IntWalk.i64_in _ ⟨by omega, by omega⟩
  have HP := Lib.hid hP
  have HA0 : Hid (0 = sumTo (folN ns root m) 0) := Lib.hid rfl
  have HBR0 : Hid (Below w9.heap.size w9 w9) := Lib.hid (Below.refl _ _)
  have hroot := HOK.out.2.2.2.2.1
  have hr0 : 0 ≤ root := hroot.1
  have hr1 : root ≤ 1 + (n : Int) := by rw [HN.out]; exact hroot.2
  clear hP hpi hroot
  go_wp2
  go_loopg [6, 7] P (fun gg u6 u7 wx => ∃ (j A : Nat), j + gg = P ∧ u7 = .int .i64 j ∧ u6 = .int .i64 A ∧ A ≤ j ∧ Hid (Below w9.heap.size w9 wx) ∧ Hid (A = sumTo (folN ns root m) j))
  case atStart => exact ⟨0, 0, by omega, rfl, rfl, Nat.le_refl _, HBR0, HA0⟩
  case round =>
  clear HBR0 HA0
  obtain ⟨j, A, hjg, rfl, rfl, hAj, HBR, HA⟩ := hrel
  have hszr := HBR.out.size
  have x0 := below_c HBR.out hl9 s0
  have x1 := below_c HBR.out hl9 s1
  have x2 := below_c HBR.out hl9 s2
  have y0 := below_c HBR.out hl9' t0
  have y1 := below_c HBR.out hl9' t1
  have y2 := below_c HBR.out hl9' t2
  have hlr : w.heap.size < wr.heap.size := by omega
  by_cases hj : j < P
  case neg =>
    have hdj : decide ((j : Int) < P) = false := decide_eq_false (by omega)
    have hdj2 : decide (j < P) = false := decide_eq_false hj
    obtain rfl : j = P := by omega
    have hct := projected_any (m + ns.length + 1) (ivl 0 (m + ns.length)) _ ((m : Int) + n) m _ _ wr (by have := bddC_vs HOK.out; simpa using this) (fun v hv => by rw [ivl_mem] at hv; have := HN.out; omega) (by rw [ivl_len]; omega) (HC9.out.below HBR.out)
      ⟨by have := canM_ln (bddC (m : Int) root ns); have := bddC_len (m : Int) root ns; have := HN.out; omega, fun d hd => by
        obtain ⟨_, c, hc, rfl⟩ := canM_iff.1 hd
        exact Nat.le_trans (claM_len c) (bddC_each _ _ _ c hc)⟩ (by omega)
    have hres : cntM (m + ns.length + 1) (ivl 0 m) (canM (bddC (m : Int) root ns)) = A := by
      rw [bdd_count HOK.out m _ rfl (by omega), HA.out, HP.out]
      rfl
    rw [hres] at hct
    have HCT := Lib.hid hct
    clear hct hres HA
    go_wp2_with fail
    refine HCT.out.mono ?_
    rintro e wz ⟨rfl, hbz⟩
    have HZ : Hid (Below w.heap.size w wz) := Lib.hid (HB9.out.trans ((HBR.out.trans (hbz.mono hszr)).mono (by omega)))
    clear hbz HCT
    go_wp2_with fail
    go_ret
    exact ⟨rfl, HZ.out⟩
  have hdj : decide ((j : Int) < P) = true := decide_eq_true (by omega)
  have hdj2 : decide (j < P) = true := decide_eq_true hj
  obtain ⟨hg1, hg2⟩ := folN_eq HOK.out m j
  obtain ⟨g, hg⟩ : ∃ g, folN ns root m j = g := ⟨_, rfl⟩
  rw [hg] at hg1 hg2
  have HAN : Hid (A + g = sumTo (folN ns root m) (j + 1)) := Lib.hid (by rw [sumTo, ← HA.out, hg])
  have hws : IntKind.i64.wrap ((A : Int) + g) = (A : Int) + g := IntWalk.i64_in _ ⟨by omega, by omega⟩
  have HAS := Lib.hid (assign_any m j wr.drew (by omega) (by omega))
  have HFO : Hid (∀ W v, Bools (fun b => wr.heap.size ≤ b) W v (assM m j) → Below wr.heap.size wr W → Calls Try.prog 10 #[.slice a n c, .int .i64 root, .int .i64 2, v] W fun e w' => e = .returned (.int .i64 g) ∧ Below W.heap.size W w') := Lib.hid fun W v hb hw => by
    have := follow_any _ _ (.slice a n c) v ns (assM m j) 2 root (ns.length + 2) W ((HX9.out.below HBR.out).below hw) hb HOK.out.2.2.2.1.toB ⟨HOK.out.2.2.2.2.1.1, by have := HOK.out.2.2.2.2.1.2; omega⟩ (by omega) (by have := HOK.out.2.2.1; omega) (fun f hf => by rw [assM_len]; exact HOK.out.2.2.2.2.2 f hf) (by have := HOK.out.2.2.2.2.1.2; omega)
    rw [hg1] at this
    exact this
  clear HA hg hg1
  go_upto_region 17 with fail
  go_region_held3 (fun w' => w'.cell? ⟨w.heap.size, 0, none⟩ = some (.int .i64 m) ∧ w'.cell? ⟨w.heap.size, 1, none⟩ = some (.slice a n c) ∧ w'.cell? ⟨w.heap.size, 2, none⟩ = some (.int .i64 root))
    (first | exact ⟨y0, y1, y2⟩ | exact ⟨z0, z1, z2⟩ | exact ⟨k0, k1, k2⟩ | go_keep)
    (first | (go_at_call 11; refine HAS.out.mono ?_; rintro e w5 ⟨iv, rfl, hbo, hb5⟩; have HBO := Lib.hid hbo; obtain ⟨ia, ic, rfl, _⟩ := hbo.form; have hbd : Below wr.heap.size wr w5 := ⟨hb5.os, hb5.tape, hb5.output, hb5.size, hb5.block⟩; have HBD := Lib.hid hbd; have z0 := below_c hbd hlr y0; have z1 := below_c hbd hlr y1; have z2 := below_c hbd hlr y2; clear hbo hb5 hbd)
           | (go_at_call 10; refine (HFO.out w5 _ HBO.out HBD.out).mono ?_; rintro e w6 ⟨rfl, hb6⟩; have HB6 := Lib.hid hb6; have k0 := below_c hb6 (Nat.lt_of_lt_of_le hlr HBD.out.size) z0; have k1 := below_c hb6 (Nat.lt_of_lt_of_le hlr HBD.out.size) z1; have k2 := below_c hb6 (Nat.lt_of_lt_of_le hlr HBD.out.size) z2; clear hb6))
  have HBN : Hid (Below w9.heap.size w9 w6) := Lib.hid (HBR.out.trans ((HBD.out.trans (HB6.out.mono HBD.out.size)).mono hszr))
  clear HBD HB6 HBO HAS HFO
  go_wp2_with fail
  go_roundg (gk - 1)
  case measure => omega
  case rel => exact ⟨j + 1, A + g, by omega, by go_num, by go_num, by omega, HBN, HAN⟩
end Go.Proofs.Ytelobilhppoooaa
