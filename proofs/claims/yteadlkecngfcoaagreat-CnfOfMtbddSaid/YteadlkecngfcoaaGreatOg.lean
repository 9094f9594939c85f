/- Walk: the statement's Count, Projected. Canonical clauses over a set of variables that is smaller than the fuel, few kept variables. -/
import Derived.Test.YteadlkecngfcoaaGreatNc
import Derived.Test.YteadlkecngfcoaaGreatQu
import Derived.Deep.RegionHeld3
namespace Go.Proofs.YteadlkecngfcoaaGreat
open Go.ChangeShapes Go.WideShapes Go.ChangeAt Go.RowKit
set_option linter.unusedVariables false

theorem cntM_le (k : Nat) : ∀ (keep : List Int) (cs : List (List Int)), cntM k keep cs ≤ 2 ^ keep.length
  | [], cs => by unfold cntM; split; exact Nat.zero_le _; split <;> simp
  | v :: r, cs => by
    unfold cntM
    have h1 := cntM_le k r (resM cs v)
    have h2 := cntM_le k r (resM cs (-v))
    rw [List.length_cons, Nat.pow_succ]
    split <;> omega
def IntB (w : World) (x : Int) (e : Ending) (w' : World) : Prop := e = .returned (.int .i64 x) ∧ Below w.heap.size w w'
def LinkB (W w' : World) : Prop := Below W.heap.size W w'
theorem hidT {A B C : World} (h : Hid (LinkB A B)) (g : Hid (LinkB B C)) : Hid (LinkB A C) := Lib.hid (h.out.trans (g.out.mono h.out.size))
theorem hidR (A : World) : Hid (LinkB A A) := Lib.hid (Below.refl _ _)
theorem link_drew {A B : World} (h : LinkB A B) : LinkB A B.drew := ⟨h.os, h.tape, h.output, h.size, h.block⟩
theorem drew_link {A B : World} (h : Below A.drew.heap.size A.drew B) : LinkB A B := ⟨h.os, h.tape, h.output, h.size, h.block⟩
def RPost (w0 W : World) (y : Nat × Nat × Int) (cs : List (List Int)) (x : Int) (e : Ending) (w' : World) : Prop :=
  ∃ a n c, e = .returned (.slice a n c) ∧ Hid (Clss (fun _ => True) w' (.slice a n c) (resM cs x)) ∧ Hid (LinkB w0 w') ∧ Hid (LinkB W w') ∧ w'.cell? ⟨y.1, y.2.1, none⟩ = some (.int .i64 y.2.2)
def CPost (w0 W : World) (y : Nat × Nat × Int) (x : Int) (e : Ending) (w' : World) : Prop :=
  e = .returned (.int .i64 x) ∧ Hid (LinkB w0 w') ∧ Hid (LinkB W w') ∧ w'.cell? ⟨y.1, y.2.1, none⟩ = some (.int .i64 y.2.2)
theorem Ints.tail {F : Nat → Prop} {w : World} {b o n c : Nat} {y : Int} {r : List Int} {KA : Option Addr} (h : Ints F w (.slice (some ⟨b, o, none⟩) n c) (y :: r)) (hc : n ≤ c) (hk : (if c = 1 then some ⟨b, o, none⟩ else some ⟨b, o + 1, none⟩ : Option Addr) = KA) : Ints F w (.slice KA (n - 1) (c - 1)) r := by
  obtain ⟨⟨a, cap, h1, h2, h3⟩, h4⟩ := h
  rw [List.length_map, List.length_cons] at h1 h2
  injection h1 with e1 e2 e3
  subst e1 e2 e3
  refine ⟨⟨KA, c - 1, by simp, by simp; omega, fun j u hu => ?_⟩, fun x hx => h4 x (List.mem_cons_of_mem _ hx)⟩
  have hj : j < r.length := by
    have := (List.getElem?_eq_some_iff.1 hu).1
    simpa using this
  obtain ⟨b', off, ha, hF, hc⟩ := h3 (j + 1) u (by simpa using hu)
  injection ha with ha
  injection ha with ha1 ha2
  subst ha1 ha2
  rw [if_neg (by omega)] at hk
  exact ⟨b, o + 1, hk.symm, hF, by rw [show o + 1 + j = o + (j + 1) by omega]; exact hc⟩
set_option maxRecDepth 100000 in
set_option maxHeartbeats 8000000 in
theorem count_any (k : Nat) (keep : List Int) : ∀ (S : List Int) (F G : Nat → Prop) (v : Value) (ka : Option Addr) (kn kc : Nat) (cs : List (List Int)) (w : World), Vs S cs → (∀ v ∈ S, v ≤ 1000000) → S.length < k → Clss F w v cs → SzOk cs →
    Ints G w (.slice ka kn kc) keep → kn ≤ kc → (∀ v ∈ keep, 1 ≤ v ∧ v ≤ 1000000) → keep.length ≤ 40 →
    Calls Tryz.prog 30 #[v, .slice ka kn kc] w (IntB w (cntM k keep cs)) := by
  induction keep with
  | nil =>
    intro S F G v ka kn kc cs w hv hS hk hx hok hy hkc hkp hkl
    have hsat := sat_any k S F v cs w hv hS hk hx hok
    obtain ⟨a, n, c, rfl, HN, hn⟩ := hx.form'
    have hn2 : n ≤ 1048576 := by rw [HN.out]; exact hok.1
    obtain ⟨R, hR⟩ : ∃ R, cntM k ([] : List Int) cs = R := ⟨_, rfl⟩
    rw [hR]
    have hKN : kn = (([] : List Int)).length := hy.len.1
    have HX := Lib.hid hx
    have HSA := Lib.hid hsat
    have HOK := Lib.hid hok
    have HY := Lib.hid hy
    by_cases hhd : cs.head? = some []
    · rcases cs with _ | ⟨c0, r⟩
      · cases hhd
      simp at hhd
      subst hhd
      have HF : Hid (R = 0) := Lib.hid (by rw [← hR, cntM, if_pos (by simp)])
      have hnp : 0 < n := by rw [HN.out]; simp
      have hnp2 : (0 : Int) < n := by omega
      have hdp : decide ((0 : Int) < n) = true := decide_eq_true hnp2
      have hdp2 : decide (0 < n) = true := decide_eq_true hnp
      obtain ⟨b, o, u, rfl, _, hb, hcc, hu⟩ := hx.at (k := 0) (x := []) rfl
      rw [Nat.add_zero] at hcc
      obtain ⟨ua, un, uc, rfl, HUN, hun⟩ := hu.form'
      have hu0 : un = 0 := HUN.out
      subst hu0
      clear hR hx hok hn hu hun hv hS hsat hKN hkp hy
      go_enter Tryz.func30, Tryz.ntmps30
      go_wp2
      go_ret
      exact ⟨by rw [HF.out]; rfl, Below.refl _ _⟩
    rcases cs with _ | ⟨_ | ⟨x, s⟩, r⟩
    · have hn0 : n = 0 := HN.out
      subst hn0
      obtain ⟨cs, hcs⟩ : ∃ cs, ([] : List (List Int)) = cs := ⟨_, rfl⟩
      rw [hcs] at hR hx hok hv hsat hhd HN HX HSA HOK
      clear hcs
      obtain rfl : kn = 0 := hKN
      have HF : Hid (R = if satM k cs = true then 1 else 0) := Lib.hid (by rw [← hR, cntM, if_neg hhd])
      clear hR hx hok hn hv hS hsat hkp hy hhd
      obtain ⟨B1, hB1⟩ : ∃ B1, satM k cs = B1 := ⟨_, rfl⟩
      rw [hB1] at HSA
      have HB1 := Lib.hid hB1
      clear hB1
      go_enter Tryz.func30, Tryz.ntmps30
      go_wp2_with fail
      refine HSA.out.mono ?_
      rintro e w1 ⟨rfl, hb1⟩
      have HBB := Lib.hid hb1
      clear hb1
      rcases bool2 B1 with rfl | rfl
      · have HG : Hid (R = 1) := Lib.hid (by rw [HF.out, HB1.out, if_pos rfl])
        go_wp2_with fail
        go_ret
        exact ⟨by rw [HG.out]; rfl, HBB.out⟩
      · have HG : Hid (R = 0) := Lib.hid (by rw [HF.out, HB1.out, if_neg (by simp)])
        go_wp2_with fail
        go_ret
        exact ⟨by rw [HG.out]; rfl, HBB.out⟩
    · exact absurd rfl hhd
    · skip
      obtain ⟨b, o, u, rfl, _, hb, hcc, hu⟩ := hx.at (k := 0) (x := x :: s) rfl
      rw [Nat.add_zero] at hcc
      obtain ⟨ua, un, uc, rfl, HUN, hun⟩ := hu.form'
      have hup : 0 < un := by rw [HUN.out]; simp
      have huz : ((un : Int) == 0) = false := by rw [beq_eq_false_iff_ne]; omega
      have huz2 : (un == 0) = false := by rw [beq_eq_false_iff_ne]; omega
      have hnp : 0 < n := by rw [HN.out]; simp
      have hnp2 : (0 : Int) < n := by omega
      have hdp : decide ((0 : Int) < n) = true := decide_eq_true hnp2
      have hdp2 : decide (0 < n) = true := decide_eq_true hnp
      obtain ⟨cs, hcs⟩ : ∃ cs, (x :: s) :: r = cs := ⟨_, rfl⟩
      rw [hcs] at hR hx hok hv hsat hhd HN HX HSA HOK
      clear hu hun hcs HUN
      obtain rfl : kn = 0 := hKN
      have HF : Hid (R = if satM k cs = true then 1 else 0) := Lib.hid (by rw [← hR, cntM, if_neg hhd])
      clear hR hx hok hn hv hS hsat hkp hy hhd
      obtain ⟨B1, hB1⟩ : ∃ B1, satM k cs = B1 := ⟨_, rfl⟩
      rw [hB1] at HSA
      have HB1 := Lib.hid hB1
      clear hB1
      go_enter Tryz.func30, Tryz.ntmps30
      go_wp2_with fail
      refine HSA.out.mono ?_
      rintro e w1 ⟨rfl, hb1⟩
      have HBB := Lib.hid hb1
      clear hb1
      rcases bool2 B1 with rfl | rfl
      · have HG : Hid (R = 1) := Lib.hid (by rw [HF.out, HB1.out, if_pos rfl])
        go_wp2_with fail
        go_ret
        exact ⟨by rw [HG.out]; rfl, HBB.out⟩
      · have HG : Hid (R = 0) := Lib.hid (by rw [HF.out, HB1.out, if_neg (by simp)])
        go_wp2_with fail
        go_ret
        exact ⟨by rw [HG.out]; rfl, HBB.out⟩
  | cons y t ih =>
    intro S F G v ka kn kc cs w hv hS hk hx hok hy hkc hkp hkl
    have hsat := sat_any k S F v cs w hv hS hk hx hok
    obtain ⟨a, n, c, rfl, HN, hn⟩ := hx.form'
    have hn2 : n ≤ 1048576 := by rw [HN.out]; exact hok.1
    obtain ⟨R, hR⟩ : ∃ R, cntM k (y :: t) cs = R := ⟨_, rfl⟩
    rw [hR]
    have hKN : kn = (y :: t).length := hy.len.1
    have HX := Lib.hid hx
    have HSA := Lib.hid hsat
    have HOK := Lib.hid hok
    have HY := Lib.hid hy
    by_cases hhd : cs.head? = some []
    · rcases cs with _ | ⟨c0, r⟩
      · cases hhd
      simp at hhd
      subst hhd
      have HF : Hid (R = 0) := Lib.hid (by rw [← hR, cntM, if_pos (by simp)])
      have hnp : 0 < n := by rw [HN.out]; simp
      have hnp2 : (0 : Int) < n := by omega
      have hdp : decide ((0 : Int) < n) = true := decide_eq_true hnp2
      have hdp2 : decide (0 < n) = true := decide_eq_true hnp
      obtain ⟨b, o, u, rfl, _, hb, hcc, hu⟩ := hx.at (k := 0) (x := []) rfl
      rw [Nat.add_zero] at hcc
      obtain ⟨ua, un, uc, rfl, HUN, hun⟩ := hu.form'
      have hu0 : un = 0 := HUN.out
      subst hu0
      clear hR hx hok hn hu hun hv hS hsat hKN hkp hy ih
      go_enter Tryz.func30, Tryz.ntmps30
      go_wp2
      go_ret
      exact ⟨by rw [HF.out]; rfl, Below.refl _ _⟩
    rcases cs with _ | ⟨_ | ⟨x, s⟩, r⟩
    · have hn0 : n = 0 := HN.out
      subst hn0
      obtain ⟨cs, hcs⟩ : ∃ cs, ([] : List (List Int)) = cs := ⟨_, rfl⟩
      rw [hcs] at hR hx hok hv hsat hhd HN HX HSA HOK
      clear hcs
      have hknp : 1 ≤ kn := by rw [hKN]; simp
      have hknp2 : (1 : Int) ≤ kn := by omega
      have hknp4 : 0 < kn := by omega
      have hknp3 : (0 : Int) < kn := by omega
      have hkc2 : (kn : Int) ≤ kc := by omega
      have hkz : ((kn : Int) == 0) = false := by rw [beq_eq_false_iff_ne]; omega
      have hkz2 : (kn == 0) = false := by rw [beq_eq_false_iff_ne]; omega
      have htl : t.length ≤ 40 := by simp at hkl; omega
      have HF : Hid (R = cntM k t (resM cs y) + cntM k t (resM cs (-y))) := Lib.hid (by rw [← hR, cntM, if_neg hhd])
      obtain ⟨hy1, hy2⟩ := hkp y (List.mem_cons_self ..)
      obtain ⟨kb, ko, rfl, _, hkb, hyc, hy64⟩ := hy.at (k := 0) (x := y) rfl
      rw [Nat.add_zero] at hyc
      obtain ⟨KA, hKA⟩ : ∃ KA, (if kc = 1 then some ⟨kb, ko, none⟩ else some ⟨kb, ko + 1, none⟩ : Option Addr) = KA := ⟨_, rfl⟩
      have hsl : ∀ W, (Instr.slice 22 (.slice (some ⟨kb, ko, none⟩) kn kc) (some (.int .i64 1)) none none).run Tryz.prog W = .ok (.slice KA (kn - 1) (kc - 1)) W := fun W => by
        rw [run_slice_l W _ _ _ _ (by kernel_rfl) .i64 1 (by omega) (by omega), ← hKA]
        rfl
      have hsl2 : ∀ W, (Instr.sliceAt 22 (.slice (some ⟨kb, ko, none⟩) kn kc) (some (.int .i64 1)) none none).run Tryz.prog W = .ok (.slice KA (kn - 1) (kc - 1)) W := fun W => by
        rw [run_sliceAt_slice W _ _ _ _ _ (by kernel_rfl)]
        exact hsl W
      have HKA := Lib.hid hKA
      have hsm : Sm y := by unfold Sm; omega
      have hwn := hsm.neg
      have hI : I64 (-y) := by unfold I64; omega
      have hbr : (-y == -y) = true := by simp
      have hE : ∀ x : Int, ∀ u ∈ S.erase (varM x), u ≤ 1000000 := fun x u hu => hS u (List.mem_of_mem_erase hu)
      have hlen : ∀ x : Int, (S.erase (varM x)).length < k := fun x => by
        have := List.length_erase (l := S) (a := varM x)
        split at this <;> omega
      have HR1 : Hid (∀ W, Hid (LinkB w W) → Calls Tryz.prog 51 #[.slice a 0 c, .int .i64 y] W (RPost w W (kb, ko, y) cs y)) := Lib.hid fun W hW => by
        refine (lresidual_any _ _ cs y W (HX.out.below hW.out) hy64 hok.1 hok.2).mono ?_
        rintro e w' ⟨v', rfl, hc, hb⟩
        have hl : LinkB W w' := hb
        obtain ⟨q, m, d, rfl, _, _⟩ := hc.form'
        exact ⟨q, m, d, rfl, Lib.hid (Rows1.mono (fun _ _ _ _ _ h hg => h.mono hg) hc fun _ _ => trivial), hidT hW (Lib.hid hl), Lib.hid hl, below_c hl (Nat.lt_of_lt_of_le hkb hW.out.size) (below_c hW.out hkb hyc)⟩
      have HR2 : Hid (∀ W, Hid (LinkB w W) → Calls Tryz.prog 51 #[.slice a 0 c, .int .i64 (-y)] W (RPost w W (kb, ko, y) cs (-y))) := Lib.hid fun W hW => by
        refine (lresidual_any _ _ cs (-y) W (HX.out.below hW.out) hI hok.1 hok.2).mono ?_
        rintro e w' ⟨v', rfl, hc, hb⟩
        have hl : LinkB W w' := hb
        obtain ⟨q, m, d, rfl, _, _⟩ := hc.form'
        exact ⟨q, m, d, rfl, Lib.hid (Rows1.mono (fun _ _ _ _ _ h hg => h.mono hg) hc fun _ _ => trivial), hidT hW (Lib.hid hl), Lib.hid hl, below_c hl (Nat.lt_of_lt_of_le hkb hW.out.size) (below_c hW.out hkb hyc)⟩
      have key : ∀ x : Int, Sm x → x ≠ 0 → ∀ q m d W0 W, Hid (Clss (fun _ => True) W0 (.slice q m d) (resM cs x)) → Hid (LinkB W0 W) → Hid (LinkB w W) → Calls Tryz.prog 30 #[.slice q m d, .slice KA (kn - 1) (kc - 1)] W (CPost w W (kb, ko, y) (cntM k t (resM cs x))) := fun x hsx hx0 q m d W0 W hc h0 hw => by
        refine (ih (S.erase (varM x)) (fun _ => True) G _ _ _ _ (resM cs x) W (hv.res hsx hx0) (hE x) (hlen x) (hc.out.below h0.out) (hok.res x) ((HY.out.tail hkc HKA.out).below hw.out) (by omega) (fun u hu => hkp u (List.mem_cons_of_mem _ hu)) htl).mono ?_
        rintro e w' ⟨rfl, hb⟩
        have hl : LinkB W w' := hb
        exact ⟨rfl, hidT hw (Lib.hid hl), Lib.hid hl, below_c hl (Nat.lt_of_lt_of_le hkb hw.out.size) (below_c hw.out hkb hyc)⟩
      have HC1 := Lib.hid (key y hsm (by omega))
      have HC2 := Lib.hid (key (-y) (by unfold Sm; omega) (by omega))
      clear hR hx hok hn hv hS hsat hkp hy hhd hE hlen key hI ih hKA hKN
      obtain ⟨A1, hA1⟩ : ∃ A, cntM k t (resM cs y) = A := ⟨_, rfl⟩
      obtain ⟨A2, hA2⟩ : ∃ A, cntM k t (resM cs (-y)) = A := ⟨_, rfl⟩
      have hl1 : A1 ≤ 1099511627776 := by rw [← hA1]; exact Nat.le_trans (cntM_le k t _) (Nat.pow_le_pow_right (n := 2) (by omega) htl)
      have hl2 : A2 ≤ 1099511627776 := by rw [← hA2]; exact Nat.le_trans (cntM_le k t _) (Nat.pow_le_pow_right (n := 2) (by omega) htl)
      have hwa : IntKind.i64.wrap ((A1 : Int) + A2) = (A1 : Int) + A2 := IntWalk.i64_in _ ⟨by omega, by omega⟩
      have HG : Hid ((R : Int) = (A1 : Int) + A2) := Lib.hid (by rw [HF.out, hA1, hA2]; simp)
      rw [hA1] at HC1
      rw [hA2] at HC2
      have HB0 : Hid (LinkB w w) := hidR w
      have HBD : Hid (LinkB w w.drew) := Lib.hid (link_drew (Below.refl _ _))
      clear hA1 hA2 HF HSA HX HOK HY
      go_enter Tryz.func30, Tryz.ntmps30
      go_upto_region 7 with fail
      go_region_held3 (fun W => Hid (LinkB w W) ∧ W.cell? ⟨kb, ko, none⟩ = some (.int .i64 y))
        (first | exact ⟨HBD, hyc⟩ | exact ⟨by assumption, by assumption⟩ | go_keep)
        (first | (go_at_call_has 51 (Value.int .i64 y); refine Calls.mono (HR1.out _ ?h2) ?_; (case h2 => assumption); rintro e w1 ⟨q1, m1, d1, rfl, HK1, HM1, HL1, hz1⟩)
               | (go_at_call_has 51 (Value.int .i64 (-y)); refine Calls.mono (HR2.out _ ?h2) ?_; (case h2 => assumption); rintro e w2 ⟨q2, m2, d2, rfl, HK2, HM2, HL2, hz2⟩)
               | (go_at_call_of 30 (Value.slice q1 m1 d1); refine Calls.mono (HC1.out q1 m1 d1 w1 _ HK1 ?h1 ?h2) ?_; (case h1 => first | exact hidR _ | assumption | exact hidT (by assumption) (by assumption)); (case h2 => assumption); rintro e w3 ⟨rfl, HM3, HL3, hz3⟩)
               | (go_at_call_of 30 (Value.slice q2 m2 d2); refine Calls.mono (HC2.out q2 m2 d2 w2 _ HK2 ?h1 ?h2) ?_; (case h1 => first | exact hidR _ | assumption | exact hidT (by assumption) (by assumption)); (case h2 => assumption); rintro e w4 ⟨rfl, HM4, HL4, hz4⟩))
      all_goals
        go_wp2_with fail
        go_ret
        exact ⟨by rw [HG.out]; rfl, Hid.out (p := LinkB w _) (by assumption)⟩
    · exact absurd rfl hhd
    · skip
      obtain ⟨b, o, u, rfl, _, hb, hcc, hu⟩ := hx.at (k := 0) (x := x :: s) rfl
      rw [Nat.add_zero] at hcc
      obtain ⟨ua, un, uc, rfl, HUN, hun⟩ := hu.form'
      have hup : 0 < un := by rw [HUN.out]; simp
      have huz : ((un : Int) == 0) = false := by rw [beq_eq_false_iff_ne]; omega
      have huz2 : (un == 0) = false := by rw [beq_eq_false_iff_ne]; omega
      have hnp : 0 < n := by rw [HN.out]; simp
      have hnp2 : (0 : Int) < n := by omega
      have hdp : decide ((0 : Int) < n) = true := decide_eq_true hnp2
      have hdp2 : decide (0 < n) = true := decide_eq_true hnp
      obtain ⟨cs, hcs⟩ : ∃ cs, (x :: s) :: r = cs := ⟨_, rfl⟩
      rw [hcs] at hR hx hok hv hsat hhd HN HX HSA HOK
      clear hu hun hcs HUN
      have hknp : 1 ≤ kn := by rw [hKN]; simp
      have hknp2 : (1 : Int) ≤ kn := by omega
      have hknp4 : 0 < kn := by omega
      have hknp3 : (0 : Int) < kn := by omega
      have hkc2 : (kn : Int) ≤ kc := by omega
      have hkz : ((kn : Int) == 0) = false := by rw [beq_eq_false_iff_ne]; omega
      have hkz2 : (kn == 0) = false := by rw [beq_eq_false_iff_ne]; omega
      have htl : t.length ≤ 40 := by simp at hkl; omega
      have HF : Hid (R = cntM k t (resM cs y) + cntM k t (resM cs (-y))) := Lib.hid (by rw [← hR, cntM, if_neg hhd])
      obtain ⟨hy1, hy2⟩ := hkp y (List.mem_cons_self ..)
      obtain ⟨kb, ko, rfl, _, hkb, hyc, hy64⟩ := hy.at (k := 0) (x := y) rfl
      rw [Nat.add_zero] at hyc
      obtain ⟨KA, hKA⟩ : ∃ KA, (if kc = 1 then some ⟨kb, ko, none⟩ else some ⟨kb, ko + 1, none⟩ : Option Addr) = KA := ⟨_, rfl⟩
      have hsl : ∀ W, (Instr.slice 22 (.slice (some ⟨kb, ko, none⟩) kn kc) (some (.int .i64 1)) none none).run Tryz.prog W = .ok (.slice KA (kn - 1) (kc - 1)) W := fun W => by
        rw [run_slice_l W _ _ _ _ (by kernel_rfl) .i64 1 (by omega) (by omega), ← hKA]
        rfl
      have hsl2 : ∀ W, (Instr.sliceAt 22 (.slice (some ⟨kb, ko, none⟩) kn kc) (some (.int .i64 1)) none none).run Tryz.prog W = .ok (.slice KA (kn - 1) (kc - 1)) W := fun W => by
        rw [run_sliceAt_slice W _ _ _ _ _ (by kernel_rfl)]
        exact hsl W
      have HKA := Lib.hid hKA
      have hsm : Sm y := by unfold Sm; omega
      have hwn := hsm.neg
      have hI : I64 (-y) := by unfold I64; omega
      have hbr : (-y == -y) = true := by simp
      have hE : ∀ x : Int, ∀ u ∈ S.erase (varM x), u ≤ 1000000 := fun x u hu => hS u (List.mem_of_mem_erase hu)
      have hlen : ∀ x : Int, (S.erase (varM x)).length < k := fun x => by
        have := List.length_erase (l := S) (a := varM x)
        split at this <;> omega
      have HR1 : Hid (∀ W, Hid (LinkB w W) → Calls Tryz.prog 51 #[.slice (some ⟨b, o, none⟩) n c, .int .i64 y] W (RPost w W (kb, ko, y) cs y)) := Lib.hid fun W hW => by
        refine (lresidual_any _ _ cs y W (HX.out.below hW.out) hy64 hok.1 hok.2).mono ?_
        rintro e w' ⟨v', rfl, hc, hb⟩
        have hl : LinkB W w' := hb
        obtain ⟨q, m, d, rfl, _, _⟩ := hc.form'
        exact ⟨q, m, d, rfl, Lib.hid (Rows1.mono (fun _ _ _ _ _ h hg => h.mono hg) hc fun _ _ => trivial), hidT hW (Lib.hid hl), Lib.hid hl, below_c hl (Nat.lt_of_lt_of_le hkb hW.out.size) (below_c hW.out hkb hyc)⟩
      have HR2 : Hid (∀ W, Hid (LinkB w W) → Calls Tryz.prog 51 #[.slice (some ⟨b, o, none⟩) n c, .int .i64 (-y)] W (RPost w W (kb, ko, y) cs (-y))) := Lib.hid fun W hW => by
        refine (lresidual_any _ _ cs (-y) W (HX.out.below hW.out) hI hok.1 hok.2).mono ?_
        rintro e w' ⟨v', rfl, hc, hb⟩
        have hl : LinkB W w' := hb
        obtain ⟨q, m, d, rfl, _, _⟩ := hc.form'
        exact ⟨q, m, d, rfl, Lib.hid (Rows1.mono (fun _ _ _ _ _ h hg => h.mono hg) hc fun _ _ => trivial), hidT hW (Lib.hid hl), Lib.hid hl, below_c hl (Nat.lt_of_lt_of_le hkb hW.out.size) (below_c hW.out hkb hyc)⟩
      have key : ∀ x : Int, Sm x → x ≠ 0 → ∀ q m d W0 W, Hid (Clss (fun _ => True) W0 (.slice q m d) (resM cs x)) → Hid (LinkB W0 W) → Hid (LinkB w W) → Calls Tryz.prog 30 #[.slice q m d, .slice KA (kn - 1) (kc - 1)] W (CPost w W (kb, ko, y) (cntM k t (resM cs x))) := fun x hsx hx0 q m d W0 W hc h0 hw => by
        refine (ih (S.erase (varM x)) (fun _ => True) G _ _ _ _ (resM cs x) W (hv.res hsx hx0) (hE x) (hlen x) (hc.out.below h0.out) (hok.res x) ((HY.out.tail hkc HKA.out).below hw.out) (by omega) (fun u hu => hkp u (List.mem_cons_of_mem _ hu)) htl).mono ?_
        rintro e w' ⟨rfl, hb⟩
        have hl : LinkB W w' := hb
        exact ⟨rfl, hidT hw (Lib.hid hl), Lib.hid hl, below_c hl (Nat.lt_of_lt_of_le hkb hw.out.size) (below_c hw.out hkb hyc)⟩
      have HC1 := Lib.hid (key y hsm (by omega))
      have HC2 := Lib.hid (key (-y) (by unfold Sm; omega) (by omega))
      clear hR hx hok hn hv hS hsat hkp hy hhd hE hlen key hI ih hKA hKN
      obtain ⟨A1, hA1⟩ : ∃ A, cntM k t (resM cs y) = A := ⟨_, rfl⟩
      obtain ⟨A2, hA2⟩ : ∃ A, cntM k t (resM cs (-y)) = A := ⟨_, rfl⟩
      have hl1 : A1 ≤ 1099511627776 := by rw [← hA1]; exact Nat.le_trans (cntM_le k t _) (Nat.pow_le_pow_right (n := 2) (by omega) htl)
      have hl2 : A2 ≤ 1099511627776 := by rw [← hA2]; exact Nat.le_trans (cntM_le k t _) (Nat.pow_le_pow_right (n := 2) (by omega) htl)
      have hwa : IntKind.i64.wrap ((A1 : Int) + A2) = (A1 : Int) + A2 := IntWalk.i64_in _ ⟨by omega, by omega⟩
      have HG : Hid ((R : Int) = (A1 : Int) + A2) := Lib.hid (by rw [HF.out, hA1, hA2]; simp)
      rw [hA1] at HC1
      rw [hA2] at HC2
      have HB0 : Hid (LinkB w w) := hidR w
      have HBD : Hid (LinkB w w.drew) := Lib.hid (link_drew (Below.refl _ _))
      clear hA1 hA2 HF HSA HX HOK HY
      go_enter Tryz.func30, Tryz.ntmps30
      go_upto_region 7 with fail
      go_region_held3 (fun W => Hid (LinkB w W) ∧ W.cell? ⟨kb, ko, none⟩ = some (.int .i64 y))
        (first | exact ⟨HBD, hyc⟩ | exact ⟨by assumption, by assumption⟩ | go_keep)
        (first | (go_at_call_has 51 (Value.int .i64 y); refine Calls.mono (HR1.out _ ?h2) ?_; (case h2 => assumption); rintro e w1 ⟨q1, m1, d1, rfl, HK1, HM1, HL1, hz1⟩)
               | (go_at_call_has 51 (Value.int .i64 (-y)); refine Calls.mono (HR2.out _ ?h2) ?_; (case h2 => assumption); rintro e w2 ⟨q2, m2, d2, rfl, HK2, HM2, HL2, hz2⟩)
               | (go_at_call_of 30 (Value.slice q1 m1 d1); refine Calls.mono (HC1.out q1 m1 d1 w1 _ HK1 ?h1 ?h2) ?_; (case h1 => first | exact hidR _ | assumption | exact hidT (by assumption) (by assumption)); (case h2 => assumption); rintro e w3 ⟨rfl, HM3, HL3, hz3⟩)
               | (go_at_call_of 30 (Value.slice q2 m2 d2); refine Calls.mono (HC2.out q2 m2 d2 w2 _ HK2 ?h1 ?h2) ?_; (case h1 => first | exact hidR _ | assumption | exact hidT (by assumption) (by assumption)); (case h2 => assumption); rintro e w4 ⟨rfl, HM4, HL4, hz4⟩))
      all_goals
        go_wp2_with fail
        go_ret
        exact ⟨by rw [HG.out]; rfl, Hid.out (p := LinkB w _) (by assumption)⟩

theorem own_cap {w : World} {base : Nat} {e : TypeId} {a : Option Addr} {n c size : Nat} {xs : List Value} (h : w.ownsRow base e size (.slice a n c) n xs) : n ≤ c := by
  rcases h.2 with ⟨h1, h2⟩ | ⟨g, cap, cur, h1, _, _, h2, _⟩
  · rw [h2]; exact Nat.zero_le _
  · injection h1 with _ _ h3
    rw [h3]; exact h2
set_option maxRecDepth 100000 in
set_option maxHeartbeats 4000000 in
theorem projected_any (k : Nat) (S : List Int) (F : Nat → Prop) (vars : Int) (N : Nat) (v : Value) (cs : List (List Int)) (w : World) (hv : Vs S cs) (hS : ∀ v ∈ S, v ≤ 1000000) (hk : S.length < k) (hx : Clss F w v cs) (hok : SzOk cs) (hN : N ≤ 40) :
    Calls Tryz.prog 14 #[.agg #[.int .i64 vars, .int .i64 N, v]] w (IntB w (cntM k (ivl 0 N) cs)) := by
  obtain ⟨a, n, c, rfl, HN, hn⟩ := hx.form'
  have hinfo1 : (Tryz.prog.info? 3).map (fun i => (i.zero, i.size, i.bytes)) = some (some (.int .i64 0), 1, 8) := by kernel_rfl
  have HI1 := Lib.hid hinfo1
  obtain ⟨W1, hW1⟩ : ∃ W, w.alloc (.cells #[.int .i64 vars, .int .i64 N, .slice a n c] 31) = W := ⟨_, rfl⟩
  have hb1 : Below w.heap.size w W1 := by rw [← hW1]; exact (Below.refl _ _).alloc (Nat.le_refl _) _
  have c1 : W1.cell? ⟨w.heap.size, 1, none⟩ = some (.int .i64 N) := by rw [← hW1]; simp
  have c2 : W1.cell? ⟨w.heap.size, 2, none⟩ = some (.slice a n c) := by rw [← hW1]; simp
  have hs1 : w.heap.size + 1 = W1.heap.size := by rw [← hW1]; simp
  have hlt : w.heap.size < W1.heap.size := by omega
  have HX := Lib.hid (hx.below hb1)
  have HB1 := Lib.hid hb1
  have HV := Lib.hid hv
  have HS := Lib.hid hS
  have HOK := Lib.hid hok
  have HW1 := Lib.hid hW1
  have HB0 : Hid (Below W1.heap.size W1 (W1.alloc (.cells #[] 3))) := Lib.hid ((Below.refl _ _).alloc (Nat.le_refl _) _)
  have HR0 : Hid ((W1.alloc (.cells #[] 3)).ownsRow W1.heap.size 3 1 (.slice (some ⟨w.heap.size + 1, 0, none⟩) 0 0) (ivl 0 0).length ((ivl 0 0).map (.int .i64))) := Lib.hid (by rw [hs1]; simpa [ivl] using own_new (base := W1.heap.size) (w := W1) #[] 3 (by omega) (by simp))
  clear hx hok hv hS hb1 hinfo1 hs1 hW1
  go_enter Tryz.func14, Tryz.ntmps14
  go_wp2
  rw [HW1.out]
  go_loopg [3, 4] N (fun gg u3 u4 wx => ∃ (j : Nat) (rv : Value), j + gg = N ∧ u4 = .int .i64 ((j : Int) + 1) ∧ u3 = rv ∧ Hid (Below W1.heap.size W1 wx) ∧ Hid (wx.ownsRow W1.heap.size 3 1 rv (ivl 0 j).length ((ivl 0 j).map (.int .i64))))
  case atStart => exact ⟨0, _, by omega, by go_num, rfl, HB0, HR0⟩
  case round =>
  clear HB0 HR0
  obtain ⟨j, rv, hjg, rfl, rfl, HB, HR⟩ := hrel
  obtain ⟨ra, rc, hrv⟩ := own_form HR.out
  rw [ivl_len] at hrv
  subst hrv
  have hszr := HB.out.size
  have q1 := below_c HB.out hlt c1
  have q2 := below_c HB.out hlt c2
  by_cases hj : j < N
  case neg =>
    have hd : decide ((j : Int) + 1 ≤ N) = false := decide_eq_false (by omega)
    obtain rfl : j = N := by omega
    have hcap := own_cap (by have := HR.out; rw [ivl_len] at this; exact this)
    have hints : Ints (fun _ => True) wr (.slice ra j rc) (ivl 0 j) := ⟨(ownsRow_sl1 HR.out (by rw [ivl_len]; omega)).mono fun _ _ => trivial, fun x hx => by rw [ivl_mem] at hx; unfold I64; omega⟩
    have HC := Lib.hid (count_any k (ivl 0 j) S _ _ _ ra j rc cs wr HV.out HS.out hk (HX.out.below HB.out) HOK.out hints hcap (fun u hu => by rw [ivl_mem] at hu; omega) (by rw [ivl_len]; exact hN))
    clear hints hcap HR
    go_wp2_with fail
    refine HC.out.mono ?_
    rintro e w3 ⟨rfl, hb3⟩
    have HF : Hid (Below w.heap.size w w3) := Lib.hid (HB1.out.trans ((HB.out.trans (hb3.mono hszr)).mono (by omega)))
    clear hb3 HC
    go_wp2_with fail
    go_ret
    exact ⟨rfl, HF.out⟩
  have hd : decide ((j : Int) + 1 ≤ N) = true := decide_eq_true (by omega)
  have hown := HR.out
  rw [ivl_len] at hown
  have hw2 : IntKind.i64.wrap ((j : Int) + 1 + 1) = (j : Int) + 1 + 1 := IntWalk.i64_in _ ⟨by omega, by omega⟩
  go_wp2_with (at_builtin; go_loud (refine wpList_push1 rfl _ _ 22 rfl 3 (.int .i64 0) 8 Tryz.underlying22 HI1.out rfl W1.heap.size (.slice ra j rc) j ((ivl 0 j).map (.int .i64)) wr (.int .i64 ((j : Int) + 1)) rfl rfl hown rfl (by omega) (by omega) (by omega) ?_); intro g7 cap7 w7 hown7 hg7 hs7 hgb hgl hat; have HB7 := Lib.hid (HB.out.grown hg7 (by omega) (fun k hk => (hown.lt k hk).1)); have HO7 : Hid (w7.ownsRow W1.heap.size 3 1 (.slice (some ⟨g7, 0, none⟩) (j + 1) cap7) (ivl 0 (j + 1)).length ((ivl 0 (j + 1)).map (.int .i64))) := Lib.hid (by rw [ivl_len, ivl_succ, List.map_append, show (0 : Int) + j + 1 = j + 1 by omega]; exact hown7); clear hown7 hg7 hown HR)
  go_roundg (gk - 1)
  case measure => omega
  case rel => exact ⟨j + 1, _, by omega, by go_num, rfl, HB7, HO7⟩
end Go.Proofs.YteadlkecngfcoaaGreat
