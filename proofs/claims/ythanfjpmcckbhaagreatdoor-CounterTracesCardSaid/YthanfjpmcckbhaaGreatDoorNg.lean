/- Walk: the statement's Count, Projected. Canonical clauses over a set of variables that is smaller than the fuel, few kept variables. -/
import Derived.Test.YthanfjpmcckbhaaGreatDoorNf
import Derived.Deep.RegionHeld3
import Derived.Test.YthanfjpmcckbhaaGreatDoorIv
import Derived.Test.YthanfjpmcckbhaaGreatDoorZd
namespace Go.Proofs.YthanfjpmcckbhaaGreatDoor
open Go.ChangeShapes Go.WideShapes Go.ChangeAt Go.RowKit
set_option linter.unusedVariables false

theorem cntM_le (k : Nat) : ∀ (keep : List Int) (cs : List (List Int)), cntM k keep cs ≤ 2 ^ keep.length
  | [], cs => by unfold cntM; split; exact Nat.zero_le _; split <;> simp
  | v :: r, cs => by
    unfold cntM
    have h1 := cntM_le k r (resM cs v)
    have h2 := cntM_le k r (resM cs (-v))
    rw [List.length_cons, Nat.pow_succ]
    split <;> omega
def IntB (w : World) (x : Int) (e : Ending) (w' : World) : Prop := e = .returned (.int .i64 x) ∧ Below w.heap.size w w'
def LinkB (W w' : World) : Prop := Below W.heap.size W w'
theorem hidT {A B C : World} (h : Hid (LinkB A B)) (g : Hid (LinkB B C)) : Hid (LinkB A C) := Lib.hid (h.out.trans (g.out.mono h.out.size))
theorem hidR (A : World) : Hid (LinkB A A) := Lib.hid (Below.refl _ _)
theorem link_drew {A B : World} (h : LinkB A B) : LinkB A B.drew := ⟨h.os, h.tape, h.output, h.size, h.block⟩
theorem drew_link {A B : World} (h : Below A.drew.heap.size A.drew B) : LinkB A B := ⟨h.os, h.tape, h.output, h.size, h.block⟩
def RPost (w0 W : World) (y : Nat × Nat × Int) (cs : List (List Int)) (x : Int) (e : Ending) (w' : World) : Prop :=
  ∃ a n c, e = .returned (.slice a n c) ∧ Hid (Clss (fun _ => True) w' (.slice a n c) (resM cs x)) ∧ Hid (LinkB w0 w') ∧ Hid (LinkB W w') ∧ w'.cell? ⟨y.1, y.2.1, none⟩ = some (.int .i64 y.2.2)
def CPost (w0 W : World) (y : Nat × Nat × Int) (x : Int) (e : Ending) (w' : World) : Prop :=
  e = .returned (.int .i64 x) ∧ Hid (LinkB w0 w') ∧ Hid (LinkB W w') ∧ w'.cell? ⟨y.1, y.2.1, none⟩ = some (.int .i64 y.2.2)
theorem Ints.tail {F : Nat → Prop} {w : World} {b o n c : Nat} {y : Int} {r : List Int} {KA : Option Addr} (h : Ints F w (.slice (some ⟨b, o, none⟩) n c) (y :: r)) (hc : n ≤ c) (hk : (if c = 1 then some ⟨b, o, none⟩ else some ⟨b, o + 1, none⟩ : Option Addr) = KA) : Ints F w (.slice KA (n - 1) (c - 1)) r := by
  obtain ⟨⟨a, cap, h1, h2, h3⟩, h4⟩ := h
  rw [List.length_map, List.length_cons] at h1 h2
  injection h1 with e1 e2 e3
  subst e1 e2 e3
  refine ⟨⟨KA, c - 1, by simp, by simp; omega, fun j u hu => ?_⟩, fun x hx => h4 x (List.mem_cons_of_mem _ hx)⟩
  have hj : j < r.length := by
    have := (List.getElem?_eq_some_iff.1 hu).1
    simpa using this
  obtain ⟨b', off, ha, hF, hc⟩ := h3 (j + 1) u (by simpa using hu)
  injection ha with ha
  injection ha with ha1 ha2
  subst ha1 ha2
  rw [if_neg (by omega)] at hk
  exact ⟨b, o + 1, hk.symm, hF, by rw [show o + 1 + j = o + (j + 1) by omega]; exact hc⟩
set_option maxRecDepth 100000 in
set_option maxHeartbeats 8000000 in
theorem count_any (k : Nat) (keep : List Int) : ∀ (S : List Int) (F G : Nat → Prop) (v : Value) (ka : Option Addr) (kn kc : Nat) (cs : List (List Int)) (w : World), Vs S cs → (∀ v ∈ S, v ≤ 1000000) → S.length < k → Clss F w v cs → SzOk cs →
    Ints G w (.slice ka kn kc) keep → kn ≤ kc → (∀ v ∈ keep, 1 ≤ v ∧ v ≤ 1000000) → keep.length ≤ 40 →
    Calls Tryz.prog 34 #[v, .slice ka kn kc] w (IntB w (cntM k keep cs)) := by
  induction keep with
  | nil =>
    intro S F G v ka kn kc cs w hv hS hk hx hok hy hkc hkp hkl
    have hsat := sat_any k S F v cs w hv hS hk hx hok
    obtain ⟨a, n, c, rfl, HN, hn⟩ := hx.form'
    have hn2 : n ≤ 1048576 := by rw [HN.out]; exact hok.1
    obtain ⟨R, hR⟩ : ∃ R, cntM k ([] : List Int) cs = R := ⟨_, rfl⟩
    rw [hR]
    have hKN : kn = (([] : List Int)).length := hy.len.1
    have HX := Lib.hid hx
    have HSA := Lib.hid hsat
    have HOK := Lib.hid hok
    have HY := Lib.hid hy
    by_cases hhd : cs.head? = some []
    · rcases cs with _ | ⟨c0, r⟩
      · cases hhd
      simp at hhd
      subst hhd
      have HF : Hid (R = 0) := Lib.hid (by rw [← hR, cntM, if_pos (by simp)])
      have hnp : 0 < n := by rw [HN.out]; simp
      have hnp2 : (0 : Int) < n := by omega
      have hdp : decide ((0 : Int) < n) = true := decide_eq_true hnp2
      have hdp2 : decide (0 < n) = true := decide_eq_true hnp
      obtain ⟨b, o, u, rfl, _, hb, hcc, hu⟩ := hx.at (k := 0) (x := []) rfl
      rw [Nat.add_zero] at hcc
      obtain ⟨ua, un, uc, rfl, HUN, hun⟩ := hu.form'
      have hu0 : un = 0 := HUN.out
      subst hu0
      clear hR hx hok hn hu hun hv hS hsat hKN hkp hy
      go_enter Tryz.func34, Tryz.ntmps34
      go_wp2
      go_ret
      exact ⟨by rw [HF.out]; rfl, Below.refl _ _⟩
    rcases cs with _ | ⟨_ | ⟨x, s⟩, r⟩
    · have hn0 : n = 0 := HN.out
      subst hn0
      obtain ⟨cs, hcs⟩ : ∃ cs, ([] : List (List Int)) = cs := ⟨_, rfl⟩
      rw [hcs] at hR hx hok hv hsat hhd HN HX HSA HOK
      clear hcs
      obtain rfl : kn = 0 := hKN
      have HF : Hid (R = if satM k cs = true then 1 else 0) := Lib.hid (by rw [← hR, cntM, if_neg hhd])
      clear hR hx hok hn hv hS hsat hkp hy hhd
      obtain ⟨B1, hB1⟩ : ∃ B1, satM k cs = B1 := ⟨_, rfl⟩
      rw [hB1] at HSA
      have HB1 := Lib.hid hB1
      clear hB1
      go_enter Tryz.func34, Tryz.ntmps34
      go_wp2_with fail
      refine HSA.out.mono ?_
      rintro e w1 ⟨rfl, hb1⟩
      have HBB := Lib.hid hb1
      clear hb1
      rcases bool2 B1 with rfl | rfl
      · have HG : Hid (R = 1) := Lib.hid (by rw [HF.out, HB1.out, if_pos rfl])
        go_wp2_with fail
        go_ret
        exact ⟨by rw [HG.out]; rfl, HBB.out⟩
      · have HG : Hid (R = 0) := Lib.hid (by rw [HF.out, HB1.out, if_neg (by simp)])
        go_wp2_with fail
        go_ret
        exact ⟨by rw [HG.out]; rfl, HBB.out⟩
    · exact absurd rfl hhd
    · skip
      obtain ⟨b, o, u, rfl, _, hb, hcc, hu⟩ := hx.at (k := 0) (x := x :: s) rfl
      rw [Nat.add_zero] at hcc
      obtain ⟨ua, un, uc, rfl, HUN, hun⟩ := hu.form'
      have hup : 0 < un := by rw [HUN.out]; simp
      have huz : ((un : Int) == 0) = false := by rw [beq_eq_false_iff_ne]; omega
      have huz2 : (un == 0) = false := by rw [beq_eq_false_iff_ne]; omega
      have hnp : 0 < n := by rw [HN.out]; simp
      have hnp2 : (0 : Int) < n := by omega
      have hdp : decide ((0 : Int) < n) = true := decide_eq_true hnp2
      have hdp2 : decide (0 < n) = true := decide_eq_true hnp
      obtain ⟨cs, hcs⟩ : ∃ cs, (x :: s) :: r = cs := ⟨_, rfl⟩
      rw [hcs] at hR hx hok hv hsat hhd HN HX HSA HOK
      clear hu hun hcs HUN
      obtain rfl : kn = 0 := hKN
      have HF : Hid (R = if satM k cs = true then 1 else 0) := Lib.hid (by rw [← hR, cntM, if_neg hhd])
      clear hR hx hok hn hv hS hsat hkp hy hhd
      obtain ⟨B1, hB1⟩ : ∃ B1, satM k cs = B1 := ⟨_, rfl⟩
      rw [hB1] at HSA
      have HB1 := Lib.hid hB1
      clear hB1
      go_enter Tryz.func34, Tryz.ntmps34
      go_wp2_with fail
      refine HSA.out.mono ?_
      rintro e w1 ⟨rfl, hb1⟩
      have HBB := Lib.hid hb1
      clear hb1
      rcases bool2 B1 with rfl | rfl
      · have HG : Hid (R = 1) := Lib.hid (by rw [HF.out, HB1.out, if_pos rfl])
        go_wp2_with fail
        go_ret
        exact ⟨by rw [HG.out]; rfl, HBB.out⟩
      · have HG : Hid (R = 0) := Lib.hid (by rw [HF.out, HB1.out, if_neg (by simp)])
        go_wp2_with fail
        go_ret
        exact ⟨by rw [HG.out]; rfl, HBB.out⟩
  | cons y t ih =>
    intro S F G v ka kn kc cs w hv hS hk hx hok hy hkc hkp hkl
    have hsat := sat_any k S F v cs w hv hS hk hx hok
    obtain ⟨a, n, c, rfl, HN, hn⟩ := hx.form'
    have hn2 : n ≤ 1048576 := by rw [HN.out]; exact hok.1
    obtain ⟨R, hR⟩ : ∃ R, cntM k (y :: t) cs = R := ⟨_, rfl⟩
    rw [hR]
    have hKN : kn = (y :: t).length := hy.len.1
    have HX := Lib.hid hx
    have HSA := Lib.hid hsat
    have HOK := Lib.hid hok
    have HY := Lib.hid hy
    by_cases hhd : cs.head? = some []
    · rcases cs with _ | ⟨c0, r⟩
      · cases hhd
      simp at hhd
      subst hhd
      have HF : Hid (R = 0) := Lib.hid (by rw [← hR, cntM, if_pos (by simp)])
      have hnp : 0 < n := by rw [HN.out]; simp
      have hnp2 : (0 : Int) < n := by omega
      have hdp : decide ((0 : Int) < n) = true := decide_eq_true hnp2
      have hdp2 : decide (0 < n) = true := decide_eq_true hnp
      obtain ⟨b, o, u, rfl, _, hb, hcc, hu⟩ := hx.at (k := 0) (x := []) rfl
      rw [Nat.add_zero] at hcc
      obtain ⟨ua, un, uc, rfl, HUN, hun⟩ := hu.form'
      have hu0 : un = 0 := HUN.out
      subst hu0
      clear hR hx hok hn hu hun hv hS hsat hKN hkp hy ih
      go_enter Tryz.func34, Tryz.ntmps34
      go_wp2
      go_ret
      exact ⟨by rw [HF.out]; rfl, Below.refl _ _⟩
    rcases cs with _ | ⟨_ | ⟨x, s⟩, r⟩
    · have hn0 : n = 0 := HN.out
      subst hn0
      obtain ⟨cs, hcs⟩ : ∃ cs, ([] : List (List Int)) = cs := ⟨_, rfl⟩
      rw [hcs] at hR hx hok hv hsat hhd HN HX HSA HOK
      clear hcs
      have hknp : 1 ≤ kn := by rw [hKN]; simp
      have hknp2 : (1 : Int) ≤ kn := by omega
      have hknp4 : 0 < kn := by omega
      have hknp3 : (0 : Int) < kn := by omega
      have hkc2 : (kn : Int) ≤ kc := by omega
      have hkz : ((kn : Int) == 0) = false := by rw [beq_eq_false_iff_ne]; omega
      have hkz2 : (kn == 0) = false := by rw [beq_eq_false_iff_ne]; omega
      have htl : t.length ≤ 40 := by simp at hkl; omega
      have HF : Hid (R = cntM k t (resM cs y) + cntM k t (resM cs (-y))) := Lib.hid (by rw [← hR, cntM, if_neg hhd])
      obtain ⟨hy1, hy2⟩ := hkp y (List.mem_cons_self ..)
      obtain ⟨kb, ko, rfl, _, hkb, hyc, hy64⟩ := hy.at (k := 0) (x := y) rfl
      rw [Nat.add_zero] at hyc
      obtain ⟨KA, hKA⟩ : ∃ KA, (if kc = 1 then some ⟨kb, ko, none⟩ else some ⟨kb, ko + 1, none⟩ : Option Addr) = KA := ⟨_, rfl⟩
      have hsl : ∀ W, (Instr.slice 32 (.slice (some ⟨kb, ko, none⟩) kn kc) (some (.int .i64 1)) none none).run Tryz.prog W = .ok (.slice KA (kn - 1) (kc - 1)) W := fun W => by
        rw [run_slice_l W _ _ _ _ (by kernel_rfl) .i64 1 (by omega) (by omega), ← hKA]
        rfl
      have hsl2 : ∀ W, (Instr.sliceAt 32 (.slice (some ⟨kb, ko, none⟩) kn kc) (some (.int .i64 1)) none none).run Tryz.prog W = .ok (.slice KA (kn - 1) (kc - 1)) W := fun W => by
        rw [run_sliceAt_slice W _ _ _ _ _ (by kernel_rfl)]
        exact hsl W
      have HKA := Lib.hid hKA
      have hsm : Sm y := by unfold Sm; omega
      have hwn := hsm.neg
      have hI : I64 (-y) := by unfold I64; omega
      have hbr : (-y == -y) = true := by simp
      have hE : ∀ x : Int, ∀ u ∈ S.erase (varM x), u ≤ 1000000 := fun x u hu => hS u (List.mem_of_mem_erase hu)
      have hlen : ∀ x : Int, (S.erase (varM x)).length < k := fun x => by
        have := List.length_erase (l := S) (a := varM x)
        split at this <;> omega
      have HR1 : Hid (∀ W, Hid (LinkB w W) → Calls Tryz.prog 59 #[.slice a 0 c, .int .i64 y] W (RPost w W (kb, ko, y) cs y)) := Lib.hid fun W hW => by
        refine (lresidual_any _ _ cs y W (HX.out.below hW.out) hy64 hok.1 hok.2).mono ?_
        rintro e w' ⟨v', rfl, hc, hb⟩
        have hl : LinkB W w' := hb
        obtain ⟨q, m, d, rfl, _, _⟩ := hc.form'
        exact ⟨q, m, d, rfl, Lib.hid (Rows1.mono (fun _ _ _ _ _ h hg => h.mono hg) hc fun _ _ => trivial), hidT hW (Lib.hid hl), Lib.hid hl, below_c hl (Nat.lt_of_lt_of_le hkb hW.out.size) (below_c hW.out hkb hyc)⟩
      have HR2 : Hid (∀ W, Hid (LinkB w W) → Calls Tryz.prog 59 #[.slice a 0 c, .int .i64 (-y)] W (RPost w W (kb, ko, y) cs (-y))) := Lib.hid fun W hW => by
        refine (lresidual_any _ _ cs (-y) W (HX.out.below hW.out) hI hok.1 hok.2).mono ?_
        rintro e w' ⟨v', rfl, hc, hb⟩
        have hl : LinkB W w' := hb
        obtain ⟨q, m, d, rfl, _, _⟩ := hc.form'
        exact ⟨q, m, d, rfl, Lib.hid (Rows1.mono (fun _ _ _ _ _ h hg => h.mono hg) hc fun _ _ => trivial), hidT hW (Lib.hid hl), Lib.hid hl, below_c hl (Nat.lt_of_lt_of_le hkb hW.out.size) (below_c hW.out hkb hyc)⟩
      have key : ∀ x : Int, Sm x → x ≠ 0 → ∀ q m d W0 W, Hid (Clss (fun _ => True) W0 (.slice q m d) (resM cs x)) → Hid (LinkB W0 W) → Hid (LinkB w W) → Calls Tryz.prog 34 #[.slice q m d, .slice KA (kn - 1) (kc - 1)] W (CPost w W (kb, ko, y) (cntM k t (resM cs x))) := fun x hsx hx0 q m d W0 W hc h0 hw => by
        refine (ih (S.erase (varM x)) (fun _ => True) G _ _ _ _ (resM cs x) W (hv.res hsx hx0) (hE x) (hlen x) (hc.out.below h0.out) (hok.res x) ((HY.out.tail hkc HKA.out).below hw.out) (by omega) (fun u hu => hkp u (List.mem_cons_of_mem _ hu)) htl).mono ?_
        rintro e w' ⟨rfl, hb⟩
        have hl : LinkB W w' := hb
        exact ⟨rfl, hidT hw (Lib.hid hl), Lib.hid hl, below_c hl (Nat.lt_of_lt_of_le hkb hw.out.size) (below_c hw.out hkb hyc)⟩
      have HC1 := Lib.hid (key y hsm (by omega))
      have HC2 := Lib.hid (key (-y) (by unfold Sm; omega) (by omega))
      clear hR hx hok hn hv hS hsat hkp hy hhd hE hlen key hI ih hKA hKN
      obtain ⟨A1, hA1⟩ : ∃ A, cntM k t (resM cs y) = A := ⟨_, rfl⟩
      obtain ⟨A2, hA2⟩ : ∃ A, cntM k t (resM cs (-y)) = A := ⟨_, rfl⟩
      have hl1 : A1 ≤ 1099511627776 := by rw [← hA1]; exact Nat.le_trans (cntM_le k t _) (Nat.pow_le_pow_right (n := 2) (by omega) htl)
      have hl2 : A2 ≤ 1099511627776 := by rw [← hA2]; exact Nat.le_trans (cntM_le k t _) (Nat.pow_le_pow_right (n := 2) (by omega) htl)
      have hwa : IntKind.i64.wrap ((A1 : Int) + A2) = (A1 : Int) + A2 := IntWalk.i64_in _ ⟨by omega, by omega⟩
      have HG : Hid ((R : Int) = (A1 : Int) + A2) := Lib.hid (by rw [HF.out, hA1, hA2]; simp)
      rw [hA1] at HC1
      rw [hA2] at HC2
      have HB0 : Hid (LinkB w w) := hidR w
      have HBD : Hid (LinkB w w.drew) := Lib.hid (link_drew (Below.refl _ _))
      clear hA1 hA2 HF HSA HX HOK HY
      go_enter Tryz.func34, Tryz.ntmps34
      go_upto_region 7 with fail
      go_region_held3 (fun W => Hid (LinkB w W) ∧ W.cell? ⟨kb, ko, none⟩ = some (.int .i64 y))
        (first | exact ⟨HBD, hyc⟩ | exact ⟨by assumption, by assumption⟩ | go_keep)
        (first | (go_at_call_has 59 (Value.int .i64 y); refine Calls.mono (HR1.out _ ?h2) ?_; (case h2 => assumption); rintro e w1 ⟨q1, m1, d1, rfl, HK1, HM1, HL1, hz1⟩)
               | (go_at_call_has 59 (Value.int .i64 (-y)); refine Calls.mono (HR2.out _ ?h2) ?_; (case h2 => assumption); rintro e w2 ⟨q2, m2, d2, rfl, HK2, HM2, HL2, hz2⟩)
               | (go_at_call_of 34 (Value.slice q1 m1 d1); refine Calls.mono (HC1.out q1 m1 d1 w1 _ HK1 ?h1 ?h2) ?_; (case h1 => first | exact hidR _ | assumption | exact hidT (by assumption) (by assumption)); (case h2 => assumption); rintro e w3 ⟨rfl, HM3, HL3, hz3⟩)
               | (go_at_call_of 34 (Value.slice q2 m2 d2); refine Calls.mono (HC2.out q2 m2 d2 w2 _ HK2 ?h1 ?h2) ?_; (case h1 => first | exact hidR _ | assumption | exact hidT (by assumption) (by assumption)); (case h2 => assumption); rintro e w4 ⟨rfl, HM4, HL4, hz4⟩))
      all_goals
        go_wp2_with fail
        go_ret
        exact ⟨by rw [HG.out]; rfl, Hid.out (p := LinkB w _) (by assumption)⟩
    · exact absurd rfl hhd
    · skip
      obtain ⟨b, o, u, rfl, _, hb, hcc, hu⟩ := hx.at (k := 0) (x := x :: s) rfl
      rw [Nat.add_zero] at hcc
      obtain ⟨ua, un, uc, rfl, HUN, hun⟩ := hu.form'
      have hup : 0 < un := by rw [HUN.out]; simp
      have huz : ((un : Int) == 0) = false := by rw [beq_eq_false_iff_ne]; omega
      have huz2 : (un == 0) = false := by rw [beq_eq_false_iff_ne]; omega
      have hnp : 0 < n := by rw [HN.out]; simp
      have hnp2 : (0 : Int) < n := by omega
      have hdp : decide ((0 : Int) < n) = true := decide_eq_true hnp2
      have hdp2 : decide (0 < n) = true := decide_eq_true hnp
      obtain ⟨cs, hcs⟩ : ∃ cs, (x :: s) :: r = cs := ⟨_, rfl⟩
      rw [hcs] at hR hx hok hv hsat hhd HN HX HSA HOK
      clear hu hun hcs HUN
      have hknp : 1 ≤ kn := by rw [hKN]; simp
      have hknp2 : (1 : Int) ≤ kn := by omega
      have hknp4 : 0 < kn := by omega
      have hknp3 : (0 : Int) < kn := by omega
      have hkc2 : (kn : Int) ≤ kc := by omega
      have hkz : ((kn : Int) == 0) = false := by rw [beq_eq_false_iff_ne]; omega
      have hkz2 : (kn == 0) = false := by rw [beq_eq_false_iff_ne]; omega
      have htl : t.length ≤ 40 := by simp at hkl; omega
      have HF : Hid (R = cntM k t (resM cs y) + cntM k t (resM cs (-y))) := Lib.hid (by rw [← hR, cntM, if_neg hhd])
      obtain ⟨hy1, hy2⟩ := hkp y (List.mem_cons_self ..)
      obtain ⟨kb, ko, rfl, _, hkb, hyc, hy64⟩ := hy.at (k := 0) (x := y) rfl
      rw [Nat.add_zero] at hyc
      obtain ⟨KA, hKA⟩ : ∃ KA, (if kc = 1 then some ⟨kb, ko, none⟩ else some ⟨kb, ko + 1, none⟩ : Option Addr) = KA := ⟨_, rfl⟩
      have hsl : ∀ W, (Instr.slice 32 (.slice (some ⟨kb, ko, none⟩) kn kc) (some (.int .i64 1)) none none).run Tryz.prog W = .ok (.slice KA (kn - 1) (kc - 1)) W := fun W => by
        rw [run_slice_l W _ _ _ _ (by kernel_rfl) .i64 1 (by omega) (by omega), ← hKA]
        rfl
      have hsl2 : ∀ W, (Instr.sliceAt 32 (.slice (some ⟨kb, ko, none⟩) kn kc) (some (.int .i64 1)) none none).run Tryz.prog W = .ok (.slice KA (kn - 1) (kc - 1)) W := fun W => by
        rw [run_sliceAt_slice W _ _ _ _ _ (by kernel_rfl)]
        exact hsl W
      have HKA := Lib.hid hKA
      have hsm : Sm y := by unfold Sm; omega
      have hwn := hsm.neg
      have hI : I64 (-y) := by unfold I64; omega
      have hbr : (-y == -y) = true := by simp
      have hE : ∀ x : Int, ∀ u ∈ S.erase (varM x), u ≤ 1000000 := fun x u hu => hS u (List.mem_of_mem_erase hu)
      have hlen : ∀ x : Int, (S.erase (varM x)).length < k := fun x => by
        have := List.length_erase (l := S) (a := varM x)
        split at this <;> omega
      have HR1 : Hid (∀ W, Hid (LinkB w W) → Calls Tryz.prog 59 #[.slice (some ⟨b, o, none⟩) n c, .int .i64 y] W (RPost w W (kb, ko, y) cs y)) := Lib.hid fun W hW => by
        refine (lresidual_any _ _ cs y W (HX.out.below hW.out) hy64 hok.1 hok.2).mono ?_
        rintro e w' ⟨v', rfl, hc, hb⟩
        have hl : LinkB W w' := hb
        obtain ⟨q, m, d, rfl, _, _⟩ := hc.form'
        exact ⟨q, m, d, rfl, Lib.hid (Rows1.mono (fun _ _ _ _ _ h hg => h.mono hg) hc fun _ _ => trivial), hidT hW (Lib.hid hl), Lib.hid hl, below_c hl (Nat.lt_of_lt_of_le hkb hW.out.size) (below_c hW.out hkb hyc)⟩
      have HR2 : Hid (∀ W, Hid (LinkB w W) → Calls Tryz.prog 59 #[.slice (some ⟨b, o, none⟩) n c, .int .i64 (-y)] W (RPost w W (kb, ko, y) cs (-y))) := Lib.hid fun W hW => by
        refine (lresidual_any _ _ cs (-y) W (HX.out.below hW.out) hI hok.1 hok.2).mono ?_
        rintro e w' ⟨v', rfl, hc, hb⟩
        have hl : LinkB W w' := hb
        obtain ⟨q, m, d, rfl, _, _⟩ := hc.form'
        exact ⟨q, m, d, rfl, Lib.hid (Rows1.mono (fun _ _ _ _ _ h hg => h.mono hg) hc fun _ _ => trivial), hidT hW (Lib.hid hl), Lib.hid hl, below_c hl (Nat.lt_of_lt_of_le hkb hW.out.size) (below_c hW.out hkb hyc)⟩
      have key : ∀ x : Int, Sm x → x ≠ 0 → ∀ q m d W0 W, Hid (Clss (fun _ => True) W0 (.slice q m d) (resM cs x)) → Hid (LinkB W0 W) → Hid (LinkB w W) → Calls Tryz.prog 34 #[.slice q m d, .slice KA (kn - 1) (kc - 1)] W (CPost w W (kb, ko, y) (cntM k t (resM cs x))) := fun x hsx hx0 q m d W0 W hc h0 hw => by
        refine (ih (S.erase (varM x)) (fun _ => True) G _ _ _ _ (resM cs x) W (hv.res hsx hx0) (hE x) (hlen x) (hc.out.below h0.out) (hok.res x) ((HY.out.tail hkc HKA.out).below hw.out) (by omega) (fun u hu => hkp u (List.mem_cons_of_mem _ hu)) htl).mono ?_
        rintro e w' ⟨rfl, hb⟩
        have hl : LinkB W w' := hb
        exact ⟨rfl, hidT hw (Lib.hid hl), Lib.hid hl, below_c hl (Nat.lt_of_lt_of_le hkb hw.out.size) (below_c hw.out hkb hyc)⟩
      have HC1 := Lib.hid (key y hsm (by omega))
      have HC2 := Lib.hid (key (-y) (by unfold Sm; omega) (by omega))
      clear hR hx hok hn hv hS hsat hkp hy hhd hE hlen key hI ih hKA hKN
      obtain ⟨A1, hA1⟩ : ∃ A, cntM k t (resM cs y) = A := ⟨_, rfl⟩
      obtain ⟨A2, hA2⟩ : ∃ A, cntM k t (resM cs (-y)) = A := ⟨_, rfl⟩
      have hl1 : A1 ≤ 1099511627776 := by rw [← hA1]; exact Nat.le_trans (cntM_le k t _) (Nat.pow_le_pow_right (n := 2) (by omega) htl)
      have hl2 : A2 ≤ 1099511627776 := by rw [← hA2]; exact Nat.le_trans (cntM_le k t _) (Nat.pow_le_pow_right (n := 2) (by omega) htl)
      have hwa : IntKind.i64.wrap ((A1 : Int) + A2) = (A1 : Int) + A2 := IntWalk.i64_in _ ⟨by omega, by omega⟩
      have HG : Hid ((R : Int) = (A1 : Int) + A2) := Lib.hid (by rw [HF.out, hA1, hA2]; simp)
      rw [hA1] at HC1
      rw [hA2] at HC2
      have HB0 : Hid (LinkB w w) := hidR w
      have HBD : Hid (LinkB w w.drew) := Lib.hid (link_drew (Below.refl _ _))
      clear hA1 hA2 HF HSA HX HOK HY
      go_enter Tryz.func34, Tryz.ntmps34
      go_upto_region 7 with fail
      go_region_held3 (fun W => Hid (LinkB w W) ∧ W.cell? ⟨kb, ko, none⟩ = some (.int .i64 y))
        (first | exact ⟨HBD, hyc⟩ | exact ⟨by assumption, by assumption⟩ | go_keep)
        (first | (go_at_call_has 59 (Value.int .i64 y); refine Calls.mono (HR1.out _ ?h2) ?_; (case h2 => assumption); rintro e w1 ⟨q1, m1, d1, rfl, HK1, HM1, HL1, hz1⟩)
               | (go_at_call_has 59 (Value.int .i64 (-y)); refine Calls.mono (HR2.out _ ?h2) ?_; (case h2 => assumption); rintro e w2 ⟨q2, m2, d2, rfl, HK2, HM2, HL2, hz2⟩)
               | (go_at_call_of 34 (Value.slice q1 m1 d1); refine Calls.mono (HC1.out q1 m1 d1 w1 _ HK1 ?h1 ?h2) ?_; (case h1 => first | exact hidR _ | assumption | exact hidT (by assumption) (by assumption)); (case h2 => assumption); rintro e w3 ⟨rfl, HM3, HL3, hz3⟩)
               | (go_at_call_of 34 (Value.slice q2 m2 d2); refine Calls.mono (HC2.out q2 m2 d2 w2 _ HK2 ?h1 ?h2) ?_; (case h1 => first | exact hidR _ | assumption | exact hidT (by assumption) (by assumption)); (case h2 => assumption); rintro e w4 ⟨rfl, HM4, HL4, hz4⟩))
      all_goals
        go_wp2_with fail
        go_ret
        exact ⟨by rw [HG.out]; rfl, Hid.out (p := LinkB w _) (by assumption)⟩

/- Walk: the statement's Projected. Canonical clauses over a set of variables that is smaller than the fuel, few kept variables. -/
open Go.ChangeShapes Go.WideShapes Go.ChangeAt Go.RowKit
set_option linter.unusedVariables false

theorem own_cap {w : World} {base : Nat} {e : TypeId} {a : Option Addr} {n c size : Nat} {xs : List Value} (h : w.ownsRow base e size (.slice a n c) n xs) : n ≤ c := by
  rcases h.2 with ⟨h1, h2⟩ | ⟨g, cap, cur, h1, _, _, h2, _⟩
  · rw [h2]; exact Nat.zero_le _
  · injection h1 with _ _ h3
    rw [h3]; exact h2
set_option maxRecDepth 100000 in
set_option maxHeartbeats 4000000 in
theorem projected_any (k : Nat) (S : List Int) (F : Nat → Prop) (vars : Int) (N : Nat) (v : Value) (cs : List (List Int)) (w : World) (hv : Vs S cs) (hS : ∀ v ∈ S, v ≤ 1000000) (hk : S.length < k) (hx : Clss F w v cs) (hok : SzOk cs) (hN : N ≤ 40) :
    Calls Tryz.prog 15 #[.agg #[.int .i64 vars, .int .i64 N, v]] w (IntB w (cntM k (ivl 0 N) cs)) := by
  obtain ⟨a, n, c, rfl, HN, hn⟩ := hx.form'
  have hinfo1 : (Tryz.prog.info? 3).map (fun i => (i.zero, i.size, i.bytes)) = some (some (.int .i64 0), 1, 8) := by kernel_rfl
  have HI1 := Lib.hid hinfo1
  obtain ⟨W1, hW1⟩ : ∃ W, w.alloc (.cells #[.int .i64 vars, .int .i64 N, .slice a n c] 24) = W := ⟨_, rfl⟩
  have hb1 : Below w.heap.size w W1 := by rw [← hW1]; exact (Below.refl _ _).alloc (Nat.le_refl _) _
  have c1 : W1.cell? ⟨w.heap.size, 1, none⟩ = some (.int .i64 N) := by rw [← hW1]; simp
  have c2 : W1.cell? ⟨w.heap.size, 2, none⟩ = some (.slice a n c) := by rw [← hW1]; simp
  have hs1 : w.heap.size + 1 = W1.heap.size := by rw [← hW1]; simp
  have hlt : w.heap.size < W1.heap.size := by omega
  have HX := Lib.hid (hx.below hb1)
  have HB1 := Lib.hid hb1
  have HV := Lib.hid hv
  have HS := Lib.hid hS
  have HOK := Lib.hid hok
  have HW1 := Lib.hid hW1
  have HB0 : Hid (Below W1.heap.size W1 (W1.alloc (.cells #[] 3))) := Lib.hid ((Below.refl _ _).alloc (Nat.le_refl _) _)
  have HR0 : Hid ((W1.alloc (.cells #[] 3)).ownsRow W1.heap.size 3 1 (.slice (some ⟨w.heap.size + 1, 0, none⟩) 0 0) (ivl 0 0).length ((ivl 0 0).map (.int .i64))) := Lib.hid (by rw [hs1]; simpa [ivl] using own_new (base := W1.heap.size) (w := W1) #[] 3 (by omega) (by simp))
  clear hx hok hv hS hb1 hinfo1 hs1 hW1
  go_enter Tryz.func15, Tryz.ntmps15
  go_wp2
  rw [HW1.out]
  go_loopg [3, 4] N (fun gg u3 u4 wx => ∃ (j : Nat) (rv : Value), j + gg = N ∧ u4 = .int .i64 ((j : Int) + 1) ∧ u3 = rv ∧ Hid (Below W1.heap.size W1 wx) ∧ Hid (wx.ownsRow W1.heap.size 3 1 rv (ivl 0 j).length ((ivl 0 j).map (.int .i64))))
  case atStart => exact ⟨0, _, by omega, by go_num, rfl, HB0, HR0⟩
  case round =>
  clear HB0 HR0
  obtain ⟨j, rv, hjg, rfl, rfl, HB, HR⟩ := hrel
  obtain ⟨ra, rc, hrv⟩ := own_form HR.out
  rw [ivl_len] at hrv
  subst hrv
  have hszr := HB.out.size
  have q1 := below_c HB.out hlt c1
  have q2 := below_c HB.out hlt c2
  by_cases hj : j < N
  case neg =>
    have hd : decide ((j : Int) + 1 ≤ N) = false := decide_eq_false (by omega)
    obtain rfl : j = N := by omega
    have hcap := own_cap (by have := HR.out; rw [ivl_len] at this; exact this)
    have hints : Ints (fun _ => True) wr (.slice ra j rc) (ivl 0 j) := ⟨(ownsRow_sl1 HR.out (by rw [ivl_len]; omega)).mono fun _ _ => trivial, fun x hx => by rw [ivl_mem] at hx; unfold I64; omega⟩
    have HC := Lib.hid (count_any k (ivl 0 j) S _ _ _ ra j rc cs wr HV.out HS.out hk (HX.out.below HB.out) HOK.out hints hcap (fun u hu => by rw [ivl_mem] at hu; omega) (by rw [ivl_len]; exact hN))
    clear hints hcap HR
    go_wp2_with fail
    refine HC.out.mono ?_
    rintro e w3 ⟨rfl, hb3⟩
    have HF : Hid (Below w.heap.size w w3) := Lib.hid (HB1.out.trans ((HB.out.trans (hb3.mono hszr)).mono (by omega)))
    clear hb3 HC
    go_wp2_with fail
    go_ret
    exact ⟨rfl, HF.out⟩
  have hd : decide ((j : Int) + 1 ≤ N) = true := decide_eq_true (by omega)
  have hown := HR.out
  rw [ivl_len] at hown
  have hw2 : IntKind.i64.wrap ((j : Int) + 1 + 1) = (j : Int) + 1 + 1 := IntWalk.i64_in _ ⟨by omega, by omega⟩
  go_wp2_with (at_builtin; go_loud (refine wpList_push1 rfl _ _ 32 rfl 3 (.int .i64 0) 8 Tryz.underlying32 HI1.out rfl W1.heap.size (.slice ra j rc) j ((ivl 0 j).map (.int .i64)) wr (.int .i64 ((j : Int) + 1)) rfl rfl hown rfl (by omega) (by omega) (by omega) ?_); intro g7 cap7 w7 hown7 hg7 hs7 hgb hgl hat; have HB7 := Lib.hid (HB.out.grown hg7 (by omega) (fun k hk => (hown.lt k hk).1)); have HO7 : Hid (w7.ownsRow W1.heap.size 3 1 (.slice (some ⟨g7, 0, none⟩) (j + 1) cap7) (ivl 0 (j + 1)).length ((ivl 0 (j + 1)).map (.int .i64))) := Lib.hid (by rw [ivl_len, ivl_succ, List.map_append, show (0 : Int) + j + 1 = j + 1 by omega]; exact hown7); clear hown7 hg7 hown HR)
  go_roundg (gk - 1)
  case measure => omega
  case rel => exact ⟨j + 1, _, by omega, by go_num, rfl, HB7, HO7⟩

/- (Counter seat) Walk: the statement CounterCounts. No condition but that the table of powers lies as laid. -/
open Go.ChangeShapes Go.WideShapes Go.ChangeAt Go.RowKit
set_option linter.unusedVariables false
set_option linter.unusedSimpArgs false

theorem cw_nil {cs : List (List Int)} (h : Cn' cs) (N : Nat) (hN : N ≤ 1000000) : cwN N cs [] = ((cntM ((occM cs).length + 1) (ivl 0 N) cs : Nat) : Int) := by
  unfold cwN
  rw [proj_cntM h hN, Int.toNat_natCast]
  congr 1
  exact cnt_iff fun f => ⟨fun h => h.1, fun h => ⟨h, fun x hx => by simp at hx⟩⟩
/-- Projected of a valid formula -/
theorem proj_any (F : Nat → Prop) (vars keep : Int) (cv : Value) (cs : List (List Int)) (w : World) (hc : Clss F w cv cs) (hn : Cn' cs) (hs : SzL cs) (hk : 0 ≤ keep ∧ keep ≤ 40) :
    Calls Tryz.prog 15 #[.agg #[.int .i64 vars, .int .i64 keep, cv]] w (IntB w (cwN keep cs [])) := by
  obtain ⟨K, rfl⟩ := Int.eq_ofNat_of_zero_le hk.1
  rw [cw_nil hn K (by omega)]
  exact projected_any _ (occM cs) F vars K cv cs w hn.vs (fun v hv => by have := occM_range hv; omega) (Nat.lt_succ_self _) hc ⟨by have := hs.1; omega, fun c hc => by have := hs.2 c hc; omega⟩ (by omega)
set_option maxRecDepth 100000 in
set_option maxHeartbeats 8000000 in
theorem lawCounts_any (vars keep : Int) (cv : Value) (cs : List (List Int)) (w : World) (hc : Clss (fun _ => True) w cv cs) (hiv : I64 vars) (hik : I64 keep) (htab : TabB w.heap.size w) :
    Calls Tryz.prog 3 #[.agg #[.int .i64 vars, .int .i64 keep, cv]] w (BoolPost w true) := by
  obtain ⟨ca, cn, cc, rfl, _, _⟩ := hc.form'
  obtain ⟨bb, hbb⟩ : ∃ b, w.heap.size = b := ⟨_, rfl⟩
  obtain ⟨W1, hW1⟩ : ∃ W, w.alloc (.cells #[.int .i64 vars, .int .i64 keep, .slice ca cn cc] 24) = W := ⟨_, rfl⟩
  have hb1 : Below w.heap.size w W1 := by rw [← hW1]; exact (Below.refl _ _).alloc (Nat.le_refl _) _
  have hr0 : W1.heap[bb]? = some (.cells #[.int .i64 vars, .int .i64 keep, .slice ca cn cc] 24) := by rw [← hW1]; exact new_at' _ _ hbb.symm
  have c0 : W1.cell? ⟨bb, 0, none⟩ = some (.int .i64 vars) := by rw [cell_of_row _ _ _ _ _ _ hr0]; rfl
  have c1 : W1.cell? ⟨bb, 1, none⟩ = some (.int .i64 keep) := by rw [cell_of_row _ _ _ _ _ _ hr0]; rfl
  have c2 : W1.cell? ⟨bb, 2, none⟩ = some (.slice ca cn cc) := by rw [cell_of_row _ _ _ _ _ _ hr0]; rfl
  have hlt1 := block_lt c0
  have HC := Lib.hid (hc.below hb1)
  have HB1 := Lib.hid hb1
  have HIV := Lib.hid hiv
  have HIK := Lib.hid hik
  have ht1 : TabB W1.heap.size W1 := (htab.below hb1 (Nat.le_refl _)).up hb1.size
  have HT1 := Lib.hid ht1
  have HKN := Lib.hid (known_any W1 ht1)
  clear hc hr0 hb1 hiv hik htab ht1
  go_enter Tryz.func3, Tryz.ntmps3
  go_wp2_with fail
  try rw [hW1]
  try rw [hbb]
  clear hW1 hbb
  refine HKN.out.mono ?_
  rintro e w2 ⟨rfl, hb2⟩
  have HB2 : Hid (Below w.heap.size w w2) := Lib.hid (HB1.out.trans (hb2.mono HB1.out.size))
  have HC2 := Lib.hid (HC.out.below hb2)
  have HT2 : Hid (TabB w2.heap.size w2) := Lib.hid ((HT1.out.below hb2 (Nat.le_refl _)).up hb2.size)
  have y0 := below_c hb2 hlt1 c0
  have y1 := below_c hb2 hlt1 c1
  have y2 := below_c hb2 hlt1 c2
  have hlt2 := block_lt y0
  clear hb2 HKN HB1 HC HT1 c0 c1 c2 hlt1
  have hfw := lfew_any _ vars keep _ cs w2 HC2.out HIV.out HIK.out
  obtain ⟨B1, hB1⟩ : ∃ B, fewB vars keep cs = B := ⟨_, rfl⟩
  rw [hB1] at hfw
  have HFW := Lib.hid hfw
  have HBF := Lib.hid hB1
  clear hfw hB1
  go_wp2_with fail
  refine HFW.out.mono ?_
  rintro e w3 ⟨rfl, hb3⟩
  have HB3 : Hid (Below w.heap.size w w3) := Lib.hid (HB2.out.trans (hb3.mono HB2.out.size))
  have HC3 := Lib.hid (HC2.out.below hb3)
  have HT3 : Hid (TabB w3.heap.size w3) := Lib.hid ((HT2.out.below hb3 (Nat.le_refl _)).up hb3.size)
  have z0 := below_c hb3 hlt2 y0
  have z1 := below_c hb3 hlt2 y1
  have z2 := below_c hb3 hlt2 y2
  have hlt3 := block_lt z0
  clear hb3 HFW HB2 HC2 HT2 y0 y1 y2 hlt2
  rcases bool2 B1 with rfl | rfl
  rotate_left
  · go_wp2_with fail
    go_ret
    exact ⟨rfl, HB3.out⟩
  obtain ⟨hsz, h9, _, _⟩ := fewB_ok HBF.out
  have HSZ := Lib.hid hsz
  have HCT := Lib.hid (pcount_any _ vars keep _ cs w3 HC3.out HIV.out HIK.out hsz h9 HT3.out)
  clear hsz h9 HBF
  -- after the preamble
  go_wp2_with fail
  refine HCT.out.mono ?_
  rintro e w4 ⟨n, c, rfl, q1, q2, q3, hb4⟩
  have HB4 : Hid (Below w.heap.size w w4) := Lib.hid (HB3.out.trans (hb4.mono HB3.out.size))
  have HC4 := Lib.hid (HC3.out.below hb4)
  have y0 := below_c hb4 hlt3 z0
  have y1 := below_c hb4 hlt3 z1
  have y2 := below_c hb4 hlt3 z2
  have hlt4 := block_lt y0
  have hak := lasked_any _ (fun _ => True) vars keep _ (.slice none 0 0) cs [] w4 HC4.out (Ints.nil _ _) HIV.out HIK.out HSZ.out
  rw [← q1] at hak
  have HAK := Lib.hid hak
  have HQ1 := Lib.hid q1
  have HQ2 := Lib.hid q2
  have HQ3 := Lib.hid q3
  clear hak q1 q2 q3 hb4 HCT HB3 HC3 HT3 z0 z1 z2 hlt3
  go_wp2_with fail
  refine HAK.out.mono ?_
  rintro e w5 ⟨rfl, hb5⟩
  have HB5 : Hid (Below w.heap.size w w5) := Lib.hid (HB4.out.trans (hb5.mono HB4.out.size))
  have HC5 := Lib.hid (HC4.out.below hb5)
  have z0 := below_c hb5 hlt4 y0
  have z1 := below_c hb5 hlt4 y1
  have z2 := below_c hb5 hlt4 y2
  clear hb5 HAK HB4 HC4 y0 y1 y2 hlt4
  by_cases hc0 : c = 0
  rotate_left
  · have hd : (c != 0) = true := by simp; exact hc0
    have hn := HQ2.out hc0
    subst hn
    have hcc : (c == c) = true := by simp
    clear hc0
    go_wp2_with fail
    go_ret
    exact ⟨rfl, HB5.out⟩
  subst hc0
  have hn := HQ3.out rfl
  obtain ⟨hcc, _, hk40⟩ := asked_ok HQ1.out.symm
  have hdm := check_dims hcc
  have hpr := proj_any _ vars keep _ cs w5 HC5.out (cn_of_check hcc) HSZ.out ⟨hdm.1, hk40⟩
  rw [← hn] at hpr
  have HPR := Lib.hid hpr
  clear hpr hn hcc hdm hk40 HQ1 HQ2 HQ3
  have hnn : (n == n) = true := by simp
  go_wp2_with fail
  refine HPR.out.mono ?_
  rintro e w6 ⟨rfl, hb6⟩
  have HB6 : Hid (Below w.heap.size w w6) := Lib.hid (HB5.out.trans (hb6.mono HB5.out.size))
  clear hb6 HPR
  go_wp2_with fail
  go_ret
  exact ⟨rfl, HB6.out⟩

/- (Counter seat) Walks: slices.Clone of clauses; with, of the statements; plain: the count with literals as clauses. No condition but the sizes. -/
open Go.ChangeShapes Go.WideShapes Go.ChangeAt Go.RowKit
set_option linter.unusedVariables false
set_option linter.unusedSimpArgs false

/-- a slice of clauses that the call owns; the rows themselves lie where F says -/
def RowsO (F : Nat → Prop) (w : World) (base : Nat) (v : Value) (n : Nat) (cs : List (List Int)) : Prop :=
  ∃ us, w.ownsRow base 32 1 v n us ∧ us.length = cs.length ∧ ∀ (j : Nat) u c, us[j]? = some u → cs[j]? = some c → Ints F w u c
def ClonePost (F : Nat → Prop) (W : World) (cs : List (List Int)) (e : Ending) (w' : World) : Prop :=
  ∃ v, e = .returned v ∧ RowsO F w' W.heap.size v cs.length cs ∧ Below W.heap.size W w'

set_option maxRecDepth 100000 in
set_option maxHeartbeats 1000000 in
theorem clones_any (F : Nat → Prop) (v : Value) (cs : List (List Int)) (w : World) (hx : Clss F w v cs) (hl : cs.length ≤ 1048576) :
    Calls Tryz.prog 26 #[v] w (ClonePost F w cs) := by
  obtain ⟨a, n, c, rfl, HN, hn⟩ := hx.form'
  have hu := Tryz.underlying22
  have hinfo : (Tryz.prog.info? 32).map (fun i => (i.zero, i.size, i.bytes)) = some (some (.slice none 0 0), 1, 24) := by kernel_rfl
  have HI := Lib.hid hinfo
  have HX := Lib.hid hx
  have hnil := fun (w : World) => Lib.run_eql_slice_nil w 22 32 a n c 0 0 hu
  have hn2 : n ≤ 1048576 := by rw [HN.out]; exact hl
  clear hinfo hx
  rcases a with _ | ad
  · simp only [Option.isNone_none] at hnil
    go_enter Tryz.func26, Tryz.ntmps26
    go_wp2
    go_ret
    have h0 : cs = [] := by
      rcases cs with _ | ⟨u, r⟩
      · rfl
      · obtain ⟨_, _, _, he, _⟩ := HX.out.at (k := 0) (x := u) rfl
        cases he
    subst h0
    exact ⟨_, rfl, ⟨[], World.ownsRow_nil _ _ _ _, rfl, by simp⟩, Below.refl _ _⟩
  · simp only [Option.isNone_some] at hnil
    have hown : (w.alloc (.cells #[] 32)).ownsRow w.heap.size 32 1 (.slice (some ⟨w.heap.size, 0, none⟩) 0 0) 0 [] := by
      simpa using own_new (base := w.heap.size) (w := w) #[] 32 (Nat.le_refl _) (by simp)
    have hb0 : Below w.heap.size w (w.alloc (.cells #[] 32)) := (Below.refl _ _).alloc (Nat.le_refl _) _
    obtain ⟨us, hS, hus, hrow⟩ := HX.out
    have HS := Lib.hid (hS.below hb0)
    have HUS := Lib.hid hus
    have HROW := Lib.hid hrow
    have hone : ∀ u ∈ us, u.oneCell' = true := fun u hu => by
      obtain ⟨j, hj, he⟩ := List.getElem_of_mem hu
      obtain ⟨a, c, h, _⟩ := (hrow j u _ (by rw [List.getElem?_eq_getElem hj, he]) (List.getElem?_eq_getElem (by omega))).form
      rw [h]; rfl
    have HONE := Lib.hid hone
    have HB0 := Lib.hid hb0
    clear hb0 hS hus hrow hone
    go_enter Tryz.func26, Tryz.ntmps26
    go_wp2_with (at_builtin; go_loud (refine wpList_pushAll rfl _ _ 22 rfl 32 (.slice none 0 0) 24 Tryz.underlying22 HI.out rfl w.heap.size (.slice (some ⟨w.heap.size, 0, none⟩) 0 0) 0 [] _ F (some ad) n c _ rfl rfl hown HS.out HONE.out (by omega) (by omega) (by simp) ?_); intro v' w' hown' hg' _; have HO := Lib.hid hown'; have HG := Lib.hid hg'; clear hown' hg' hown)
    go_ret
    have ho := HO.out
    rw [List.nil_append, Nat.zero_add, HN.out] at ho
    have hbb := HB0.out.grown HG.out (by simp) fun k hk => by simp [Value.ownBlock] at hk; omega
    exact ⟨_, rfl, ⟨us, ho, HUS.out, fun j u c h1 h2 => (HROW.out j u c h1 h2).below hbb⟩, hbb⟩
theorem RowsO.below {F : Nat → Prop} {w w' : World} {base n : Nat} {v : Value} {cs : List (List Int)} (h : RowsO F w base v n cs) (hb : Below w.heap.size w w') : RowsO F w' base v n cs := by
  obtain ⟨us, h1, h2, h3⟩ := h
  exact ⟨us, own_below h1 hb, h2, fun j u c hu hc => (h3 j u c hu hc).below hb⟩
theorem RowsO.clss {F : Nat → Prop} {w : World} {base n : Nat} {v : Value} {cs : List (List Int)} (h : RowsO F w base v n cs) (hn : n ≤ 9223372036854775807) : Clss (fun _ => True) w v cs := by
  obtain ⟨us, h1, h2, h3⟩ := h
  exact ⟨us, (ownsRow_sl1 h1 hn).mono fun _ _ => trivial, h2, fun j u c hu hc => (h3 j u c hu hc).mono fun _ _ => trivial⟩
theorem RowsO.form {F : Nat → Prop} {w : World} {base n : Nat} {v : Value} {cs : List (List Int)} (h : RowsO F w base v n cs) : ∃ a c, v = .slice a n c := by
  obtain ⟨us, h1, _⟩ := h
  rcases h1.2 with ⟨rfl, rfl⟩ | ⟨g, cap, cur, rfl, _⟩
  · exact ⟨_, _, rfl⟩
  · exact ⟨_, _, rfl⟩
theorem RowsO.off {s : Nat} {w : World} {base n : Nat} {v : Value} {cs : List (List Int)} (h : RowsO (fun b => b < s) w base v n cs) (hs : s ≤ base) : RowsO (fun b => v.ownBlock ≠ some b) w base v n cs := by
  obtain ⟨us, h1, h2, h3⟩ := h
  refine ⟨us, h1, h2, fun j u c hu hc => (h3 j u c hu hc).mono fun b hb e => ?_⟩
  have := (h1.lt b e).1
  omega
/-- a clause is appended -/
theorem RowsO.push {w w' : World} {base g cap n : Nat} {v rv : Value} {cs : List (List Int)} {c : List Int} {us : List Value}
    (hn : n = cs.length) (h2 : us.length = cs.length) (h3 : ∀ (j : Nat) u c, us[j]? = some u → cs[j]? = some c → Ints (fun b => v.ownBlock ≠ some b) w u c) (hr : Ints (fun b => v.ownBlock ≠ some b) w rv c)
    (hown : w'.ownsRow base 32 1 (.slice (some ⟨g, 0, none⟩) (n + 1) cap) (n + 1) (us ++ [rv])) (hg : w.grownBy w' v.ownBlock) (hat : v.ownBlock = some g ∨ w.heap.size ≤ g) :
    RowsO (fun b => (Value.slice (some ⟨g, 0, none⟩) (n + 1) cap).ownBlock ≠ some b) w' base (.slice (some ⟨g, 0, none⟩) (n + 1) cap) (n + 1) (cs ++ [c]) := by
  subst hn
  have mv : ∀ u m, Ints (fun b => v.ownBlock ≠ some b) w u m → Ints (fun b => (Value.slice (some ⟨g, 0, none⟩) (cs.length + 1) cap).ownBlock ≠ some b) w' u m := by
    intro u m hu
    refine (hu.lt.move (w' := w') fun b hb hlt => hg.block b hlt (fun e => hb.1 e.symm)).mono fun b hb => ?_
    simp only [Value.ownBlock]
    intro e
    injection e with e
    subst e
    rcases hat with h | h
    · exact hb.1 h
    · omega
  refine ⟨_, hown, by simp [h2], fun j u x hu hx => ?_⟩
  rcases Nat.lt_or_ge j us.length with hj | hj
  · rw [List.getElem?_append_left hj] at hu
    rw [List.getElem?_append_left (by omega)] at hx
    exact mv u x (h3 j u x hu hx)
  · rw [List.getElem?_append_right hj] at hu
    rw [List.getElem?_append_right (by omega)] at hx
    rw [h2] at hu
    rcases hk : j - cs.length with _ | k
    · rw [hk] at hu hx
      simp at hu hx
      subst hu hx
      exact mv rv c hr
    · rw [hk] at hu
      simp at hu
/-! ### plain -/
def withC (cs : List (List Int)) (ls : List Int) : List (List Int) := cs ++ ls.map fun x => [x]
theorem cw_with (keep : Int) (cs : List (List Int)) (ls : List Int) : cwN keep (canM (withC cs ls)) [] = cwN keep cs ls := by
  unfold cwN
  congr 1
  exact cnt_iff fun f => ⟨fun h => (ev_with f).1 h.1, fun h => ⟨(ev_with f).2 h, fun x hx => by simp at hx⟩⟩
theorem canM_eas {cs : List (List Int)} {d : List Int} {m : Nat} (hm : ∀ c ∈ cs, c.length ≤ m) (h : d ∈ canM cs) : d.length ≤ m := by
  obtain ⟨_, _, c, hc, rfl⟩ := canM_mem h
  exact Nat.le_trans (claM_len _) (hm c hc)
theorem claM_sub {c : List Int} {x : Int} (h : x ∈ claM c) : x ∈ c := claM_mem h
theorem cn_can {cs : List (List Int)} (h : ∀ c ∈ cs, ∀ x ∈ c, x ≠ 0 ∧ -20000 ≤ x ∧ x ≤ 20000) : Cn' (canM cs) := by
  refine ⟨canM_idem cs, fun c hc x hx => ?_⟩
  obtain ⟨_, _, d, hd, rfl⟩ := canM_mem hc
  exact h d hd x (claM_sub hx)
theorem cn_with {cs : List (List Int)} {ls : List Int} (h : Cn' cs) (hs : SmL ls) : Cn' (canM (withC cs ls)) := cn_can fun c hc x hx => by
  rcases List.mem_append.1 hc with h1 | h1
  · exact h.2 c h1 x hx
  · obtain ⟨y, hy, rfl⟩ := List.mem_map.1 h1
    simp at hx
    subst hx
    exact hs x hy
theorem sz_with {cs : List (List Int)} {ls : List Int} (h : cs.length ≤ 40 ∧ ∀ c ∈ cs, c.length ≤ 14) (hl : ls.length ≤ 100) : SzL (canM (withC cs ls)) ∧ (withC cs ls).length ≤ 200 ∧ ∀ c ∈ withC cs ls, c.length ≤ 14 := by
  have h1 : (withC cs ls).length ≤ 200 := by
    unfold withC
    rw [List.length_append, List.length_map]
    have := h.1
    omega
  have h2 : ∀ c ∈ withC cs ls, c.length ≤ 14 := fun c hc => by
    rcases List.mem_append.1 hc with h1 | h1
    · exact h.2 c h1
    · obtain ⟨y, _, rfl⟩ := List.mem_map.1 h1
      simp
  exact ⟨⟨Nat.le_trans (canM_ln _) (by omega), fun c hc => Nat.le_trans (canM_eas h2 hc) (by omega)⟩, h1, h2⟩
/-! ### with -/
def WithPost (W : World) (vars keep : Int) (cs : List (List Int)) (ls : List Int) (e : Ending) (w' : World) : Prop :=
  ∃ v, e = .returned (.agg #[.int .i64 vars, .int .i64 keep, v]) ∧ Clss (fun _ => True) w' v (canM (withC cs ls)) ∧ Below W.heap.size W w'
theorem withC_snoc {cs : List (List Int)} {ls : List Int} {k : Nat} {x : Int} (h : ls[k]? = some x) : withC cs (ls.take (k + 1)) = withC cs (ls.take k) ++ [[x]] := by
  unfold withC
  rw [take_snoc h, List.map_append, List.append_assoc]
  rfl
set_option maxRecDepth 100000 in
set_option maxHeartbeats 16000000 in
theorem with_any (F G : Nat → Prop) (vars keep : Int) (cv lv : Value) (cs : List (List Int)) (ls : List Int) (w : World) (hc : Clss F w cv cs) (hl : Ints G w lv ls) (hs : cs.length ≤ 40 ∧ ∀ c ∈ cs, c.length ≤ 14) (hll : ls.length ≤ 100) :
    Calls Tryz.prog 17 #[.agg #[.int .i64 vars, .int .i64 keep, cv], lv] w (WithPost w vars keep cs ls) := by
  obtain ⟨ca, cn, cc, rfl, HCN, _⟩ := hc.form'
  obtain ⟨la, ln, lc, rfl, HLN, _⟩ := hl.form'
  obtain ⟨bb, hbb⟩ : ∃ b, w.heap.size = b := ⟨_, rfl⟩
  obtain ⟨W1, hW1⟩ : ∃ W, (w.alloc (.cells #[.int .i64 vars, .int .i64 keep, .slice ca cn cc] 24)).alloc (.cells #[.int .i64 0, .int .i64 0, .slice none 0 0] 24) = W := ⟨_, rfl⟩
  have hb1 : Below w.heap.size w W1 := by rw [← hW1]; exact ((Below.refl _ _).alloc (Nat.le_refl _) _).alloc (by simp) _
  have hr0 : W1.heap[bb]? = some (.cells #[.int .i64 vars, .int .i64 keep, .slice ca cn cc] 24) := by rw [← hW1]; exact old_at _ _ _ (new_at' _ _ hbb.symm)
  have hr1 : W1.heap[bb + 1]? = some (.cells #[.int .i64 0, .int .i64 0, .slice none 0 0] 24) := by rw [← hW1]; exact new_at' _ _ (by simp; omega)
  have c0 : W1.cell? ⟨bb, 0, none⟩ = some (.int .i64 vars) := by rw [cell_of_row _ _ _ _ _ _ hr0]; rfl
  have c1 : W1.cell? ⟨bb, 1, none⟩ = some (.int .i64 keep) := by rw [cell_of_row _ _ _ _ _ _ hr0]; rfl
  have c2 : W1.cell? ⟨bb, 2, none⟩ = some (.slice ca cn cc) := by rw [cell_of_row _ _ _ _ _ _ hr0]; rfl
  have cf : ∀ o, W1.frozen? ⟨bb, o, none⟩ = false := fun o => by simp only [World.frozen?, hr0]; simp
  have d0 : W1.cell? ⟨bb + 1, 0, none⟩ = some (.int .i64 0) := by rw [cell_of_row _ _ _ _ _ _ hr1]; rfl
  have d1 : W1.cell? ⟨bb + 1, 1, none⟩ = some (.int .i64 0) := by rw [cell_of_row _ _ _ _ _ _ hr1]; rfl
  have d2 : W1.cell? ⟨bb + 1, 2, none⟩ = some (.slice none 0 0) := by rw [cell_of_row _ _ _ _ _ _ hr1]; rfl
  have df : ∀ o, W1.frozen? ⟨bb + 1, o, none⟩ = false := fun o => by simp only [World.frozen?, hr1]; simp
  have hs1 : W1.heap.size = bb + 2 := by rw [← hW1]; simp; omega
  have HCLO := Lib.hid (clones_any F _ cs W1 (hc.below hb1) (by have := hs.1; omega))
  have HL := Lib.hid (hl.below hb1)
  have HB1 := Lib.hid hb1
  have HS := Lib.hid hs
  have HLL := Lib.hid hll
  have HBB := Lib.hid hbb
  have HCF := Lib.hid cf
  have HDF := Lib.hid df
  have HLW : Hid (Ints (fun b => b < w.heap.size) w (.slice la ln lc) ls) := Lib.hid (hl.lt.mono fun b hb => hb.2)
  have HCW : Hid (Clss (fun b => b < w.heap.size) w (.slice ca cn cc) cs) := Lib.hid (clss_lt hc)
  have HCLO2 := Lib.hid (clones_any _ _ cs W1 (HCW.out.below hb1) (by have := hs.1; omega))
  have HIN := Lib.hid (show (Tryz.prog.info? 32).map (fun i => (i.zero, i.size, i.bytes)) = some (some (.slice none 0 0), 1, 24) by kernel_rfl)
  clear hc hl hs hll hb1 hr0 hr1 cf df
  go_enter Tryz.func17, Tryz.ntmps17
  go_wp2_with fail
  try rw [hW1]
  try rw [hbb]
  refine HCLO2.out.mono ?_
  rintro e w2 ⟨v, rfl, hro, hb2⟩
  obtain ⟨oa, oc, rfl⟩ := hro.form
  have HRO : Hid (RowsO (fun b => (Value.slice oa cs.length oc).ownBlock ≠ some b) w2 W1.heap.size (.slice oa cs.length oc) cs.length cs) := Lib.hid (hro.off HB1.out.size)
  rw [← HCN.out] at HRO
  rw [← HCN.out]
  have HB2 := Lib.hid hb2
  have HP0 : Hid (cs = withC cs (ls.take 0)) := Lib.hid (by unfold withC; simp)
  clear hro hb2 HCLO HCLO2 HCW
  go_wp2_with fail
  go_loopg [5, 13] ln (fun gg u5 u13 wx => ∃ (k : Nat) (ps : List (List Int)) (oa : Option Addr) (pn oc : Nat), k + gg = ln ∧ u13 = .int .i64 k ∧ u5 = .slice oa pn oc ∧ Hid (pn = ps.length) ∧ Hid (ps = withC cs (ls.take k)) ∧ Hid (Below W1.heap.size W1 wx) ∧ Hid (RowsO (fun b => (Value.slice oa pn oc).ownBlock ≠ some b) wx W1.heap.size (.slice oa pn oc) pn ps))
  case atStart => exact ⟨0, cs, oa, cn, oc, by omega, rfl, rfl, HCN, HP0, HB2, HRO⟩
  case round =>
  clear HRO HB2 HP0
  obtain ⟨k, ps, oa, pn, oc, hkg, rfl, rfl, HPN, HP, HB, HRO⟩ := hrel
  have hpn : pn ≤ 200 := by
    rw [HPN.out, HP.out]
    unfold withC
    have := HS.out.1
    have := HLL.out
    simp
    omega
  by_cases hk : k < ln
  · have hdk : decide ((k : Int) < ln) = true := by simp; omega
    have hdk' : decide (k < ln) = true := decide_eq_true hk
    have hk0 : (0 : Int) ≤ k := by omega
    have hkn : (k : Int) < ln := by omega
    have hlwr : Ints (fun b => b < w.heap.size) wr (.slice la ln lc) ls := (HLW.out.below HB1.out).move fun b hb _ => HB.out.block b (Nat.lt_of_lt_of_le hb HB1.out.size)
    obtain ⟨x, hx⟩ : ∃ x, ls[k]? = some x := ⟨_, List.getElem?_eq_getElem (by rw [← HLN.out]; exact hk)⟩
    obtain ⟨xb, xo, rfl, _, hxb, hxc, hx6⟩ := hlwr.at hx
    obtain ⟨us, ho1, ho2, ho3⟩ := HRO.out
    obtain ⟨W5, hW5⟩ : ∃ W, wr.alloc (.cells #[.int .i64 x] 3) = W := ⟨_, rfl⟩
    have hb5 : Below wr.heap.size wr W5 := by rw [← hW5]; exact (Below.refl _ _).alloc (Nat.le_refl _) _
    have r5 : W5.heap[wr.heap.size]? = some (.cells #[.int .i64 x] 3) := by rw [← hW5]; exact new_at' _ _ rfl
    have hown5 : W5.ownsRow W1.heap.size 32 1 (.slice oa pn oc) pn us := own_below ho1 hb5
    have hr5 : Ints (fun b => (Value.slice oa pn oc).ownBlock ≠ some b) W5 (.slice (some ⟨wr.heap.size, 0, none⟩) 1 1) [x] := (ints_block [x] 1 r5 (by simp) rfl fun y hy => by simp at hy; subst hy; exact hx6).mono fun b hb => by
      subst hb
      intro e
      have := (ho1.lt _ e).2
      omega
    have HR5 := Lib.hid hr5
    have HO3 : Hid (∀ (j : Nat) u c, us[j]? = some u → ps[j]? = some c → Ints (fun b => (Value.slice oa pn oc).ownBlock ≠ some b) W5 u c) := Lib.hid fun j u c h1 h2 => (ho3 j u c h1 h2).below hb5
    have HO2 := Lib.hid ho2
    have HB5 : Hid (Below W1.heap.size W1 W5) := Lib.hid (HB.out.trans (hb5.mono HB.out.size))
    have HPX : Hid (ps ++ [[x]] = withC cs (ls.take (k + 1))) := Lib.hid (by rw [withC_snoc hx, ← HP.out])
    have hz5 : W1.heap.size ≤ W5.heap.size := HB5.out.size
    clear hlwr hx ho1 ho2 ho3 hb5 r5 hr5 HRO HB HP hx6
    go_wp2_with (at_builtin; go_loud (refine wpList_push1 rfl _ _ 22 rfl 32 (.slice none 0 0) 24 Tryz.underlying22 HIN.out rfl W1.heap.size (.slice oa pn oc) pn us W5 (.slice (some ⟨wr.heap.size, 0, none⟩) 1 1) rfl rfl hown5 rfl (by omega) (by omega) hz5 ?_); intro g7 cap7 w7 hown7 hg7 hs7 hgb hgl hat; have HB7 : Hid (Below W1.heap.size W1 w7) := Lib.hid (HB5.out.grown hg7 hz5 (fun k hk => (hown5.lt k hk).1)); have HO7 : Hid (RowsO (fun b => (Value.slice (some ⟨g7, 0, none⟩) (pn + 1) cap7).ownBlock ≠ some b) w7 W1.heap.size (.slice (some ⟨g7, 0, none⟩) (pn + 1) cap7) (pn + 1) (ps ++ [[x]])) := Lib.hid (RowsO.push HPN.out HO2.out HO3.out HR5.out hown7 hg7 hat); clear hown7 hg7 hat hown5 hW5)
    go_roundg (gk - 1)
    case measure => omega
    case rel => exact ⟨k + 1, ps ++ [[x]], _, _, _, by omega, by go_num, rfl, Lib.hid (by rw [HPN.out]; simp), HPX, HB7, HO7⟩
  obtain rfl : ln = k := by omega
  have hdk : decide ((ln : Int) < ln) = false := by simp
  have hdk' : decide (ln < ln) = false := decide_eq_false (by omega)
  have hps : ps = withC cs ls := by
    rw [HP.out, HLN.out, List.take_length]
  obtain ⟨_, h200, h14⟩ := sz_with HS.out HLL.out
  have hcl : Clss (fun _ => True) wr (.slice oa pn oc) ps := HRO.out.clss (by omega)
  have hca := lcanonical_any _ _ ps wr hcl (by have := HPN.out; omega) (fun c hc => by rw [hps] at hc; have := h14 c hc; omega)
  rw [hps] at hca
  have HCA := Lib.hid hca
  have hl0 := block_lt c0
  have hl1 := block_lt d0
  clear hca hcl hps h200 h14 HRO HP HPN
  go_wp2_with fail
  refine HCA.out.mono ?_
  rintro e w5 ⟨v3, rfl, hv3, hb5⟩
  obtain ⟨ra, rn, rc, rfl, _, _⟩ := hv3.form'
  have HB5 : Hid (Below W1.heap.size W1 w5) := Lib.hid (HB.out.trans (hb5.mono HB.out.size))
  have e0 := below_c HB5.out hl0 c0
  have e1 := below_c HB5.out hl0 c1
  have f0 := below_c HB5.out hl1 d0
  have f1 := below_c HB5.out hl1 d1
  have f2 := below_c HB5.out hl1 d2
  have e2 := below_c HB5.out hl0 c2
  have z2 : w5.frozen? ⟨bb, 2, none⟩ = false := (World.frozen?_of_block (a := ⟨bb, 2, none⟩) (HB5.out.block bb hl0)).trans (HCF.out 2)
  have y0 : w5.frozen? ⟨bb + 1, 0, none⟩ = false := (World.frozen?_of_block (a := ⟨bb + 1, 0, none⟩) (HB5.out.block (bb + 1) hl1)).trans (HDF.out 0)
  have y1 : w5.frozen? ⟨bb + 1, 1, none⟩ = false := (World.frozen?_of_block (a := ⟨bb + 1, 1, none⟩) (HB5.out.block (bb + 1) hl1)).trans (HDF.out 1)
  have y2 : w5.frozen? ⟨bb + 1, 2, none⟩ = false := (World.frozen?_of_block (a := ⟨bb + 1, 2, none⟩) (HB5.out.block (bb + 1) hl1)).trans (HDF.out 2)
  have HV3 := Lib.hid hv3
  clear hb5 hv3 HCA c0 c1 c2 d0 d1 d2
  go_wp2_with fail
  obtain ⟨W6, hW6⟩ : ∃ W, w5.setCell ⟨bb, 2, none⟩ (.slice ra rn rc) = W := ⟨_, rfl⟩
  have g0 : W6.cell? ⟨bb + 1, 0, none⟩ = some (.int .i64 0) := by rw [← hW6]; exact set_ne (by omega) f0
  have g1 : W6.cell? ⟨bb + 1, 1, none⟩ = some (.int .i64 0) := by rw [← hW6]; exact set_ne (by omega) f1
  have g2 : W6.cell? ⟨bb + 1, 2, none⟩ = some (.slice none 0 0) := by rw [← hW6]; exact set_ne (by omega) f2
  have hm6 : ∀ k, k ≠ bb → W6.heap[k]? = w5.heap[k]? := fun k hk => by rw [← hW6]; exact Below.heap_setCell _ _ _ _ hk
  have HB6 : Hid (Below w.heap.size w W6) := Lib.hid (by rw [← hW6]; exact (HB1.out.trans (HB5.out.mono HB1.out.size)).setCell (by rw [HBB.out]; exact Nat.le_refl _) _)
  rw [hW6]
  obtain ⟨v0, v1, v2⟩ := set3_at (x := .int .i64 vars) (y := .int .i64 keep) (z := .slice ra rn rc) g0 g1 g2
  refine bodyPost_ret (v := .agg #[.int .i64 vars, .int .i64 keep, .slice ra rn rc]) (by simp [results, Tryz.results17, go_sem, v0, v1, v2]) rfl ?_
  refine ⟨_, rfl, ?_, ((HB6.out.setCell (by rw [HBB.out]; exact Nat.le_succ _) _).setCell (by rw [HBB.out]; exact Nat.le_succ _) _).setCell (by rw [HBB.out]; exact Nat.le_succ _) _⟩
  refine Rows1.mono (fun _ _ _ _ _ h hg => h.mono hg) (Rows1.move (fun _ _ _ _ _ h hm => h.move hm) HV3.out fun b hb hlt => ?_) fun b hb => trivial
  have h1 : wr.heap.size ≤ b := hb
  have h2 : W1.heap.size ≤ wr.heap.size := HB.out.size
  rw [set3_block _ _ _ (by omega), hm6 _ (by omega)]

/- (Counter seat) Walk: counter.Trace. No condition but the sizes, and that the table of powers lies as laid. -/
open Go.ChangeShapes Go.WideShapes Go.ChangeAt Go.RowKit
set_option linter.unusedVariables false
set_option linter.unusedSimpArgs false

/-- what Trace hands back -/
def TrPost (W : World) (vars keep : Int) (cs : List (List Int)) (e : Ending) (w' : World) : Prop :=
  ∃ (tv : Value) (c : Int) (ts : List Claim), e = .returned (.tuple #[.agg #[tv], .int .i64 c]) ∧ c = askedM vars keep cs [] ∧ (c ≠ 0 → ts = []) ∧
    (c = 0 → AccS keep ts ∧ ts ≠ [] ∧ (ts.getD (ts.length - 1) clNil).cls = cs ∧ ts.length ≤ 1023 ∧ ∀ k ∈ ts, SzC k) ∧ Claims (fun _ => True) w' tv ts ∧ Below W.heap.size W w'
theorem PrS.nilEx {Ex Ex' : Nat → Prop} {B : Nat} {w : World} {pb mb : Nat} {keep : Int} {cv : Value} {n : Nat} (h : PrS Ex B w pb mb keep cv [] n) (hx : ∀ b, Ex' b → b < w.heap.size) : PrS Ex' B w pb mb keep cv [] n := by
  obtain ⟨us, r1, r2, r3⟩ := h.rows
  exact ⟨h.c0, h.c1, h.c2, h.c3, h.c4, h.free, ⟨us, r1, r2, fun j u c hu hc => by simp at hc⟩, h.known, h.diff, h.low, h.acc, h.keep0, h.sz, hx⟩
theorem PrS.claims {Ex : Nat → Prop} {B : Nat} {w : World} {pb mb : Nat} {keep : Int} {cv : Value} {ts : List Claim} {n : Nat} (h : PrS Ex B w pb mb keep cv ts n) (hn : ts.length ≤ 9223372036854775807) (hE : ∀ b, Ex b → b < B) : Claims (fun b => b < w.heap.size ∧ ¬ Ex b) w cv ts := by
  obtain ⟨us, h1, h2, h3⟩ := h.rows
  refine ⟨us, ?_, h2, fun j u c hu hc => (h3 j u c hu hc).mono fun b hb => ⟨hb.1, hb.2.2⟩⟩
  rcases h1.2 with ⟨rfl, h0⟩ | ⟨g, cap, cur, e, _⟩
  · have : us = [] := List.eq_nil_of_length_eq_zero (by omega)
    subst this
    exact ⟨none, 0, rfl, by simp, fun j u hu => by simp at hu⟩
  · have hg : cv.ownBlock = some g := by rw [e]; rfl
    refine ⟨some ⟨g, 0, none⟩, cap, by rw [e, h2], by omega, fun j u hu => ⟨g, 0, rfl, ⟨(h1.lt g hg).2, fun e => by have := hE g e; have := (h1.lt g hg).1; omega⟩, ?_⟩⟩
    have hc := h1.cells (g := g) hg
    obtain ⟨e1, e2, e3, e4, e5⟩ := cells5_get us j u hu
    have f1 := hc _ _ e1
    have f2 := hc _ _ e2
    have f3 := hc _ _ e3
    have f4 := hc _ _ e4
    have f5 := hc _ _ e5
    rw [add_at] at f1 f2 f3 f4 f5
    rw [Nat.zero_add] at f1 f2 f3 f4 f5 ⊢
    exact ⟨f1, f2, f3, f4, f5⟩
section push5
variable {P : Program} {ops : Array Oper} {rest : List Oper} {o : Oper} {a : Act} {Q : Exit → Act → World → Prop}
/-- append of one element of five cells, which has just been laid in a block of its own -/
theorem wpList_push5t (hgd : o.guard = none) (s x : Operand) (t : TypeId)
    (ho : o.op = .call { callee := .builtin .append, args := #[s, x], argTypes := #[t, t] })
    (E : TypeId) (z : Value) (bytes : Nat) (ht : P.underlying t = some (.slice E)) (hinfo : (P.info? E).map (fun i => (i.zero, i.size, i.bytes)) = some (some z, 5, bytes)) (hz1 : z.cells.size = 5)
    (base : Nat) (v : Value) (n : Nat) (xs : List Value) (w0 : World) (u0 u1 u2 u3 u4 : Value)
    (hs : a.eval s = v) (hx : a.eval x = .slice (some ⟨w0.heap.size, 0, none⟩) 1 1) (hown : w0.ownsRow base E 5 v n xs) (hu0 : u0.oneCell' = true) (hu1 : u1.oneCell' = true) (hu2 : u2.oneCell' = true) (hu3 : u3.oneCell' = true) (hu4 : u4.oneCell' = true)
    (hn : (n + 1) * bytes ≤ 140737488355328) (hby : 1 ≤ bytes) (hbase : base ≤ w0.heap.size)
    (h : ∀ (g cap' : Nat) w', w'.ownsRow base E 5 (.slice (some ⟨g, 0, none⟩) (n + 1) cap') (n + 1) (xs ++ [u0, u1, u2, u3, u4]) → w0.grownBy w' v.ownBlock → w0.heap.size < w'.heap.size → base ≤ g → g < w'.heap.size → (v.ownBlock = some g ∨ w0.heap.size ≤ g) → wpList P ops Q rest (a.put o.dst (.slice (some ⟨g, 0, none⟩) (n + 1) cap')) w') :
    wpList P ops Q (o :: rest) a (w0.alloc (.cells #[u0, u1, u2, u3, u4] E)) := by
  obtain ⟨i, hi, hz, h1, h2⟩ := info_parts hinfo
  have hle : n + 1 ≤ (n + 1) * bytes := Nat.le_mul_of_pos_right _ hby
  refine wpList_append_own_at _ hgd s x t ho base E i z 5 bytes ht hi hz h1 h2 hz1 (by decide) v n xs hs (hown.alloc _) ⟨w0.heap.size, 0, none⟩ 1 1 [u0, u1, u2, u3, u4] hx rfl ?_ ?_ ?_ hn ?_ ?_
  · intro j y hj
    match j, hj with
    | 0, hj => simp at hj; subst hj; simp [Addr.add]
    | 1, hj => simp at hj; subst hj; simp [Addr.add]
    | 2, hj => simp at hj; subst hj; simp [Addr.add]
    | 3, hj => simp at hj; subst hj; simp [Addr.add]
    | 4, hj => simp at hj; subst hj; simp [Addr.add]
  · intro y hy; simp at hy; rcases hy with rfl | rfl | rfl | rfl | rfl <;> assumption
  · unfold maxLen; omega
  · simp; omega
  · intro v' w' hown' hg _ hat
    rcases hown'.2 with ⟨_, h0⟩ | ⟨g, cap', cur, rfl, hb, hh, _⟩
    · omega
    refine h g cap' w' hown' ⟨hg.os, hg.tape, hg.output, ?_, ?_⟩ ?_ hb (Array.getElem?_eq_some_iff.1 hh).1 ?_
    · have := hg.size; simp at this; omega
    · intro k hk hne
      rw [hg.block k (by simp; omega) hne]
      exact Below.heap_alloc w0 _ k hk
    · have := hg.size; simp at this; omega
    · rcases hat with h | h
      · exact .inl h.symm
      · right; simp [Value.ownBlock] at h; omega
end push5
/-- the trace that is written: the block T, and its claims behind it -/
def TrO (w : World) (T R : Nat) (v : Value) (ts : List Claim) : Prop :=
  w.cell? ⟨T, 0, none⟩ = some v ∧ (∀ o, w.frozen? ⟨T, o, none⟩ = false) ∧
  ∃ us : List Row5, w.ownsRow (T + 1) 52 5 v ts.length (cells5 us) ∧ us.length = ts.length ∧ ∀ (j : Nat) u c, us[j]? = some u → ts[j]? = some c → ClaimV (fun b => (b ≠ T ∧ b ≠ R) ∧ v.ownBlock ≠ some b) w u c
theorem TrO.below {w w' : World} {T R : Nat} {v : Value} {ts : List Claim} (h : TrO w T R v ts) (hb : Below w.heap.size w w') : TrO w' T R v ts := by
  obtain ⟨h0, hf, us, ho, hl, hr⟩ := h
  have hlt := block_lt h0
  exact ⟨below_c hb hlt h0, fun o => (World.frozen?_of_block (a := ⟨T, o, none⟩) (hb.block T hlt)).trans (hf o), us, own_below ho hb, hl, fun j u c hu hc => ((hr j u c hu hc).move fun b hbb hl => hb.block b hl)⟩
theorem TrO.push {w w7 : World} {T R g cap n : Nat} {v r0 r1 r2 r3 r4 : Value} {ts : List Claim} {c : Claim} {us : List Row5}
    (h : TrO w T R v ts) (hn : n = ts.length) (h1 : w.ownsRow (T + 1) 52 5 v n (cells5 us)) (h2 : us.length = ts.length) (h3 : ∀ (j : Nat) u c, us[j]? = some u → ts[j]? = some c → ClaimV (fun b => (b ≠ T ∧ b ≠ R) ∧ v.ownBlock ≠ some b) w u c) (hr : ClaimV (fun b => (b ≠ T ∧ b ≠ R) ∧ v.ownBlock ≠ some b) w (r0, r1, r2, r3, r4) c)
    (hown : w7.ownsRow (T + 1) 52 5 (.slice (some ⟨g, 0, none⟩) (n + 1) cap) (n + 1) (cells5 us ++ [r0, r1, r2, r3, r4])) (hg : w.grownBy w7 v.ownBlock) (hat : v.ownBlock = some g ∨ w.heap.size ≤ g) :
    TrO (w7.setCell ⟨T, 0, none⟩ (.slice (some ⟨g, 0, none⟩) (n + 1) cap)) T R (.slice (some ⟨g, 0, none⟩) (n + 1) cap) (ts ++ [c]) := by
  subst hn
  obtain ⟨c0, hf, _⟩ := h
  have hlt := block_lt c0
  have hne : some T ≠ v.ownBlock := fun e => by have := (h1.lt T e.symm).1; omega
  have hgB : T + 1 ≤ g := (hown.lt g rfl).1
  have mv : ∀ u m, ClaimV (fun b => (b ≠ T ∧ b ≠ R) ∧ v.ownBlock ≠ some b) w u m → ClaimV (fun b => (b ≠ T ∧ b ≠ R) ∧ (Value.slice (some ⟨g, 0, none⟩) (ts.length + 1) cap).ownBlock ≠ some b) (w7.setCell ⟨T, 0, none⟩ (.slice (some ⟨g, 0, none⟩) (ts.length + 1) cap)) u m := by
    intro u m hu
    refine ((claimV_and hu).move (w' := w7.setCell ⟨T, 0, none⟩ (.slice (some ⟨g, 0, none⟩) (ts.length + 1) cap)) fun b hb hlt => ?_).mono fun b hb => ?_
    · exact (Below.heap_setCell _ _ _ _ (show b ≠ T from hb.2.1.1)).trans (hg.block b hlt (fun e => hb.2.2 e.symm))
    · refine ⟨hb.2.1, ?_⟩
      simp only [Value.ownBlock]
      intro e
      injection e with e
      subst e
      rcases hat with h | h
      · exact hb.2.2 h
      · have := hb.1; omega
  refine ⟨set_eq (grown_c2 hg hne c0), fun o => ?_, us ++ [(r0, r1, r2, r3, r4)], ?_, by simp [h2], fun j u x hu hx => ?_⟩
  · rw [World.frozen?_setCell]
    exact (World.frozen?_of_block (a := ⟨T, o, none⟩) (hg.block T hlt hne)).trans (hf o)
  · rw [List.length_append, cells5_snoc]
    refine own_same hown fun b e => Below.heap_setCell _ _ _ _ ?_
    have : g = b := by simpa [Value.ownBlock] using e
    show b ≠ T
    omega
  · rcases Nat.lt_or_ge j us.length with hj | hj
    · rw [List.getElem?_append_left hj] at hu
      rw [List.getElem?_append_left (by omega)] at hx
      exact mv u x (h3 j u x hu hx)
    · rw [List.getElem?_append_right hj] at hu
      rw [List.getElem?_append_right (by omega)] at hx
      rw [h2] at hu
      rcases hk : j - ts.length with _ | k
      · rw [hk] at hu hx
        simp at hu hx
        subst hu hx
        exact mv _ c hr
      · rw [hk] at hu
        simp at hu
theorem TrO.setR {w : World} {T R : Nat} {v u : Value} {ts : List Claim} (h : TrO w T R v ts) (hR : R < T) : TrO (w.setCell ⟨R, 0, none⟩ u) T R v ts := by
  obtain ⟨h0, hf, us, ho, hl, hr⟩ := h
  exact ⟨set_ne (by omega) h0, fun o => by rw [World.frozen?_setCell]; exact hf o, us, own_same ho fun b e => Below.heap_setCell _ _ _ _ (by have := (ho.lt b e).1; show b ≠ R; omega), hl,
    fun j x c hu hc => (hr j x c hu hc).move fun b hb _ => Below.heap_setCell _ _ _ _ (show b ≠ R from hb.1.2)⟩
theorem TrO.claims {w : World} {T R : Nat} {v : Value} {ts : List Claim} (h : TrO w T R v ts) (hn : ts.length ≤ 9223372036854775807) : Claims (fun _ => True) w v ts := by
  obtain ⟨_, _, us, h1, h2, h3⟩ := h
  exact KidsO.claims (w0 := w) (B := T + 1) (mb := w.heap.size) ⟨us, h1, h2, fun j u c hu hc => (claimV_and (h3 j u c hu hc)).mono fun b hb => hb.1⟩ (fun _ _ => rfl) hn
/-- the clauses of the claim in hand: cloned, behind the block L; its rows lie low or are clones of their own -/
def RowsC (w : World) (T R L : Nat) (v : Value) (cs : List (List Int)) : Prop :=
  ∃ us, w.ownsRow (L + 1) 32 1 v cs.length us ∧ us.length = cs.length ∧ ∀ (j : Nat) u c, us[j]? = some u → cs[j]? = some c → Ints (fun b => ((b < T ∧ b ≠ R) ∨ L + 1 ≤ b) ∧ v.ownBlock ≠ some b) w u c
theorem RowsC.below {w w' : World} {T R L : Nat} {v : Value} {cs : List (List Int)} (h : RowsC w T R L v cs) (hb : Below w.heap.size w w') : RowsC w' T R L v cs := by
  obtain ⟨us, h1, h2, h3⟩ := h
  exact ⟨us, own_below h1 hb, h2, fun j u c hu hc => (h3 j u c hu hc).below hb⟩
theorem RowsC.at {w : World} {T R L k m cap : Nat} {a : Option Addr} {cs : List (List Int)} (h : RowsC w T R L (.slice a m cap) cs) (hm : m = cs.length) (hk : k < m) :
    ∃ g rv c, a = some ⟨g, 0, none⟩ ∧ cs[k]? = some c ∧ w.cell? ⟨g, k, none⟩ = some rv ∧ w.frozen? ⟨g, k, none⟩ = false ∧ L + 1 ≤ g ∧ g < w.heap.size ∧ Ints (fun b => ((b < T ∧ b ≠ R) ∨ L + 1 ≤ b) ∧ g ≠ b) w rv c := by
  subst hm
  obtain ⟨us, h1, h2, h3⟩ := h
  obtain ⟨g, rfl⟩ : ∃ g, a = some ⟨g, 0, none⟩ := by
    rcases h1.2 with ⟨_, h0⟩ | ⟨g, cp, cur, e, _⟩
    · omega
    · injection e with e1 e2 e3
      exact ⟨g, e1⟩
  obtain ⟨x, hx, e1, e2, e3, e4, _⟩ := own_at (fun v : Value => v) (ms := us) (v := k) (by rw [List.map_id']; exact h1) hk
  refine ⟨g, x, _, rfl, List.getElem?_eq_getElem hk, e1, e2, e3, e4, (h3 k x _ hx (List.getElem?_eq_getElem hk)).mono fun b hb => ⟨hb.1, fun e => hb.2 (by rw [e]; rfl)⟩⟩
theorem RowsC.set {w : World} {T R L k m cap g : Nat} {rv : Value} {c : List Int} {cs : List (List Int)} (h : RowsC w T R L (.slice (some ⟨g, 0, none⟩) m cap) cs) (hm : m = cs.length) (hk : cs[k]? = some c) (hr : Ints (fun b => ((b < T ∧ b ≠ R) ∨ L + 1 ≤ b) ∧ g ≠ b) w rv c) :
    RowsC (w.setCell ⟨g, k, none⟩ rv) T R L (.slice (some ⟨g, 0, none⟩) m cap) cs := by
  subst hm
  obtain ⟨us, h1, h2, h3⟩ := h
  have hkl : k < cs.length := (List.getElem?_eq_some_iff.1 hk).1
  obtain ⟨x, hx, _, _, _, _, e5⟩ := own_at (fun v : Value => v) (ms := us) (v := k) (by rw [List.map_id']; exact h1) hkl
  have e6 := e5 rv
  rw [List.map_id'] at e6
  have mv : ∀ u d, Ints (fun b => ((b < T ∧ b ≠ R) ∨ L + 1 ≤ b) ∧ (Value.slice (some ⟨g, 0, none⟩) cs.length cap).ownBlock ≠ some b) w u d → Ints (fun b => ((b < T ∧ b ≠ R) ∨ L + 1 ≤ b) ∧ (Value.slice (some ⟨g, 0, none⟩) cs.length cap).ownBlock ≠ some b) (w.setCell ⟨g, k, none⟩ rv) u d := fun u d hu =>
    hu.move fun b hb _ => Below.heap_setCell _ _ _ _ (fun e => hb.2 (by rw [e]; rfl))
  refine ⟨us.set k rv, e6, by rw [List.length_set]; exact h2, fun j u d hu hd => ?_⟩
  rw [List.getElem?_set] at hu
  by_cases e : k = j
  · subst e
    rw [if_pos rfl, if_pos (by omega)] at hu
    injection hu with hu
    subst hu
    rw [hk] at hd
    injection hd with hd
    subst hd
    exact mv _ _ (hr.mono fun b hb => ⟨hb.1, fun e => hb.2 (by simp [Value.ownBlock] at e; exact e)⟩)
  · rw [if_neg e] at hu
    exact mv _ _ (h3 j u d hu hd)
theorem RowsC.clss {w : World} {T R L : Nat} {v : Value} {cs : List (List Int)} (h : RowsC w T R L v cs) (hn : cs.length ≤ 9223372036854775807) : Clss (fun b => (b < T ∧ b ≠ R) ∨ L + 1 ≤ b) w v cs := by
  obtain ⟨us, h1, h2, h3⟩ := h
  exact ⟨us, (ownsRow_sl1 h1 hn).mono fun b hb => .inr hb.1, h2, fun j u c hu hc => (h3 j u c hu hc).mono fun b hb => hb.1⟩
theorem RowsC.setL {w : World} {T R L : Nat} {v u : Value} {cs : List (List Int)} (h : RowsC w T R L v cs) (hT : T ≤ L) (o : Nat) : RowsC (w.setCell ⟨L, o, none⟩ u) T R L v cs := by
  obtain ⟨us, h1, h2, h3⟩ := h
  refine ⟨us, own_same h1 fun b e => Below.heap_setCell _ _ _ _ (by have := (h1.lt b e).1; show b ≠ L; omega), h2, fun j u c hu hc => (h3 j u c hu hc).move fun b hb _ => Below.heap_setCell _ _ _ _ (by have := hb.1; show b ≠ L; omega)⟩
theorem RowsO.rowsC {w : World} {T R L n : Nat} {v : Value} {cs : List (List Int)} (h : RowsO (fun b => b < T ∧ b ≠ R) w (L + 1) v n cs) (hn : n = cs.length) (hT : T ≤ L) : RowsC w T R L v cs := by
  subst hn
  obtain ⟨us, h1, h2, h3⟩ := h
  refine ⟨us, h1, h2, fun j u c hu hc => (h3 j u c hu hc).mono fun b hb => ⟨.inl hb, fun e => ?_⟩⟩
  have := (h1.lt b e).1
  have hb' : b < T := hb.1
  omega
set_option maxRecDepth 100000 in
set_option maxHeartbeats 32000000 in
theorem trace_any (F : Nat → Prop) (vars keep : Int) (cv : Value) (cs : List (List Int)) (w : World) (hc : Clss F w cv cs) (hiv : I64 vars) (hik : I64 keep) (hs : SzL cs) (h9 : checkM vars keep cs = 0 → vars ≤ 9) (htab : TabB w.heap.size w) :
    Calls Tryz.prog 28 #[.agg #[.int .i64 vars, .int .i64 keep, cv]] w (TrPost w vars keep cs) := by
  obtain ⟨ca, cn, cc, rfl, HCN, _⟩ := hc.form'
  obtain ⟨bb, hbb⟩ : ∃ b, w.heap.size = b := ⟨_, rfl⟩
  obtain ⟨W1, hW1⟩ : ∃ W, (w.alloc (.cells #[.int .i64 vars, .int .i64 keep, .slice ca cn cc] 24)).alloc (.cells #[.slice none 0 0] 47) = W := ⟨_, rfl⟩
  have hb1 : Below w.heap.size w W1 := by rw [← hW1]; exact ((Below.refl _ _).alloc (Nat.le_refl _) _).alloc (by simp) _
  have hr0 : W1.heap[bb]? = some (.cells #[.int .i64 vars, .int .i64 keep, .slice ca cn cc] 24) := by rw [← hW1]; exact old_at _ _ _ (new_at' _ _ hbb.symm)
  have hr1 : W1.heap[bb + 1]? = some (.cells #[.slice none 0 0] 47) := by rw [← hW1]; exact new_at' _ _ (by simp; omega)
  have c0 : W1.cell? ⟨bb, 0, none⟩ = some (.int .i64 vars) := by rw [cell_of_row _ _ _ _ _ _ hr0]; rfl
  have c1 : W1.cell? ⟨bb, 1, none⟩ = some (.int .i64 keep) := by rw [cell_of_row _ _ _ _ _ _ hr0]; rfl
  have c2 : W1.cell? ⟨bb, 2, none⟩ = some (.slice ca cn cc) := by rw [cell_of_row _ _ _ _ _ _ hr0]; rfl
  have r0 : W1.cell? ⟨bb + 1, 0, none⟩ = some (.slice none 0 0) := by rw [cell_of_row _ _ _ _ _ _ hr1]; rfl
  have rf : ∀ o, W1.frozen? ⟨bb + 1, o, none⟩ = false := fun o => by simp only [World.frozen?, hr1]; simp
  have hl0 := block_lt c0
  have hl1 := block_lt r0
  obtain ⟨A, hA⟩ : ∃ A, askedM vars keep cs [] = A := ⟨_, rfl⟩
  have hck := checked_any F (fun _ => True) vars keep (.slice ca cn cc) (.slice none 0 0) cs [] W1 (hc.below hb1) (Ints.nil _ _) hiv hik
  rw [hA] at hck
  have HCK := Lib.hid hck
  have HA := Lib.hid hA
  have HC : Hid (Clss (fun b => b < bb) W1 (.slice ca cn cc) cs) := Lib.hid (by rw [← hbb]; exact (clss_lt hc).below hb1)
  have HB1 := Lib.hid hb1
  have HS := Lib.hid hs
  have H9 := Lib.hid h9
  have HT1 : Hid (TabB W1.heap.size W1) := Lib.hid ((htab.below hb1 (Nat.le_refl _)).up hb1.size)
  have HRF := Lib.hid rf
  have HW1 := Lib.hid hW1
  have HBB := Lib.hid hbb
  clear hck hA hc hb1 hs h9 htab rf hr0 hr1 hiv hik
  go_enter Tryz.func28, Tryz.ntmps28
  go_wp2_with fail
  try rw [hW1]
  try rw [hbb]
  clear hW1 hbb
  refine HCK.out.mono ?_
  rintro e w2 ⟨rfl, hb⟩
  have HB2 : Hid (Below w.heap.size w w2) := Lib.hid (HB1.out.trans (hb.mono HB1.out.size))
  have HC2 := Lib.hid (HC.out.below hb)
  have HT2 : Hid (TabB w2.heap.size w2) := Lib.hid ((HT1.out.below hb (Nat.le_refl _)).up hb.size)
  have d0 := below_c hb hl0 c0
  have d1 := below_c hb hl0 c1
  have d2 := below_c hb hl0 c2
  have s0 := below_c hb hl1 r0
  have HF2 : Hid (∀ o, w2.frozen? ⟨bb + 1, o, none⟩ = false) := Lib.hid fun o => (World.frozen?_of_block (a := ⟨bb + 1, o, none⟩) (hb.block (bb + 1) hl1)).trans (HRF.out o)
  have hm0 := block_lt d0
  have hm1 := block_lt s0
  clear hb HCK HB1 HC HT1 c0 c1 c2 r0 hl0 hl1 HRF HW1
  by_cases hA0 : A = 0
  rotate_left
  · have hd : (A != 0) = true := by simp; exact hA0
    have sf := HF2.out 0
    have HA0 := Lib.hid hA0
    clear hA0
    go_wp2_with fail
    refine bodyPost_ret (v := .tuple #[.agg #[.slice none 0 0], .int .i64 A]) (by simp [results, Tryz.results28, go_sem, set_eq s0]) rfl ?_
    exact ⟨_, A, [], rfl, HA.out.symm, fun _ => rfl, fun h => absurd h HA0.out, Claims.nil _ _, HB2.out.setCell (by rw [HBB.out]; exact Nat.le_succ _) _⟩
  subst hA0
  obtain ⟨hcc, _, hk40⟩ := asked_ok HA.out
  have hdm := check_dims hcc
  have hv9 := H9.out hcc
  have hocl : (occM cs).length ≤ 9 := occ_len fun v hv => by
    have := occ_of_check hcc v hv
    omega
  have hcap : capT (occM cs).length ≤ 1023 := Nat.le_trans (capT_le hocl) (by decide)
  have HNP := Lib.hid (newprover_any vars keep 12 65536 (.slice ca cn cc) w2 (by omega) ⟨hdm.1, hk40⟩ ca cn cc rfl)
  have HCAP := Lib.hid hcap
  have HCN' : Hid (Cn' cs) := Lib.hid (cn_of_check hcc)
  have hd0 : ((0 : Int) != 0) = false := by decide
  clear hcc hk40 hdm hv9 hocl hcap
  go_wp2_with fail
  refine HNP.out.mono ?_
  rintro e w3 ⟨pb, mb, rfl, hP, hb⟩
  have hP := hP.nilEx (Ex' := fun b => b = bb + 1) (fun b e => by have := hb.size; omega)
  have HLOW := Lib.hid hP.low
  have hcl3 : Clss (AX (fun b => b = bb + 1) pb mb (.slice none 0 0)) w3 (.slice ca cn cc) cs := Rows1.mono (fun _ _ _ _ _ h hg => h.mono hg) (HC2.out.below hb) fun b hb => ⟨⟨by have := hP.low; have hb' : b < bb := hb; omega, by have := hP.low; have hb' : b < bb := hb; omega, fun e => by cases e⟩, fun e => by have hb' : b < bb := hb; have e' : b = bb + 1 := e; omega⟩
  have ht3 : TabB w2.heap.size w3 := HT2.out.below hb (Nat.le_refl _)
  have HPR := Lib.hid (prove_all _ cs (Nat.le_refl _) HCN'.out HS.out (fun b => b = bb + 1) w2.heap.size pb mb keep (.slice none 0 0) (.slice ca cn cc) [] 0 w3 ⟨hP, ht3, hcl3, by have := HCAP.out; simp; omega, by simp⟩)
  have HB3 := Lib.hid hb
  have e0 := below_c hb hm0 d0
  have e1 := below_c hb hm0 d1
  have e2 := below_c hb hm0 d2
  clear hP hcl3 ht3 hb HNP d0 d1 d2
  go_wp2_with fail
  refine HPR.out.mono ?_
  rintro e w4 ⟨cv4, us, n4, i, rfl, hP4, hG4, hi4, hic, hul, hn4, hlast⟩
  rw [List.nil_append] at hP4 hi4 hic hlast
  have hlast := hlast rfl
  have hb4 : Below w2.heap.size w2 w4 := HB3.out.trans (hG4.below HLOW.out.1 HLOW.out.2.1 (fun b hb => by cases hb) HB3.out.size)
  have HB4 := Lib.hid hb4
  have p2 := hP4.c2
  have p4 := hP4.c4
  have hul2 : us.length ≤ 1023 := Nat.le_trans hul HCAP.out
  have HCL4 := Lib.hid (hP4.claims (by omega) (fun b e => by have e' : b = bb + 1 := e; omega))
  obtain ⟨va, vn, vc, rfl, HVN, _⟩ := HCL4.out.form
  have HTS : Hid (AccS keep us ∧ us ≠ [] ∧ (us.getD (us.length - 1) clNil).cls = cs ∧ us.length ≤ 1023 ∧ ∀ k ∈ us, SzC k) := Lib.hid ⟨hP4.acc, (fun e => by rw [e] at hi4; simp at hi4), by rw [show us.length - 1 = i by omega]; exact hic, hul2, hP4.sz⟩
  have s4 := below_c hb4 hm1 s0
  have HF4 : Hid (∀ o, w4.frozen? ⟨bb + 1, o, none⟩ = false) := Lib.hid fun o => (World.frozen?_of_block (a := ⟨bb + 1, o, none⟩) (hb4.block (bb + 1) hm1)).trans (HF2.out o)
  have hvn : vn ≤ 1023 := by rw [HVN.out]; exact hul2
  have HBW4 : Hid (Below w.heap.size w w4) := Lib.hid (HB2.out.trans (hb4.mono HB2.out.size))
  have hm4 := block_lt s4
  have hp4 := block_lt p2
  have HLW4 : Hid (w2.heap.size ≤ pb) := Lib.hid hP4.low.1
  clear hP4 hG4 hi4 hic hul hn4 hlast hb4 HPR HB3 HLOW HCAP HCN' HF2 HB4 HB2 HC2 HT2 HS H9 s0 hm0 hm1 e0 e1 e2 hul2
  obtain ⟨T, hT⟩ : ∃ t, w4.heap.size = t := ⟨_, rfl⟩
  obtain ⟨W5, hW5⟩ : ∃ W, w4.alloc (.cells #[.slice none 0 0] 47) = W := ⟨_, rfl⟩
  have hr5 : W5.heap[T]? = some (.cells #[.slice none 0 0] 47) := by rw [← hW5]; exact new_at' _ _ hT.symm
  have HO5 : Hid (TrO W5 T (bb + 1) (.slice none 0 0) []) := Lib.hid ⟨by rw [cell_of_row _ _ _ _ _ _ hr5]; rfl, fun o => by simp only [World.frozen?, hr5]; simp, [], World.ownsRow_nil _ _ _ _, rfl, by simp⟩
  have HB5 : Hid (Below T w4 W5) := Lib.hid (by rw [← hW5, ← hT]; exact (Below.refl _ _).alloc (Nat.le_refl _) _)
  have HCLT : Hid (Claims (fun b => b < T ∧ ¬ b = bb + 1) w4 (.slice va vn vc) us) := Lib.hid (by rw [← hT]; exact HCL4.out)
  have q2 : W5.cell? ⟨pb, 2, none⟩ = some (.slice va vn vc) := by rw [← hW5]; exact below_c ((Below.refl _ _).alloc (Nat.le_refl _) _) hp4 p2
  have HTE := Lib.hid hT
  have HW5 := Lib.hid hW5
  have HIN := Lib.hid (show (Tryz.prog.info? 52).map (fun i => (i.zero, i.size, i.bytes)) = some (some (.agg #[.slice none 0 0, .int .i64 0, .int .i64 0, .slice none 0 0, .int .i64 0]), 5, 72) by kernel_rfl)
  clear hr5 HCL4 hT hW5
  go_upto_region 9 with fail
  rw [HW5.out, HTE.out]
  clear HW5 p2
  go_wp2_with fail
  go_loopg [34] vn (fun gg u34 wx => ∃ (j : Nat) (oa : Option Addr) (on oc : Nat) (ts : List Claim), j + gg = vn ∧ u34 = .int .i64 j ∧ Hid (ts = us.take j) ∧ Hid (on = ts.length) ∧ Hid (Below T w4 wx) ∧ Hid (TrO wx T (bb + 1) (.slice oa on oc) ts))
  case atStart => exact ⟨0, none, 0, 0, [], by omega, rfl, Lib.hid rfl, Lib.hid rfl, HB5, HO5⟩
  case round =>
  clear HO5 HB5 q2
  obtain ⟨j, oa, on, oc, ts, hjg, rfl, HTJ, HON, HB, HO⟩ := hrel
  by_cases hj : j < vn
  case neg =>
    obtain rfl : vn = j := by omega
    have hdj : decide ((vn : Int) < vn) = false := by simp
    have hdj' : decide (vn < vn) = false := decide_eq_false (by omega)
    have hts : ts = us := by rw [HTJ.out, HVN.out, List.take_length]
    have t0 := HO.out.1
    have hm5 : bb + 1 < T := by rw [← HTE.out]; exact hm4
    have s5 := below_c HB.out hm5 s4
    have hcls : ∀ u, Claims (fun _ => True) (wr.setCell ⟨bb + 1, 0, none⟩ u) (.slice oa on oc) us := fun u => by
      rw [← hts]
      exact (HO.out.setR hm5).claims (by rw [hts, ← HVN.out]; omega)
    have HCLS := Lib.hid hcls
    have sf : wr.frozen? ⟨bb + 1, 0, none⟩ = false := (World.frozen?_of_block (a := ⟨bb + 1, 0, none⟩) (HB.out.block (bb + 1) hm5)).trans (HF4.out 0)
    clear hts hcls
    go_wp2_with fail
    refine bodyPost_ret (v := .tuple #[.agg #[.slice oa on oc], .int .i64 0]) (by simp [results, Tryz.results28, go_sem, set_eq s5]) rfl ?_
    refine ⟨_, 0, us, rfl, HA.out.symm, fun h => absurd rfl h, fun _ => HTS.out, HCLS.out _, (HBW4.out.trans (HB.out.mono (by rw [← HTE.out]; exact HBW4.out.size))).setCell (by rw [HBB.out]; exact Nat.le_succ _) _⟩
  have hdj : decide ((j : Int) < vn) = true := by simp; omega
  have hdj' : decide (j < vn) = true := decide_eq_true hj
  have hj0 : (0 : Int) ≤ j := by omega
  have hjn : (j : Int) < vn := by omega
  obtain ⟨c, hc⟩ : ∃ c, us[j]? = some c := ⟨_, List.getElem?_eq_getElem (by rw [← HVN.out]; exact hj)⟩
  have hclr : Claims (fun b => b < T ∧ ¬ b = bb + 1) wr (.slice va vn vc) us := HCLT.out.move fun b hb _ => HB.out.block b hb.1
  obtain ⟨zb, zo, cvj, kvj, rfl, hzT, hzl, z0, z1, z2, z3, z4, ⟨hcj, _, _, hkj, _⟩, hI1, hI2, hI3⟩ := hclr.at hc
  have hszc := HTS.out.2.2.2.2 c (List.mem_of_getElem? hc)
  have HSZC := Lib.hid hszc
  obtain ⟨sa, m, sc, rfl, HM, _⟩ := hcj.form'
  obtain ⟨ka, kn, kc, rfl, _, _⟩ := hkj.form'
  have HKR := Lib.hid hkj
  have HCJ := Lib.hid hcj
  have HKJ := Lib.hid hkj
  have HIC := Lib.hid (And.intro hI1 (And.intro hI2 hI3))
  have HTX : Hid (ts ++ [c] = us.take (j + 1)) := Lib.hid (by rw [List.take_add_one, hc, HTJ.out]; rfl)
  obtain ⟨L, hL⟩ : ∃ t, wr.heap.size = t := ⟨_, rfl⟩
  obtain ⟨W6, hW6⟩ : ∃ W, wr.alloc (.cells #[.slice sa m sc, .int .i64 c.rule, .int .i64 c.lit, .slice ka kn kc, .int .i64 c.count] 52) = W := ⟨_, rfl⟩
  have hb6 : Below wr.heap.size wr W6 := by rw [← hW6]; exact (Below.refl _ _).alloc (Nat.le_refl _) _
  have hr6 : W6.heap[L]? = some (.cells #[.slice sa m sc, .int .i64 c.rule, .int .i64 c.lit, .slice ka kn kc, .int .i64 c.count] 52) := by rw [← hW6]; exact new_at' _ _ hL.symm
  have l0 : W6.cell? ⟨L, 0, none⟩ = some (.slice sa m sc) := by rw [cell_of_row _ _ _ _ _ _ hr6]; rfl
  have l1 : W6.cell? ⟨L, 1, none⟩ = some (.int .i64 c.rule) := by rw [cell_of_row _ _ _ _ _ _ hr6]; rfl
  have l2 : W6.cell? ⟨L, 2, none⟩ = some (.int .i64 c.lit) := by rw [cell_of_row _ _ _ _ _ _ hr6]; rfl
  have l3 : W6.cell? ⟨L, 3, none⟩ = some (.slice ka kn kc) := by rw [cell_of_row _ _ _ _ _ _ hr6]; rfl
  have l4 : W6.cell? ⟨L, 4, none⟩ = some (.int .i64 c.count) := by rw [cell_of_row _ _ _ _ _ _ hr6]; rfl
  have HLF : Hid (∀ o, W6.frozen? ⟨L, o, none⟩ = false) := Lib.hid fun o => by simp only [World.frozen?, hr6]; simp
  have HS6 : Hid (W6.heap.size = L + 1) := Lib.hid (by rw [← hW6]; simp; omega)
  have hTL : T ≤ L := by rw [← hL]; have := block_lt HO.out.1; omega
  have HCLO := Lib.hid (clones_any (fun b => b < T ∧ b ≠ bb + 1) _ c.cls W6 (hcj.below hb6) (by have := hszc.1; omega))
  have HB6 : Hid (Below T w4 W6) := Lib.hid (HB.out.trans (hb6.mono (by omega)))
  have HO6 := Lib.hid (HO.out.below hb6)
  have HK6 := Lib.hid (hkj.below hb6)
  have HL := Lib.hid hL
  have HW6 := Lib.hid hW6
  have hLs := block_lt l0
  clear hclr hc hcj hkj hI1 hI2 hI3 hszc hr6 HCJ HKJ HTJ hL hW6
  have HBR : Hid (Below L wr W6) := Lib.hid (by rw [← HL.out]; exact hb6)
  clear hb6
  obtain ⟨GJ, hGJ⟩ : ∃ G, G = gk := ⟨_, rfl⟩
  subst hGJ
  go_upto_region 12 with fail
  rw [HW6.out, HL.out]
  clear HW6 z0 z1 z2 z3 z4
  go_wp2_with fail
  refine HCLO.out.mono ?_
  rintro e w7 ⟨v, rfl, hro, hb7⟩
  obtain ⟨ua, uc, rfl⟩ := hro.form
  rw [HS6.out] at hro hb7
  have hrc7 := hro.rowsC rfl hTL
  rw [← HM.out] at hrc7
  rw [← HM.out]
  have hLl : L < L + 1 := Nat.lt_succ_self L
  have f0 := below_c hb7 hLl l0
  have f1 := below_c hb7 hLl l1
  have f2 := below_c hb7 hLl l2
  have f3 := below_c hb7 hLl l3
  have f4 := below_c hb7 hLl l4
  have ff : ∀ o, w7.frozen? ⟨L, o, none⟩ = false := fun o => (World.frozen?_of_block (a := ⟨L, o, none⟩) (hb7.block L hLl)).trans (HLF.out o)
  have ff0 := ff 0
  obtain ⟨Wi, hWi⟩ : ∃ W, w7.setCell ⟨L, 0, none⟩ (.slice ua m uc) = W := ⟨_, rfl⟩
  have g0 : Wi.cell? ⟨L, 0, none⟩ = some (.slice ua m uc) := by rw [← hWi]; exact set_eq f0
  have g1 : Wi.cell? ⟨L, 1, none⟩ = some (.int .i64 c.rule) := by rw [← hWi]; exact set_ne (by omega) f1
  have g2 : Wi.cell? ⟨L, 2, none⟩ = some (.int .i64 c.lit) := by rw [← hWi]; exact set_ne (by omega) f2
  have g3 : Wi.cell? ⟨L, 3, none⟩ = some (.slice ka kn kc) := by rw [← hWi]; exact set_ne (by omega) f3
  have g4 : Wi.cell? ⟨L, 4, none⟩ = some (.int .i64 c.count) := by rw [← hWi]; exact set_ne (by omega) f4
  have HRC : Hid (RowsC Wi T (bb + 1) L (.slice ua m uc) c.cls) := Lib.hid (by rw [← hWi]; exact hrc7.setL hTL 0)
  have HBI : Hid (Below L wr Wi) := Lib.hid (by rw [← hWi]; exact (HBR.out.trans (hb7.mono (Nat.le_succ L))).setCell (Nat.le_refl _) _)
  have HII : Hid (Below (L + 1) Wi Wi) := Lib.hid (Below.refl _ _)
  have HLI : Hid (∀ o, Wi.frozen? ⟨L, o, none⟩ = false) := Lib.hid fun o => by rw [← hWi, World.frozen?_setCell]; exact ff o
  have HWI := Lib.hid hWi
  have hLi : L < Wi.heap.size := block_lt g0
  clear hro hb7 hrc7 HCLO l0 l1 l2 l3 l4 f1 f2 f3 f4 ff HLF HBR HB6 HO6 HK6 hLs hWi
  go_upto_region 13 with fail
  rw [HWI.out]
  clear f0 ff0 HWI
  go_wp2_with fail
  go_loopg [45] m (fun gg u45 wx => ∃ k : Nat, k + gg = m ∧ u45 = .int .i64 k ∧ Hid (Below (L + 1) Wi wx) ∧ Hid (RowsC wx T (bb + 1) L (.slice ua m uc) c.cls))
  case atStart => exact ⟨0, by omega, rfl, HII, HRC⟩
  case round =>
  clear HRC HII
  obtain ⟨k, hkg, rfl, HIX, HRC⟩ := hrel
  have x0 := below_c HIX.out (Nat.lt_succ_self L) g0
  by_cases hk : k < m
  · have hdk : decide ((k : Int) < m) = true := by simp; omega
    have hdk' : decide (k < m) = true := decide_eq_true hk
    have hk0 : (0 : Int) ≤ k := by omega
    have hkm : (k : Int) < m := by omega
    obtain ⟨g, rv, x, rfl, hx, hcell, hfz, hLg, hgs, hri⟩ := HRC.out.at HM.out hk
    obtain ⟨xa, xn, xc, rfl, _, _⟩ := hri.form'
    have hxl := HSZC.out.2.1 x (List.mem_of_getElem? hx)
    have HRI := Lib.hid hri
    have HX := Lib.hid hx
    have HCR : Hid (∀ W, Below wr.heap.size wr W → Calls Tryz.prog 45 #[.slice xa xn xc] W (OwnPost W x)) := Lib.hid fun W hW => clone_own _ _ x W (HRI.out.below hW) (by omega)
    have HDR : Hid (Below wr.heap.size wr wr.drew) := Lib.hid (Below.refl _ _).drew
    have hLw := block_lt x0
    clear hri hx
    go_upto_region 16 with fail
    go_region_held3 (fun w' => w'.cell? ⟨L, 0, none⟩ = some (.slice (some ⟨g, 0, none⟩) m uc))
      (first | exact x0 | exact y0 | exact set_ne (by omega) y0 | go_keep)
      (first
        | (go_at_call 45; (with_reducible refine (HCR.out _ HDR.out).mono ?_); rintro e w8 ⟨nv, rfl, hnv, hb8⟩; obtain ⟨na, nc, rfl⟩ := own_form hnv; have HB8 : Hid (Below wr.heap.size wr w8) := Lib.hid (HDR.out.trans (hb8.mono HDR.out.size)); have y0 := below_c HB8.out hLw x0; have y1 := below_c HB8.out hgs hcell; have zf : w8.frozen? ⟨g, k, none⟩ = false := (World.frozen?_of_block (a := ⟨g, k, none⟩) (HB8.out.block g hgs)).trans hfz; have HNV : Hid (w8.ownsRow wr.heap.size 3 1 (.slice na x.length nc) x.length (x.map (.int .i64))) := Lib.hid hnv; clear hb8 hnv)
        | fail)
    have hrn : Ints (fun b => ((b < T ∧ b ≠ bb + 1) ∨ L + 1 ≤ b) ∧ g ≠ b) w8 (.slice na x.length nc) x := ⟨(ownsRow_sl1 HNV.out (by omega)).mono fun b hb => ⟨.inr (by have := hb.1; omega), by have := hb.1; omega⟩, HRI.out.2⟩
    have HRN : Hid (RowsC (w8.setCell ⟨g, k, none⟩ (.slice na x.length nc)) T (bb + 1) L (.slice (some ⟨g, 0, none⟩) m uc) c.cls) := Lib.hid ((HRC.out.below HB8.out).set HM.out HX.out hrn)
    have HIN8 : Hid (Below (L + 1) Wi (w8.setCell ⟨g, k, none⟩ (.slice na x.length nc))) := Lib.hid ((HIX.out.trans (HB8.out.mono (by omega))).setCell hLg _)
    clear hrn HRC HIX HNV HCR
    go_wp2_with fail
    go_roundg (gk - 1)
    case measure => omega
    case rel => exact ⟨k + 1, by omega, by go_num, HIN8, HRN⟩
  obtain rfl : m = k := by omega
  have hdk : decide ((m : Int) < m) = false := by simp
  have hdk' : decide (m < m) = false := decide_eq_false (by omega)
  have HBX : Hid (Below L _ wr) := Lib.hid (HBI.out.trans (HIX.out.mono (Nat.le_succ L)))
  have ho := HO.out.below (by rw [HL.out]; exact HBX.out)
  have HOX := Lib.hid ho
  obtain ⟨t0, tf, us5, ho1, ho2, ho3⟩ := ho
  have tf0 := tf 0
  have x1 := below_c HIX.out (Nat.lt_succ_self L) g1
  have x2 := below_c HIX.out (Nat.lt_succ_self L) g2
  have x3 := below_c HIX.out (Nat.lt_succ_self L) g3
  have x4 := below_c HIX.out (Nat.lt_succ_self L) g4
  rw [← HON.out] at ho1
  have hown := ho1
  have hTs := block_lt t0
  have hon : on ≤ 1023 := by rw [HON.out]; have := congrArg List.length HTX.out; rw [List.length_append, List.length_take] at this; simp at this; omega
  have hown_lt : ∀ b, (Value.slice oa on oc).ownBlock = some b → T + 1 ≤ b ∧ b < L := fun b e => by
    obtain ⟨_, _, us', ho', _⟩ := HO.out
    have := ho'.lt b e
    rw [HL.out] at this
    exact this
  have HOL := Lib.hid hown_lt
  have HRV : Hid (ClaimV (fun b => (b ≠ T ∧ b ≠ bb + 1) ∧ (Value.slice oa on oc).ownBlock ≠ some b) wr (.slice ua m uc, .int .i64 c.rule, .int .i64 c.lit, .slice ka kn kc, .int .i64 c.count) c) := Lib.hid (by
    have hbT : bb + 1 < T := by rw [← HTE.out]; exact hm4
    have h1 : Clss (fun b => (b < T ∧ b ≠ bb + 1) ∨ L + 1 ≤ b) wr (.slice ua m uc) c.cls := HRC.out.clss (by have := HSZC.out.1; omega)
    have h2 : Ints (fun b => b < T ∧ ¬ b = bb + 1) wr (.slice ka kn kc) c.kids := HKR.out.move fun b hb hlt => HBX.out.block b (by have := hb.1; omega)
    exact ⟨⟨Rows1.mono (fun _ _ _ _ _ h hg => h.mono hg) h1 fun b hb => ⟨⟨by rcases hb with hb | hb <;> omega, by rcases hb with hb | hb <;> omega⟩, fun e => by have := hown_lt b e; rcases hb with hb | hb <;> omega⟩, rfl, rfl, h2.mono fun b hb => ⟨⟨by have := hb.1; omega, hb.2⟩, fun e => by have := hown_lt b e; have := hb.1; omega⟩, rfl⟩, HIC.out⟩)
  have HO2 := Lib.hid ho2
  have HO3 := Lib.hid ho3
  have HTF := Lib.hid tf
  have hne : some T ≠ (Value.slice oa on oc).ownBlock := fun e => by have := hown_lt T e.symm; omega
  have HNE := Lib.hid hne
  clear ho1 ho2 ho3 tf hne hown_lt HRC HIX hdj hdj' g0 g1 g2 g3 g4
  have HBT : Hid (Below T w4 wr) := Lib.hid (HB.out.trans (HBX.out.mono hTL))
  go_upto_region 18 with fail
  go_wp2_with (at_builtin; go_loud (refine wpList_push5t rfl _ _ 45 rfl 52 (.agg #[.slice none 0 0, .int .i64 0, .int .i64 0, .slice none 0 0, .int .i64 0]) 72 Tryz.underlying45 HIN.out rfl (T + 1) (.slice oa on oc) on (cells5 us5) wr (.slice ua m uc) (.int .i64 c.rule) (.int .i64 c.lit) (.slice ka kn kc) (.int .i64 c.count) rfl rfl hown rfl rfl rfl rfl rfl (by omega) (by omega) hTs ?_); intro g7 cap7 w7 hown7 hg7 hs7 hgb hgl hat; have ef : w7.frozen? ⟨T, 0, none⟩ = false := (World.frozen?_of_block (a := ⟨T, 0, none⟩) (hg7.block T hTs HNE.out)).trans tf0; have e2 := grown_c2 hg7 HNE.out t0; have HB7 : Hid (Below T w4 w7) := Lib.hid (HBT.out.grown hg7 (by have := HTE.out; have := HBT.out.size; omega) (fun k hk => by have := (HOL.out k hk).1; omega)); have HO7 : Hid (TrO (w7.setCell ⟨T, 0, none⟩ (.slice (some ⟨g7, 0, none⟩) (on + 1) cap7)) T (bb + 1) (.slice (some ⟨g7, 0, none⟩) (on + 1) cap7) (ts ++ [c])) := Lib.hid (HOX.out.push HON.out hown HO2.out HO3.out HRV.out hown7 hg7 hat); clear hown7 hg7 hat hown hgb hgl hs7)
  have HB8 : Hid (Below T w4 (w7.setCell ⟨T, 0, none⟩ (.slice (some ⟨g7, 0, none⟩) (on + 1) cap7))) := Lib.hid (HB7.out.setCell (Nat.le_refl _) _)
  go_roundg (GJ - 1)
  case measure => omega
  case rel => exact ⟨j + 1, _, _, _, _, by omega, by go_num, HTX, Lib.hid (by rw [HON.out]; simp), HB8, HO7⟩
end Go.Proofs.YthanfjpmcckbhaaGreatDoor
