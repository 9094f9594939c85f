/- (Counter seat) Walk: the statement CounterSplits. No condition but that the table of powers lies as laid. -/
import Derived.Test.YthanfjpmcckbhaaGreatDoorZl
import Derived.Deep.CutRange
namespace Go.Proofs.YthanfjpmcckbhaaGreatDoor
open Go.ChangeShapes Go.WideShapes Go.ChangeAt Go.RowKit
set_option linter.unusedVariables false
set_option linter.unusedSimpArgs false

/-! ### plain -/
theorem check_tight {vars keep : Int} {cs : List (List Int)} {ls : List Int} (h : checkM vars keep cs = 0) (hm : ∀ x ∈ ls, x ≠ 0 ∧ x ≤ vars ∧ -vars ≤ x) (hl : cs.length ≤ 40) : checkM vars keep (canM (cs ++ [ls])) = 0 := by
  obtain ⟨V, rfl, hV, hk0, hkV, _, hlits, _⟩ := check_okS h
  have hlen : (canM (cs ++ [ls])).length ≤ 41 := Nat.le_trans (canM_ln _) (by simp; omega)
  have hout : ((canM (cs ++ [ls])).any fun c => c.any (outB (V : Int).toNat)) = false := by
    rw [List.any_eq_false]
    intro c hc
    rw [Bool.not_eq_true, List.any_eq_false]
    intro x hx
    obtain ⟨_, _, d, hd, rfl⟩ := canM_mem hc
    have hx' := claM_mem hx
    have hok : x ≠ 0 ∧ -(V : Int) ≤ x ∧ x ≤ V := by
      rcases List.mem_append.1 hd with h1 | h1
      · exact hlits d h1 x hx'
      · simp at h1
        subst h1
        have := hm x hx'
        exact ⟨this.1, this.2.2, this.2.1⟩
    unfold outB varM
    simp
    split <;> omega
  unfold checkM
  rw [if_neg (by omega), if_neg (by omega), hout, if_neg (by simp), (canGo_canM _).2 (canM_idem _), if_neg (by simp)]
theorem asked_of {vars keep : Int} {cs : List (List Int)} {ls : List Int} (h : checkM vars keep cs = 0) (hm : ∀ x ∈ ls, x ≠ 0 ∧ x ≤ vars ∧ -vars ≤ x) (hk : keep ≤ 40) : askedM vars keep cs ls = 0 := by
  unfold askedM
  rw [if_neg (by simpa using h), if_neg, if_neg (by omega)]
  rw [Bool.not_eq_true, List.any_eq_false]
  intro x hx
  have := hm x hx
  simp
  omega
theorem cw_tight (keep : Int) (cs : List (List Int)) (ls : List Int) : cwN keep (canM (cs ++ [ls])) [] ≤ cwN keep cs [] := by
  unfold cwN
  have h := cnt_mono (ivl 0 keep.toNat) (C := fun f => Ev (canM (cs ++ [ls])) f ∧ LitsT [] f) (D := fun f => Ev cs f ∧ LitsT [] f) fun f hf => ⟨by
    have h1 : evR f (canM (cs ++ [ls])) = true := hf.1
    rw [evR_can] at h1
    unfold evR at h1
    rw [List.all_append, Bool.and_eq_true] at h1
    exact h1.1, hf.2⟩
  exact Int.ofNat_le.2 h
theorem cw_two {keep x : Int} (cs : List (List Int)) (h : 1 ≤ x ∧ x ≤ keep) : cwN keep cs [x] + cwN keep cs [-x] = cwN keep cs [] := by
  unfold cwN
  have hx : x ∈ ivl 0 keep.toNat := (ivl_mem _ _ _).2 ⟨by omega, by omega⟩
  have h2 := cnt_two hx (ivl_nodup _ _) (fun f => Ev cs f ∧ LitsT [] f)
  have e1 : cntN (fun f => Ev cs f ∧ LitsT [x] f) (ivl 0 keep.toNat) = cntN (fun f => (Ev cs f ∧ LitsT [] f) ∧ f x = true) (ivl 0 keep.toNat) := cnt_iff fun f => by
    rw [lits_1]
    unfold litR LitsT
    rw [if_pos (by omega)]
    simp
  have e2 : cntN (fun f => Ev cs f ∧ LitsT [-x] f) (ivl 0 keep.toNat) = cntN (fun f => (Ev cs f ∧ LitsT [] f) ∧ f x = false) (ivl 0 keep.toNat) := cnt_iff fun f => by
    rw [lits_1]
    unfold litR LitsT
    rw [if_neg (by omega)]
    simp
  rw [e1, e2, h2]
  omega
set_option maxRecDepth 100000 in
set_option maxHeartbeats 16000000 in
theorem lawSplits_any (vars keep : Int) (cv : Value) (cs : List (List Int)) (v : Int) (lv : Value) (ls : List Int) (w : World) (hc : Clss (fun _ => True) w cv cs) (hiv : I64 vars) (hik : I64 keep) (hv : 0 ≤ v ∧ v ≤ 255) (hl : Ints (fun _ => True) w lv ls) (htab : TabB w.heap.size w) :
    Calls Tryz.prog 7 #[.agg #[.int .i64 vars, .int .i64 keep, cv], .int .u8 v, lv] w (BoolPost w true) := by
  obtain ⟨ca, cn, cc, rfl, HCN, _⟩ := hc.form'
  obtain ⟨la, ln, lc, rfl, HLN, _⟩ := hl.form'
  obtain ⟨bb, hbb⟩ : ∃ b, w.heap.size = b := ⟨_, rfl⟩
  obtain ⟨W1, hW1⟩ : ∃ W, w.alloc (.cells #[.int .i64 vars, .int .i64 keep, .slice ca cn cc] 24) = W := ⟨_, rfl⟩
  have hb1 : Below w.heap.size w W1 := by rw [← hW1]; exact (Below.refl _ _).alloc (Nat.le_refl _) _
  have hr0 : W1.heap[bb]? = some (.cells #[.int .i64 vars, .int .i64 keep, .slice ca cn cc] 24) := by rw [← hW1]; exact new_at' _ _ hbb.symm
  have c0 : W1.cell? ⟨bb, 0, none⟩ = some (.int .i64 vars) := by rw [cell_of_row _ _ _ _ _ _ hr0]; rfl
  have c1 : W1.cell? ⟨bb, 1, none⟩ = some (.int .i64 keep) := by rw [cell_of_row _ _ _ _ _ _ hr0]; rfl
  have c2 : W1.cell? ⟨bb, 2, none⟩ = some (.slice ca cn cc) := by rw [cell_of_row _ _ _ _ _ _ hr0]; rfl
  have hlt1 := block_lt c0
  have HC := Lib.hid (hc.below hb1)
  have HB1 := Lib.hid hb1
  have HIV := Lib.hid hiv
  have HIK := Lib.hid hik
  have HL1 := Lib.hid (hl.below hb1)
  have HV := Lib.hid hv
  have ht1 : TabB W1.heap.size W1 := (htab.below hb1 (Nat.le_refl _)).up hb1.size
  have HT1 := Lib.hid ht1
  have HKN := Lib.hid (known_any W1 ht1)
  clear hc hr0 hb1 hiv hik htab ht1 hl hv
  go_enter Tryz.func7, Tryz.ntmps7
  go_wp2_with fail
  try rw [hW1]
  try rw [hbb]
  clear hW1 hbb
  refine HKN.out.mono ?_
  rintro e w2 ⟨rfl, hb2⟩
  have HB2 : Hid (Below w.heap.size w w2) := Lib.hid (HB1.out.trans (hb2.mono HB1.out.size))
  have HC2 := Lib.hid (HC.out.below hb2)
  have HL2 := Lib.hid (HL1.out.below hb2)
  have HT2 : Hid (TabB w2.heap.size w2) := Lib.hid ((HT1.out.below hb2 (Nat.le_refl _)).up hb2.size)
  have y0 := below_c hb2 hlt1 c0
  have y1 := below_c hb2 hlt1 c1
  have y2 := below_c hb2 hlt1 c2
  have hlt2 := block_lt y0
  clear hb2 HKN HB1 HC HT1 c0 c1 c2 hlt1
  have hfw := lfew_any _ vars keep _ cs w2 HC2.out HIV.out HIK.out
  obtain ⟨B1, hB1⟩ : ∃ B, fewB vars keep cs = B := ⟨_, rfl⟩
  rw [hB1] at hfw
  have HFW := Lib.hid hfw
  have HBF := Lib.hid hB1
  clear hfw hB1
  go_wp2_with fail
  refine HFW.out.mono ?_
  rintro e w3 ⟨rfl, hb3⟩
  have HB3 : Hid (Below w.heap.size w w3) := Lib.hid (HB2.out.trans (hb3.mono HB2.out.size))
  have HC3 := Lib.hid (HC2.out.below hb3)
  have HL3 := Lib.hid (HL2.out.below hb3)
  have HT3 : Hid (TabB w3.heap.size w3) := Lib.hid ((HT2.out.below hb3 (Nat.le_refl _)).up hb3.size)
  have z0 := below_c hb3 hlt2 y0
  have z1 := below_c hb3 hlt2 y1
  have z2 := below_c hb3 hlt2 y2
  have hlt3 := block_lt z0
  clear hb3 HFW HB2 HC2 HT2 y0 y1 y2 hlt2
  rcases bool2 B1 with rfl | rfl
  rotate_left
  · go_wp2_with fail
    go_ret
    exact ⟨rfl, HB3.out⟩
  obtain ⟨hsz, h9f, hl40, hl14⟩ := fewB_ok HBF.out
  have HSZ := Lib.hid hsz
  have H9F := Lib.hid h9f
  have HLL := Lib.hid (And.intro hl40 hl14)
  clear hsz h9f hl40 hl14 HBF
  by_cases h14 : 9 < ln
  · have hd : decide ((9 : Int) < ln) = true := decide_eq_true (by omega)
    have hd' : decide (9 < ln) = true := decide_eq_true h14
    go_wp2_with fail
    go_ret
    exact ⟨rfl, HB3.out⟩
  have hd : decide ((9 : Int) < ln) = false := decide_eq_false (by omega)
  have hd' : decide (9 < ln) = false := decide_eq_false h14
  have hll : ls.length ≤ 9 := by rw [← HLN.out]; omega
  have HLE := Lib.hid hll
  have hak := lasked_any _ (fun _ => True) vars keep _ (.slice none 0 0) cs [] w3 HC3.out (Ints.nil _ _) HIV.out HIK.out HSZ.out
  obtain ⟨A, hA⟩ : ∃ A, askedM vars keep cs [] = A := ⟨_, rfl⟩
  rw [hA] at hak
  have HAK := Lib.hid hak
  have HA := Lib.hid hA
  clear hak hA hll h14
  go_wp2_with fail
  refine HAK.out.mono ?_
  rintro e w4 ⟨rfl, hb4⟩
  have HB4 : Hid (Below w.heap.size w w4) := Lib.hid (HB3.out.trans (hb4.mono HB3.out.size))
  have HC4 := Lib.hid (HC3.out.below hb4)
  have HL4 := Lib.hid (HL3.out.below hb4)
  have HT4 : Hid (TabB w4.heap.size w4) := Lib.hid ((HT3.out.below hb4 (Nat.le_refl _)).up hb4.size)
  have y0 := below_c hb4 hlt3 z0
  have y1 := below_c hb4 hlt3 z1
  have y2 := below_c hb4 hlt3 z2
  have hlt4 := block_lt y0
  clear hb4 HAK HB3 HC3 HL3 HT3 z0 z1 z2 hlt3
  by_cases hA0 : A = 0
  rotate_left
  · have hd : (A != 0) = true := by simp; exact hA0
    clear hA0
    go_wp2_with fail
    go_ret
    exact ⟨rfl, HB4.out⟩
  subst hA0
  have hd0 : ((0 : Int) != 0) = false := by decide
  by_cases h40 : cn = 40
  · have hd : ((cn : Int) == 40) = true := by simp; omega
    have hd' : (cn == 40) = true := by simp; omega
    go_wp2_with fail
    go_ret
    exact ⟨rfl, HB4.out⟩
  have hd4 : ((cn : Int) == 40) = false := by simp; omega
  have hd4' : (cn == 40) = false := by simp; omega
  have HCT := Lib.hid (pcount_any _ vars keep _ cs w4 HC4.out HIV.out HIK.out HSZ.out H9F.out HT4.out)
  go_upto_region 5 with fail
  go_wp2_with fail
  refine HCT.out.mono ?_
  rintro e w5 ⟨n, c, rfl, q1, q2, q3, hb5⟩
  rw [HA.out] at q1
  subst q1
  have hn := q3 rfl
  have HB5 : Hid (Below w.heap.size w w5) := Lib.hid (HB4.out.trans (hb5.mono HB4.out.size))
  have HC5 := Lib.hid (HC4.out.below hb5)
  have HL5 := Lib.hid (HL4.out.below hb5)
  have HT5 : Hid (TabB w5.heap.size w5) := Lib.hid ((HT4.out.below hb5 (Nat.le_refl _)).up hb5.size)
  have z0 := below_c hb5 hlt4 y0
  have z1 := below_c hb5 hlt4 y1
  have z2 := below_c hb5 hlt4 y2
  have hlt5 := block_lt z0
  have HN := Lib.hid hn
  obtain ⟨hcc, _, hk40⟩ := asked_ok HA.out
  have hdm := check_dims hcc
  have HCC := Lib.hid hcc
  have HDM := Lib.hid hdm
  have HK4 := Lib.hid hk40
  clear hb5 HCT HB4 HC4 HL4 HT4 y0 y1 y2 hlt4 q2 q3 hn hcc hdm hk40 HA h40
  go_upto_if 46 with fail
  go_cut [9] (fun u9 wx => Hid (Below w5.heap.size w5 wx))
  case first =>
    by_cases hk0 : 0 < keep
    · have hd : decide (0 < keep) = true := decide_eq_true hk0
      have hkne : (keep == 0) = false := by simp; omega
      obtain ⟨x, hx⟩ : ∃ x, wrap64 (1 + (wrap64 v).tmod keep) = x := ⟨_, rfl⟩
      have hx1 : 1 ≤ x ∧ x ≤ keep := by
        have hv := HV.out
        have h1 : wrap64 v = v := by unfold wrap64; omega
        rw [h1, Int.tmod_eq_emod_of_nonneg hv.1] at hx
        have h2 := Int.emod_nonneg v (b := keep) (by omega)
        have h3 := Int.emod_lt_of_pos v hk0
        have h4 := HK4.out
        unfold wrap64 at hx
        omega
      have hneg : wrap64 (-x) = -x := by have := HK4.out; unfold wrap64; omega
      obtain ⟨W6, hW6⟩ : ∃ W, w5.alloc (.cells #[.int .i64 x] 3) = W := ⟨_, rfl⟩
      have hb6 : Below w5.heap.size w5 W6 := by rw [← hW6]; exact (Below.refl _ _).alloc (Nat.le_refl _) _
      have hr6 : W6.heap[w5.heap.size]? = some (.cells #[.int .i64 x] 3) := by rw [← hW6]; exact new_at' _ _ rfl
      have hi6 : Ints (fun _ => True) W6 (.slice (some ⟨w5.heap.size, 0, none⟩) 1 1) [x] := ints_blk [x] hr6 rfl rfl (by simp) fun y hy => by simp at hy; subst hy; have := HK4.out; unfold I64; omega
      have HCA := Lib.hid (countwith_any _ _ vars keep _ _ cs [x] W6 (HC5.out.below hb6) hi6 HIV.out HIK.out HSZ.out (by simp) H9F.out ((HT5.out.below hb6 (Nat.le_refl _)).up hb6.size))
      have HB6 := Lib.hid hb6
      have t0 := below_c hb6 hlt5 z0
      have t1 := below_c hb6 hlt5 z1
      have t2 := below_c hb6 hlt5 z2
      have hlt6 := block_lt t0
      have HX1 := Lib.hid hx1
      clear hb6 hr6 hi6 hx1
      go_upto_region 10 with fail
      rw [hx]
      clear hx
      go_wp2_with fail
      try rw [hW6]
      refine HCA.out.mono ?_
      rintro e w7 ⟨a, ca', rfl, q1, q2, q3, hb7⟩
      rw [asked_of HCC.out (fun y hy => by simp at hy; subst hy; have := HX1.out; have := HDM.out; omega) HK4.out] at q1
      subst q1
      have HQA := Lib.hid (q3 rfl)
      have HB7 : Hid (Below w5.heap.size w5 w7) := Lib.hid (HB6.out.trans (hb7.mono HB6.out.size))
      have t3 := below_c hb7 hlt6 t0
      have t4 := below_c hb7 hlt6 t1
      have t5 := below_c hb7 hlt6 t2
      have hlt7 := block_lt t3
      obtain ⟨W8, hW8⟩ : ∃ W, w7.alloc (.cells #[.int .i64 (-x)] 3) = W := ⟨_, rfl⟩
      have hb8 : Below w7.heap.size w7 W8 := by rw [← hW8]; exact (Below.refl _ _).alloc (Nat.le_refl _) _
      have hr8 : W8.heap[w7.heap.size]? = some (.cells #[.int .i64 (-x)] 3) := by rw [← hW8]; exact new_at' _ _ rfl
      have hi8 : Ints (fun _ => True) W8 (.slice (some ⟨w7.heap.size, 0, none⟩) 1 1) [-x] := ints_blk [-x] hr8 rfl rfl (by simp) fun y hy => by simp at hy; subst hy; have := HK4.out; have := HX1.out; unfold I64; omega
      have HB8 : Hid (Below w5.heap.size w5 W8) := Lib.hid (HB7.out.trans (hb8.mono HB7.out.size))
      have HCB := Lib.hid (countwith_any _ _ vars keep _ _ cs [-x] W8 (HC5.out.below HB8.out) hi8 HIV.out HIK.out HSZ.out (by simp) H9F.out ((HT5.out.below HB8.out (Nat.le_refl _)).up HB8.out.size))
      have t0 := below_c hb8 hlt7 t3
      have t1 := below_c hb8 hlt7 t4
      have t2 := below_c hb8 hlt7 t5
      clear hb7 q2 q3 HCA hb8 hr8 hi8 hW6 HB6 HB7
      go_upto_region 11 with fail
      go_wp2_with fail
      try rw [hneg]
      try rw [hW8]
      refine HCB.out.mono ?_
      rintro e w9 ⟨b, cb', rfl, q1, q2, q3, hb9⟩
      rw [asked_of HCC.out (fun y hy => by simp at hy; subst hy; have := HX1.out; have := HDM.out; omega) HK4.out] at q1
      subst q1
      have hqb := q3 rfl
      have hsum : wrap64 (a + b) = n := by
        have h1 := cw_two cs HX1.out
        have h2 := cwN_le (cs := cs) (ls := []) HK4.out
        have h3 := HQA.out
        have h4 := HN.out
        rw [h3, hqb, h1, h4]
        exact wrap64_id h2
      have hsn : (wrap64 (a + b) != n) = false := by rw [hsum]; simp
      have hnn : (n != n) = false := by simp
      have HB9 : Hid (Below w5.heap.size w5 w9) := Lib.hid (HB8.out.trans (hb9.mono HB8.out.size))
      clear hb9 q2 q3 hqb HCB HQA HB8
      go_wp2_with fail
      go_meet
      exact HB9
    · have hd : decide (0 < keep) = false := decide_eq_false hk0
      go_wp2_with fail
      go_meet
      exact Lib.hid (Below.refl _ _)
  case rest =>
  have HB6 : Hid (Below w.heap.size w wc) := Lib.hid (HB5.out.trans (hcut.out.mono HB5.out.size))
  have HC6 := Lib.hid (HC5.out.below hcut.out)
  have HL6 := Lib.hid (HL5.out.below hcut.out)
  have HT6 : Hid (TabB wc.heap.size wc) := Lib.hid ((HT5.out.below hcut.out (Nat.le_refl _)).up hcut.out.size)
  have y0 := below_c hcut.out hlt5 z0
  have y1 := below_c hcut.out hlt5 z1
  have y2 := below_c hcut.out hlt5 z2
  have hlt6 := block_lt y0
  have hak := lasked_any _ _ vars keep _ _ cs ls wc HC6.out HL6.out HIV.out HIK.out HSZ.out
  obtain ⟨A, hA⟩ : ∃ A, askedM vars keep cs ls = A := ⟨_, rfl⟩
  rw [hA] at hak
  have HAK := Lib.hid hak
  have HA := Lib.hid hA
  clear hak hA hcut z0 z1 z2 hlt5 HB5 HC5 HL5 HT5
  go_wp2_with fail
  refine HAK.out.mono ?_
  rintro e w7 ⟨rfl, hb7⟩
  have HB7 : Hid (Below w.heap.size w w7) := Lib.hid (HB6.out.trans (hb7.mono HB6.out.size))
  have HC7 := Lib.hid (HC6.out.below hb7)
  have HL7 := Lib.hid (HL6.out.below hb7)
  have HT7 : Hid (TabB w7.heap.size w7) := Lib.hid ((HT6.out.below hb7 (Nat.le_refl _)).up hb7.size)
  have z0 := below_c hb7 hlt6 y0
  have z1 := below_c hb7 hlt6 y1
  have z2 := below_c hb7 hlt6 y2
  have hlt7 := block_lt z0
  clear hb7 HAK HB6 HC6 HL6 HT6 y0 y1 y2 hlt6
  by_cases hA0 : A = 0
  rotate_left
  · have hd : (A != 0) = true := by simp; exact hA0
    clear hA0
    go_wp2_with fail
    go_ret
    exact ⟨rfl, HB7.out⟩
  subst hA0
  obtain ⟨_, hlo, _⟩ := asked_ok HA.out
  have HLO := Lib.hid hlo
  clear hlo
  obtain ⟨bk, hbk⟩ : ∃ b, w7.heap.size = b := ⟨_, rfl⟩
  obtain ⟨W8, hW8⟩ : ∃ W, w7.alloc (.cells #[.int .i64 vars, .int .i64 keep, .slice ca cn cc] 24) = W := ⟨_, rfl⟩
  have hb8 : Below w7.heap.size w7 W8 := by rw [← hW8]; exact (Below.refl _ _).alloc (Nat.le_refl _) _
  have hr8 : W8.heap[bk]? = some (.cells #[.int .i64 vars, .int .i64 keep, .slice ca cn cc] 24) := by rw [← hW8]; exact new_at' _ _ hbk.symm
  have t0 : W8.cell? ⟨bk, 0, none⟩ = some (.int .i64 vars) := by rw [cell_of_row _ _ _ _ _ _ hr8]; rfl
  have t1 : W8.cell? ⟨bk, 1, none⟩ = some (.int .i64 keep) := by rw [cell_of_row _ _ _ _ _ _ hr8]; rfl
  have t2 : W8.cell? ⟨bk, 2, none⟩ = some (.slice ca cn cc) := by rw [cell_of_row _ _ _ _ _ _ hr8]; rfl
  have cf : ∀ o, W8.frozen? ⟨bk, o, none⟩ = false := fun o => by simp only [World.frozen?, hr8]; simp
  have HCF := Lib.hid cf
  have HB8 := Lib.hid hb8
  have HS8 : Hid (W8.heap.size = bk + 1) := Lib.hid (by rw [← hW8]; simp; omega)
  have HBK := Lib.hid hbk
  have hcw : Clss (fun b => b < w7.heap.size) w7 (.slice ca cn cc) cs := clss_lt HC7.out
  have HCLO := Lib.hid (clones_any _ _ cs W8 (hcw.below hb8) (by have := HLL.out.1; omega))
  have HIN := Lib.hid (show (Tryz.prog.info? 32).map (fun i => (i.zero, i.size, i.bytes)) = some (some (.slice none 0 0), 1, 24) by kernel_rfl)
  have hlt8 := block_lt t0
  have x2 := below_c hb8 hlt7 z2
  clear cf hb8 hr8 hcw
  go_upto_region 17 with fail
  try rw [hW8]
  try rw [hbk]
  clear hbk hW8
  go_wp2_with fail
  refine HCLO.out.mono ?_
  rintro e w9 ⟨v9, rfl, hro, hb9⟩
  obtain ⟨oa, oc, rfl⟩ := hro.form
  have HRO := hro.off (show w7.heap.size ≤ W8.heap.size by have := HS8.out; have := HBK.out; omega)
  obtain ⟨us, ho1, ho2, ho3⟩ := HRO
  rw [← HCN.out] at ho1 ho3
  rw [← HCN.out]
  have HB9 : Hid (Below W8.heap.size W8 w9) := Lib.hid hb9
  have HB79 : Hid (Below w7.heap.size w7 w9) := Lib.hid (HB8.out.trans (hb9.mono HB8.out.size))
  have HR9 : Hid (Ints (fun b => (Value.slice oa cn oc).ownBlock ≠ some b) w9 (.slice la ln lc) ls) := Lib.hid ((HL7.out.lt.below HB79.out).mono fun b hb e => by
    have h1 := (ho1.lt b e).1
    have h2 := hb.2
    have := HS8.out
    have := HBK.out
    omega)
  have hz9 : W8.heap.size ≤ w9.heap.size := HB9.out.size
  have HO2 := Lib.hid ho2
  have HO3 := Lib.hid ho3
  have hcn : cn ≤ 40 := by rw [HCN.out]; exact HLL.out.1
  clear hro hb9 HCLO ho2 ho3
  go_wp2_with (at_builtin; go_loud (refine wpList_push1 rfl _ _ 22 rfl 32 (.slice none 0 0) 24 Tryz.underlying22 HIN.out rfl W8.heap.size (.slice oa cn oc) cn us w9 (.slice la ln lc) rfl rfl ho1 rfl (by omega) (by omega) hz9 ?_); intro g7 cap7 wa hown7 hg7 hs7 hgb hgl hat; have HBA : Hid (Below W8.heap.size W8 wa) := Lib.hid (HB9.out.grown hg7 hz9 (fun k hk => (ho1.lt k hk).1)); have HOA : Hid (RowsO (fun b => (Value.slice (some ⟨g7, 0, none⟩) (cn + 1) cap7).ownBlock ≠ some b) wa W8.heap.size (.slice (some ⟨g7, 0, none⟩) (cn + 1) cap7) (cn + 1) (cs ++ [ls])) := Lib.hid (RowsO.push HCN.out HO2.out HO3.out HR9.out hown7 hg7 hat); clear hown7 hg7 hat ho1 hs7 hgb hgl)
  have hcla : Clss (fun _ => True) wa (.slice (some ⟨g7, 0, none⟩) (cn + 1) cap7) (cs ++ [ls]) := HOA.out.clss (by omega)
  have hl14 : ∀ c ∈ cs ++ [ls], c.length ≤ 14 := fun c hc => by
    rcases List.mem_append.1 hc with h1 | h1
    · exact HLL.out.2 c h1
    · simp at h1; subst h1; have := HLE.out; omega
  have hl41 : (cs ++ [ls]).length ≤ 41 := by rw [List.length_append, ← HCN.out]; simp; omega
  have HCA := Lib.hid (lcanonical_any _ _ (cs ++ [ls]) wa hcla (by omega) (fun c hc => by have := hl14 c hc; omega))
  have hsz : SzL (canM (cs ++ [ls])) := ⟨Nat.le_trans (canM_ln _) (by omega), fun c hc => Nat.le_trans (canM_eas hl14 hc) (by omega)⟩
  have HSZ2 := Lib.hid hsz
  clear hcla hl14 hl41 hsz HOA
  refine HCA.out.mono ?_
  rintro e wb ⟨v3, rfl, hv3, hbb⟩
  obtain ⟨ra, rn, rc, rfl, _, _⟩ := hv3.form'
  have HBB : Hid (Below W8.heap.size W8 wb) := Lib.hid (HBA.out.trans (hbb.mono HBA.out.size))
  have e0 := below_c HBB.out hlt8 t0
  have e1 := below_c HBB.out hlt8 t1
  have e2 := below_c HBB.out hlt8 t2
  have ez : wb.frozen? ⟨bk, 2, none⟩ = false := (World.frozen?_of_block (a := ⟨bk, 2, none⟩) (HBB.out.block bk hlt8)).trans (HCF.out 2)
  have HV3 := Lib.hid hv3
  obtain ⟨Wc, hWc⟩ : ∃ W, wb.setCell ⟨bk, 2, none⟩ (.slice ra rn rc) = W := ⟨_, rfl⟩
  have f0 : Wc.cell? ⟨bk, 0, none⟩ = some (.int .i64 vars) := by rw [← hWc]; exact set_ne (by omega) e0
  have f1 : Wc.cell? ⟨bk, 1, none⟩ = some (.int .i64 keep) := by rw [← hWc]; exact set_ne (by omega) e1
  have f2 : Wc.cell? ⟨bk, 2, none⟩ = some (.slice ra rn rc) := by rw [← hWc]; exact set_eq e2
  have hvc : Clss (fun _ => True) Wc (.slice ra rn rc) (canM (cs ++ [ls])) := by
    refine Rows1.mono (fun _ _ _ _ _ h hg => h.mono hg) (Rows1.move (fun _ _ _ _ _ h hm => h.move hm) HV3.out fun b hb hlt => ?_) fun b hb => trivial
    have h1 : wa.heap.size ≤ b := hb
    have h2 : W8.heap.size ≤ wa.heap.size := HBA.out.size
    rw [← hWc]
    exact Below.heap_setCell _ _ _ _ (by show b ≠ bk; omega)
  have hbc : Below w7.heap.size w7 Wc := by
    rw [← hWc]
    exact (HB8.out.trans (HBB.out.mono HB8.out.size)).setCell (by rw [HBK.out]; exact Nat.le_refl _) _
  have HBC := Lib.hid hbc
  have HCT := Lib.hid (pcount_any _ vars keep _ (canM (cs ++ [ls])) Wc hvc HIV.out HIK.out HSZ2.out (fun _ => H9F.out HCC.out) ((HT7.out.below hbc (Nat.le_refl _)).up hbc.size))
  clear hbb hv3 HCA hvc hbc
  go_upto_region 18 with fail
  try rw [hWc]
  clear e0 e1 e2 ez hWc
  go_wp2_with fail
  refine HCT.out.mono ?_
  rintro e wd ⟨m, c, rfl, q1, q2, q3, hbd⟩
  rw [asked_of (check_tight HCC.out HLO.out HLL.out.1) (fun y hy => by simp at hy) HK4.out] at q1
  subst q1
  have hm : m ≤ n := by
    rw [q3 rfl, HN.out]
    exact cw_tight keep cs ls
  have hdm : decide (m ≤ n) = true := decide_eq_true hm
  have HBD : Hid (Below w.heap.size w wd) := Lib.hid ((HB7.out.trans (HBC.out.mono HB7.out.size)).trans (hbd.mono (Nat.le_trans HB7.out.size HBC.out.size)))
  clear hbd q2 q3 HCT
  go_wp2_with fail
  go_ret
  exact ⟨rfl, HBD.out⟩
end Go.Proofs.YthanfjpmcckbhaaGreatDoor
