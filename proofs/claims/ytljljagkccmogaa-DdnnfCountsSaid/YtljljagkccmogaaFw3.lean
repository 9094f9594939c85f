/- Walk of the law DdnnfCounts. -/
import Derived.Test.YtljljagkccmogaaMc
import Derived.Test.YtljljagkccmogaaCw5
namespace Go.Proofs.Ytljljagkccmogaa
open Go.ChangeShapes Go.WideShapes Go.ChangeAt Go.RowKit
set_option linter.unusedVariables false

theorem countA_ok {d : Dnnf} (h : (checkedM d).1 = 0) : countA d = (Cn d.vars.toNat (evalM d.parts) : Nat) := by
  unfold countA
  rw [if_pos h, (count_ok h).2]

set_option maxRecDepth 100000 in
set_option maxHeartbeats 8000000 in
theorem counts_walk {F : Nat → Prop} (vars : Int) (pv : Value) (ps : List Part) (w : World) (hp : Parts F w pv ps) (hv : I64 vars) :
    Calls Try.prog 5 #[.agg #[.int .i64 vars, pv]] w fun e w' => e = .returned (.bool true) ∧ Below w.heap.size w w' := by
  obtain ⟨pa, pn, pc, rfl, HPN⟩ : ∃ a n c, pv = .slice a n c ∧ Hid (n = ps.length) := by
    obtain ⟨a, c, h1, h2⟩ := hp.form
    exact ⟨a, _, c, h1, rfl⟩
  have hbel : Below w.heap.size w (w.alloc (.cells #[.int .i64 vars, .slice pa pn pc] 24)) := (Below.refl _ _).alloc (Nat.le_refl _) _
  have HB := Lib.hid hbel
  have HP := Lib.hid (hp.below hbel)
  clear hbel hp
  go_enter Try.func5, Try.ntmps5
  go_wp2_with fail
  refine (known_any _).mono ?_
  rintro e w1 ⟨rfl, hb1⟩
  have c0 := below_c hb1 (show w.heap.size < _ by simp) (o := 0) (v := .int .i64 vars) (by simp)
  have c1 := below_c hb1 (show w.heap.size < _ by simp) (o := 1) (v := .slice pa pn pc) (by simp)
  have HB1 : Hid (Below w.heap.size w w1) := Lib.hid (HB.out.trans (hb1.mono (by simp)))
  have HP1 := Lib.hid (HP.out.below hb1)
  have hs1 := block_lt c0
  clear hb1 HP HB
  go_wp2_with fail
  refine (few_any F vars _ ps _ HP1.out).mono ?_
  rintro e w2 ⟨rfl, hb2⟩
  have d0 := below_c hb2 hs1 c0
  have d1 := below_c hb2 hs1 c1
  have HB2 : Hid (Below w.heap.size w w2) := Lib.hid (HB1.out.trans (hb2.mono HB1.out.size))
  have HP2 := Lib.hid (HP1.out.below hb2)
  have hs2 := block_lt d0
  clear hb2 c0 c1 HP1 HB1 hs1
  rcases hf : few ps with _ | _
  · go_wp2_with fail
    go_ret
    exact ⟨rfl, HB2.out⟩
  have hkd : ∀ p ∈ ps, p.kids.length ≤ 16384 := fun p hp => by
    unfold few at hf
    rw [Bool.and_eq_true] at hf
    have := few_kids ps 200 hf.1 p hp
    omega
  have hp60 : ps.length ≤ 60 := by
    unfold few at hf
    rw [Bool.and_eq_true] at hf
    simpa using hf.2
  have HKD := Lib.hid hkd
  obtain ⟨A, hA⟩ : ∃ A, countA ⟨vars, ps⟩ = A := ⟨_, rfl⟩
  obtain ⟨c, hc⟩ : ∃ c, (checkedM ⟨vars, ps⟩).1 = c := ⟨_, rfl⟩
  have HA := Lib.hid hA
  have HC := Lib.hid hc
  have hco : ∀ wx, Parts F wx (.slice pa pn pc) ps → Calls Try.prog 16 #[.agg #[.int .i64 vars, .slice pa pn pc]] wx fun e w' => e = .returned (.tuple #[.int .i64 A, .int .i64 c]) ∧ Below wx.heap.size wx w' := fun wx h => by
    have := Count_any F vars _ ps wx h hv (fun h => (count_ok h).1)
    rwa [hA, hc] at this
  have hfr : ∀ wx, Parts F wx (.slice pa pn pc) ps → Calls Try.prog 17 #[.agg #[.int .i64 vars, .slice pa pn pc]] wx (FreqPost wx vars.toNat ps c) := fun wx h => by
    have := freq_any vars _ ps wx h hv hkd
    rwa [hc] at this
  have hck : ∀ wx, Parts F wx (.slice pa pn pc) ps → Calls Try.prog 13 #[.agg #[.int .i64 vars, .slice pa pn pc]] wx fun e w' => e = .returned (.int .i64 c) ∧ Below wx.heap.size wx w' := fun wx h => by
    have := check_any F vars _ ps wx h hv
    rwa [← check_eq, hc] at this
  have HCO := Lib.hid hco
  have HFR := Lib.hid hfr
  have HCK := Lib.hid hck
  clear hA hc hco hfr hck hf hkd
  go_wp2_with fail
  refine (HCO.out _ HP2.out).mono ?_
  rintro e w3 ⟨rfl, hb3⟩
  have e0 := below_c hb3 hs2 d0
  have e1 := below_c hb3 hs2 d1
  have HB3 : Hid (Below w.heap.size w w3) := Lib.hid (HB2.out.trans (hb3.mono HB2.out.size))
  have HP3 := Lib.hid (HP2.out.below hb3)
  have hs3 := block_lt e0
  clear hb3 d0 d1 HP2 HB2 hs2
  go_wp2_with fail
  refine (HFR.out _ HP3.out).mono ?_
  rintro e w4 ⟨lv, rfl, hb4, hno, hyes⟩
  have f0 := below_c hb4 hs3 e0
  have f1 := below_c hb4 hs3 e1
  have HB4 : Hid (Below w.heap.size w w4) := Lib.hid (HB3.out.trans (hb4.mono HB3.out.size))
  have HP4 := Lib.hid (HP3.out.below hb4)
  have hs4 := block_lt f0
  have HNO := Lib.hid hno
  have HYES := Lib.hid hyes
  clear hb4 e0 e1 HP3 HB3 hs3 hno hyes
  by_cases hc0 : c = 0
  case neg =>
    have hlv := HNO.out hc0
    subst hlv
    have hA0 : A = 0 := by
      rw [← HA.out]; unfold countA; rw [if_neg (by rw [HC.out]; exact hc0)]
    subst hA0
    have hne : (c != 0) = true := by simp [hc0]
    have hee : (c == c) = true := by simp
    clear hc0
    go_wp2_with fail
    refine (HCK.out _ HP4.out).mono ?_
    rintro e w5 ⟨rfl, hb5⟩
    have HB5 : Hid (Below w.heap.size w w5) := Lib.hid (HB4.out.trans (hb5.mono HB4.out.size))
    clear hb5
    go_wp2_with fail
    go_ret
    exact ⟨by simp, HB5.out⟩
  subst hc0
  obtain ⟨hsh, hv0, hv40, hp0, _⟩ := sh_of_checkedM _ HC.out
  simp only at hv0 hv40 hp0
  obtain ⟨V, rfl⟩ := Int.eq_ofNat_of_zero_le hv0
  have hly := HYES.out rfl
  rw [Int.toNat_natCast, freq_eq] at hly
  have HAn : Hid (A = (Cn V (evalM ps) : Nat)) := Lib.hid (by rw [← HA.out, countA_ok HC.out]; rfl)
  obtain ⟨la, ln, lc, rfl, HLN, _⟩ := hly.form'
  have HLY := Lib.hid hly
  clear hsh hly hv0
  go_wp2_with fail
  refine (HCK.out _ HP4.out).mono ?_
  rintro e w5 ⟨rfl, hb5⟩
  have g0 := below_c hb5 hs4 f0
  have g1 := below_c hb5 hs4 f1
  have HB5 : Hid (Below w.heap.size w w5) := Lib.hid (HB4.out.trans (hb5.mono HB4.out.size))
  have HP5 := Lib.hid (HP4.out.below hb5)
  have HLY5 := Lib.hid (HLY.out.below hb5)
  have hs5 := block_lt g0
  clear hb5 f0 f1 hs4
  by_cases h8 : 8 < (V : Int)
  · go_wp2_with fail
    go_ret
    exact ⟨by simp, HB5.out⟩
  have hV8 : V ≤ 8 := by omega
  clear h8
  have hwf := (valid_of HC.out).2.2.2.2
  rw [Int.toNat_natCast] at hwf
  have hmo := models_any V _ ps w5 HP5.out hV8 hp0 hp60 hwf
  have hml := models_len V ps
  have hmm := fun m (h : m ∈ modelsM V ps) => models_mem h
  obtain ⟨MS, hMS⟩ : ∃ MS, modelsM V ps = MS := ⟨_, rfl⟩
  rw [hMS] at hmo hml hmm HLY5
  have hAn := HAn.out
  rw [← hml] at hAn
  subst hAn
  have hms256 : MS.length ≤ 256 := by
    rw [hml]
    exact Nat.le_trans (Cn_le _ _) (Nat.le_trans (Nat.pow_le_pow_right (by decide) hV8) (by decide))
  have HMO := Lib.hid hmo
  have HMM := Lib.hid hmm
  clear hwf hmo hml hmm hMS HYES HNO HLY HA
  go_wp2_with fail
  refine HMO.out.mono ?_
  rintro e w6 ⟨av, rfl, har, hb6⟩
  have h0' := below_c hb6 hs5 g0
  have h1' := below_c hb6 hs5 g1
  have HB6 : Hid (Below w.heap.size w w6) := Lib.hid (HB5.out.trans (hb6.mono HB5.out.size))
  have HLY6 := Lib.hid (HLY5.out.below hb6)
  have HAR := Lib.hid har
  have hs6 := block_lt h0'
  obtain ⟨aa, an, ac, rfl, HAN, han⟩ : ∃ a n c, av = .slice a n c ∧ Hid (n = MS.length) ∧ n ≤ 256 := by
    obtain ⟨a, c, h, _⟩ := har.form
    exact ⟨a, _, c, h, rfl, hms256⟩
  have hinfo : (Try.prog.info? 3).map (fun i => (i.zero, i.size, i.bytes)) = some (some (.int .i64 0), 1, 8) := by kernel_rfl
  obtain ⟨i0, q1, q2, q3, q4⟩ := info_parts hinfo
  have G1 := Lib.hid q1
  have G2 := Lib.hid q2
  have G3 := Lib.hid q3
  have G4 := Lib.hid q4
  clear q1 q2 q3 q4 hinfo hb6 har g0 g1 HLY5 HB5 hs5 hms256
  go_upto_region 14 with (at_make; refine wpList_make_full _ rfl _ _ 35 rfl w6.heap.size 3 i0 (.int .i64 0) 1 Try.underlying35 G1.out G2.out G3.out .i64 .i64 _ _ V rfl rfl (by simp) (by simp) (by rw [G4.out]; omega) (by unfold maxLen; omega) (by simp) ?_; intro w7 hown7 hg7)
  have hsz7 : w6.heap.size < w7.heap.size := (hown7.lt w6.heap.size (by simp [Value.ownBlock])).2
  have HO7 : Hid (w7.ownsRow w6.heap.size 3 1 (.slice (some ⟨w6.heap.size, 0, none⟩) V V) V ((cntM V (MS.take 0)).map (.int .i64))) := Lib.hid (by
    rw [made_ints] at hown7
    have : cntM V (MS.take 0) = List.replicate V (0 : Int) := by
      unfold cntM cntAt
      apply List.ext_getElem?
      intro j
      by_cases h : j < V <;> simp [h]
    rw [this]; exact hown7)
  have hb7 : Below w6.heap.size w6 w7 := (Below.refl _ _).grown hg7 (Nat.le_refl _) (by intro k hk; cases hk)
  have k0 := below_c hb7 hs6 h0'
  have k1 := below_c hb7 hs6 h1'
  have HB7 : Hid (Below w.heap.size w w7) := Lib.hid (HB6.out.trans (hb7.mono (by omega)))
  have HBO7 := Lib.hid hb7
  clear hown7 hg7 hb7 h0' h1'
  go_upto_block 0 with fail
  go_cut [] (fun wx => Hid (wx.ownsRow w6.heap.size 3 1 (.slice (some ⟨w6.heap.size, 0, none⟩) V V) V ((cntM V MS).map (.int .i64))) ∧ Hid (Below w6.heap.size w6 wx))
  case first =>
    go_wp2
    go_loopg [65] an (fun g u65 wx => ∃ k : Nat, k + g = an ∧ u65 = .int .i64 k ∧ Hid (wx.ownsRow w6.heap.size 3 1 (.slice (some ⟨w6.heap.size, 0, none⟩) V V) V ((cntM V (MS.take k)).map (.int .i64))) ∧ Hid (Below w6.heap.size w6 wx))
    case atStart => exact ⟨0, by omega, rfl, HO7, HBO7⟩
    case round =>
    obtain ⟨GK, hGK⟩ : ∃ G, G = gk := ⟨_, rfl⟩
    subst hGK
    obtain ⟨k, hkg, rfl, HOX, HBX⟩ := hrel
    by_cases hlt : k < an
    case neg =>
      have hk : an ≤ k := by omega
      clear hlt
      go_wp2
      go_meet
      have := HOX.out
      rw [List.take_of_length_le (by have := HAN.out; omega)] at this
      exact ⟨Lib.hid this, HBX⟩
    obtain ⟨m, hm⟩ : ∃ m, MS[k]? = some m := ⟨_, List.getElem?_eq_getElem (by have := HAN.out; omega)⟩
    have hmV := HMM.out m (List.mem_of_getElem? hm)
    have HTK : Hid (MS.take (k + 1) = MS.take k ++ [m]) := Lib.hid (by
      obtain ⟨hlt, he⟩ := List.getElem?_eq_some_iff.1 hm
      rw [List.take_succ_eq_append_getElem hlt, he])
    have har := HAR.out
    obtain ⟨ab, aoff, mv, rfl, _, hab, hmc, hmr⟩ := har.at hm
    obtain ⟨xa, xc, rfl, _⟩ := hmr.form
    have hmc2 := below_c HBX.out hab hmc
    have HMR := Lib.hid hmr
    have HMV := Lib.hid hmV
    have hTl : (MS.take k).length ≤ 256 := by have := HAN.out; rw [List.length_take]; omega
    have HO0 : Hid (wr.ownsRow w6.heap.size 3 1 (.slice (some ⟨w6.heap.size, 0, none⟩) V V) V ((cntP V (MS.take k) m 0).map (.int .i64))) := Lib.hid (by rw [cntP_zero]; exact HOX.out)
    obtain ⟨T, hT⟩ : ∃ T, MS.take k = T := ⟨_, rfl⟩
    rw [hT] at HO0 HTK hTl
    clear har hmc hmr hmV hm hT HOX
    go_wp2
    go_loopg [71] V (fun g u71 wx => ∃ j : Nat, j + g = V ∧ u71 = .int .i64 j ∧ Hid (wx.ownsRow w6.heap.size 3 1 (.slice (some ⟨w6.heap.size, 0, none⟩) V V) V ((cntP V T m j).map (.int .i64))) ∧ Hid (Below w6.heap.size w6 wx))
    case atStart => exact ⟨0, by omega, rfl, HO0, HBX⟩
    case round =>
    obtain ⟨j, hjg, rfl, HOJ, HBJ⟩ := hrel
    by_cases hlj : j < V
    case neg =>
      have hj : j = V := by omega
      subst hj
      clear hlj
      have HOF : Hid (wr.ownsRow w6.heap.size 3 1 (.slice (some ⟨w6.heap.size, 0, none⟩) j j) j ((cntM j (MS.take (k + 1))).map (.int .i64))) := Lib.hid (by rw [HTK.out, ← cntP_full]; exact HOJ.out)
      go_wp2
      go_roundg (GK - 1)
      case measure => omega
      case rel => exact ⟨k + 1, by omega, by go_num, HOF, HBJ⟩
    obtain ⟨b, hb⟩ : ∃ b, m[j]? = some b := ⟨_, List.getElem?_eq_getElem (by have := HMV.out; omega)⟩
    obtain ⟨mb, moff, rfl, _, hmbl, hmb⟩ := (HMR.out.below HBJ.out).at hb
    have hbd : m.getD j false = b := by simp [List.getD, hb]
    have hjl : j < m.length := by have := HMV.out; omega
    rcases bool2 b with rfl | rfl
    · have HCS := Lib.hid (cntP_set V T m j hbd)
      obtain ⟨z, hz, hcell, hfz, hg1, hg2, hset⟩ := own_at (.int .i64) HOJ.out hlj
      rw [cntP_at V T m j hlj] at hz
      injection hz with hz
      have hcl := cntAt_le T j
      have HRW := Lib.hid (hset (((cntAt T j : Nat) : Int) + 1))
      rw [HCS.out] at HRW
      rw [← hz] at hcell
      generalize cntAt T j = q at *
      have hq : q ≤ 256 := by omega
      clear hset hz hb hbd HCS
      go_wp2
      go_roundg (gk - 1)
      case measure => omega
      case rel => exact ⟨j + 1, by omega, by go_num, HRW, Lib.hid (HBJ.out.setCell (by show w6.heap.size ≤ w6.heap.size; omega) _)⟩
    · have HCS := Lib.hid (cntP_skip V T m j hbd)
      have HRW := HOJ
      rw [← HCS.out] at HRW
      clear hb hbd HCS
      go_wp2
      go_roundg (gk - 1)
      case measure => omega
      case rel => exact ⟨j + 1, by omega, by go_num, HRW, HBJ⟩
  case rest =>
  obtain ⟨HOF, HBF⟩ := hcut
  have hwi : Ints (fun _ => True) wc (.slice (some ⟨w6.heap.size, 0, none⟩) V V) (cntM V MS) := ⟨(ownsRow_sl1 HOF.out (by omega)).mono fun _ _ => trivial, fun x hx => by
    obtain ⟨i, _, rfl⟩ := List.mem_map.1 hx
    have := cntAt_le MS i
    have := HAN.out
    unfold I64; omega⟩
  have heq := equal_any _ _ (cntM V MS) (cntM V MS) wc (HLY6.out.below HBF.out) hwi
  have hee : (cntM V MS == cntM V MS) = true := by simp
  rw [hee] at heq
  have HEQ := Lib.hid heq
  have hal : ((MS.length : Int) == (an : Int)) = true := by rw [HAN.out]; simp
  have HBZ : Hid (Below w.heap.size w wc) := Lib.hid (HB6.out.trans (HBF.out.mono (by omega)))
  clear hwi heq hee
  go_wp2_with fail
  refine HEQ.out.mono ?_
  rintro e w9 ⟨rfl, nq, rfl⟩
  go_wp2_with fail
  go_ret
  exact ⟨by simp, below_drewN HBZ.out _⟩
end Go.Proofs.Ytljljagkccmogaa
