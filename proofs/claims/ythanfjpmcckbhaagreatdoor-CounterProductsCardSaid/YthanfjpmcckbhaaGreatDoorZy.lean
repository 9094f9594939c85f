/- (Counter seat) Walk: the statement CounterProducts. No condition but that the table of powers lies as laid. -/
import Derived.Test.YthanfjpmcckbhaaGreatDoorZx
namespace Go.Proofs.YthanfjpmcckbhaaGreatDoor
open Go.ChangeShapes Go.WideShapes Go.ChangeAt Go.RowKit
set_option linter.unusedVariables false
set_option linter.unusedSimpArgs false

/-! ### plain -/
def bothC (vc kc kd : Int) (cs ds : List (List Int)) : List (List Int) := mvC (sM kc 0 kd) cs ++ mvC (sM kd kc vc) ds
theorem mv_b {vars keep add rest hi x : Int} (h : x ≠ 0 ∧ -vars ≤ x ∧ x ≤ vars) (ha : 0 ≤ add) (hr : 0 ≤ rest) (h1 : keep + add ≤ hi) (h2 : vars + rest ≤ hi) : mvL (sM keep add rest) x ≠ 0 ∧ -hi ≤ mvL (sM keep add rest) x ∧ mvL (sM keep add rest) x ≤ hi := by
  unfold mvL sM varM
  split <;> first | omega | (split <;> first | omega | (split <;> omega))
theorem both_lits {vc kc vd kd : Int} {cs ds : List (List Int)} (hc : checkM vc kc cs = 0) (hd : checkM vd kd ds = 0) : ∀ c ∈ bothC vc kc kd cs ds, ∀ x ∈ c, x ≠ 0 ∧ -(vc + vd) ≤ x ∧ x ≤ vc + vd := fun c hcm x hx => by
  obtain ⟨V, rfl, _, hk0, hkV, _, hlc, _⟩ := check_okS hc
  obtain ⟨U, rfl, _, hd0, hdV, _, hld, _⟩ := check_okS hd
  rcases List.mem_append.1 hcm with h1 | h1
  · obtain ⟨z, hz, rfl⟩ := List.mem_map.1 h1
    obtain ⟨y, hy, rfl⟩ := List.mem_map.1 hx
    exact mv_b (hlc z hz y hy) (by omega) hd0 (by omega) (by omega)
  · obtain ⟨z, hz, rfl⟩ := List.mem_map.1 h1
    obtain ⟨y, hy, rfl⟩ := List.mem_map.1 hx
    exact mv_b (hld z hz y hy) hk0 (by omega) (by omega) (by omega)
theorem check_both {vc kc vd kd : Int} {cs ds : List (List Int)} (hc : checkM vc kc cs = 0) (hd : checkM vd kd ds = 0) (h9 : vc + vd ≤ 9) (hl : cs.length + ds.length ≤ 80) : checkM (vc + vd) (kc + kd) (canM (bothC vc kc kd cs ds)) = 0 := by
  have d1 := check_dims hc
  have d2 := check_dims hd
  have hlen : (canM (bothC vc kc kd cs ds)).length ≤ 80 := Nat.le_trans (canM_ln _) (by unfold bothC mvC; simp; omega)
  have hout : ((canM (bothC vc kc kd cs ds)).any fun c => c.any (outB (vc + vd).toNat)) = false := by
    rw [List.any_eq_false]
    intro c hcm
    rw [Bool.not_eq_true, List.any_eq_false]
    intro x hx
    obtain ⟨_, _, d, hdm, rfl⟩ := canM_mem hcm
    have hok := both_lits hc hd d hdm x (claM_mem hx)
    unfold outB varM
    simp
    split <;> omega
  unfold checkM
  rw [if_neg (by omega), if_neg (by omega), hout, if_neg (by simp), (canGo_canM _).2 (canM_idem _), if_neg (by simp)]
theorem asked_of {vars keep : Int} {cs : List (List Int)} (h : checkM vars keep cs = 0) (hk : keep ≤ 40) : askedM vars keep cs [] = 0 := by
  unfold askedM
  rw [if_neg (by simpa using h), if_neg (by simp), if_neg (by omega)]
theorem canM_eas {cs : List (List Int)} {d : List Int} {m : Nat} (hm : ∀ c ∈ cs, c.length ≤ m) (h : d ∈ canM cs) : d.length ≤ m := by
  obtain ⟨_, _, c, hc, rfl⟩ := canM_mem h
  exact Nat.le_trans (claM_len _) (hm c hc)
theorem cw_ev (keep : Int) (cs : List (List Int)) : cwN keep cs [] = ((cntN (Ev cs) (ivl 0 keep.toNat) : Nat) : Int) := by
  unfold cwN
  have h : cntN (fun f => Ev cs f ∧ LitsT [] f) (ivl 0 keep.toNat) = cntN (Ev cs) (ivl 0 keep.toNat) := cnt_iff fun f => ⟨fun h => h.1, fun h => ⟨h, fun x hx => by simp at hx⟩⟩
  rw [h]
theorem cw_both {vc kc vd kd : Int} {cs ds : List (List Int)} (hc : checkM vc kc cs = 0) (hd : checkM vd kd ds = 0) : cwN (kc + kd) (canM (bothC vc kc kd cs ds)) [] = cwN kc cs [] * cwN kd ds [] := by
  obtain ⟨V, rfl, _, hk0, hkV, _⟩ := check_okS hc
  obtain ⟨U, rfl, _, hd0, hdV, _⟩ := check_okS hd
  obtain ⟨Kc, rfl⟩ : ∃ K : Nat, kc = K := ⟨kc.toNat, by omega⟩
  obtain ⟨Kd, rfl⟩ : ∃ K : Nat, kd = K := ⟨kd.toNat, by omega⟩
  have h := prod_count (Vd := U) (cn_of_check hc) (cn_of_check hd) (show Kc ≤ V by omega) (show Kd ≤ U by omega) (fun v hv => (occ_of_check hc v hv).2) (fun v hv => (occ_of_check hd v hv).2)
  have e1 : sM (Kc : Int) 0 Kd = sC Kc Kd := by
    funext v
    unfold sM sC
    rw [Int.add_zero]
  have e2 : sM (Kd : Int) Kc V = sD Kc Kd V := by
    funext v
    unfold sM sD
    rfl
  unfold bothC
  rw [cw_ev, cw_ev, cw_ev, e1, e2, show ((Kc : Int) + (Kd : Int)).toNat = Kc + Kd by omega, h, Int.toNat_natCast, Int.toNat_natCast]
  simp
/-! ### what the calls leave -/
structure EnvP (w0 w : World) (bb : Nat) (vc kc vd kd : Int) (cv dv : Value) (cs ds : List (List Int)) : Prop where
  bel : Below w0.heap.size w0 w
  cc : Clss (fun _ => True) w cv cs
  cd : Clss (fun _ => True) w dv ds
  tab : TabB w.heap.size w
  c0 : w.cell? ⟨bb, 0, none⟩ = some (.int .i64 vc)
  c1 : w.cell? ⟨bb, 1, none⟩ = some (.int .i64 kc)
  c2 : w.cell? ⟨bb, 2, none⟩ = some cv
  d0 : w.cell? ⟨bb + 1, 0, none⟩ = some (.int .i64 vd)
  d1 : w.cell? ⟨bb + 1, 1, none⟩ = some (.int .i64 kd)
  d2 : w.cell? ⟨bb + 1, 2, none⟩ = some dv
theorem EnvP.step {w0 w w' : World} {bb : Nat} {vc kc vd kd : Int} {cv dv : Value} {cs ds : List (List Int)} (h : EnvP w0 w bb vc kc vd kd cv dv cs ds) (hb : Below w.heap.size w w') : EnvP w0 w' bb vc kc vd kd cv dv cs ds :=
  ⟨h.bel.trans (hb.mono h.bel.size), h.cc.below hb, h.cd.below hb, (h.tab.below hb (Nat.le_refl _)).up hb.size, below_c hb (block_lt h.c0) h.c0, below_c hb (block_lt h.c1) h.c1, below_c hb (block_lt h.c2) h.c2, below_c hb (block_lt h.d0) h.d0, below_c hb (block_lt h.d1) h.d1, below_c hb (block_lt h.d2) h.d2⟩
set_option maxRecDepth 100000 in
set_option maxHeartbeats 32000000 in
theorem lawProducts_any (vc kc : Int) (cv : Value) (cs : List (List Int)) (vd kd : Int) (dv : Value) (ds : List (List Int)) (w : World) (hc : Clss (fun _ => True) w cv cs) (hivc : I64 vc) (hikc : I64 kc) (hd : Clss (fun _ => True) w dv ds) (hivd : I64 vd) (hikd : I64 kd) (htab : TabB w.heap.size w) :
    Calls Tryz.prog 9 #[.agg #[.int .i64 vc, .int .i64 kc, cv], .agg #[.int .i64 vd, .int .i64 kd, dv]] w (BoolPost w true) := by
  obtain ⟨ca, cn, cc, rfl, HCN, _⟩ := hc.form'
  obtain ⟨da, dn, dc, rfl, HDN, _⟩ := hd.form'
  obtain ⟨bb, hbb⟩ : ∃ b, w.heap.size = b := ⟨_, rfl⟩
  obtain ⟨W1, hW1⟩ : ∃ W, (w.alloc (.cells #[.int .i64 vc, .int .i64 kc, .slice ca cn cc] 24)).alloc (.cells #[.int .i64 vd, .int .i64 kd, .slice da dn dc] 24) = W := ⟨_, rfl⟩
  have hb1 : Below w.heap.size w W1 := by rw [← hW1]; exact ((Below.refl _ _).alloc (Nat.le_refl _) _).alloc (by simp) _
  have hr0 : W1.heap[bb]? = some (.cells #[.int .i64 vc, .int .i64 kc, .slice ca cn cc] 24) := by rw [← hW1]; exact old_at _ _ _ (new_at' _ _ hbb.symm)
  have hr1 : W1.heap[bb + 1]? = some (.cells #[.int .i64 vd, .int .i64 kd, .slice da dn dc] 24) := by rw [← hW1]; exact new_at' _ _ (by simp; omega)
  have HE1 : Hid (EnvP w W1 bb vc kc vd kd (.slice ca cn cc) (.slice da dn dc) cs ds) := Lib.hid ⟨hb1, hc.below hb1, hd.below hb1, (htab.below hb1 (Nat.le_refl _)).up hb1.size, by rw [cell_of_row _ _ _ _ _ _ hr0]; rfl, by rw [cell_of_row _ _ _ _ _ _ hr0]; rfl, by rw [cell_of_row _ _ _ _ _ _ hr0]; rfl, by rw [cell_of_row _ _ _ _ _ _ hr1]; rfl, by rw [cell_of_row _ _ _ _ _ _ hr1]; rfl, by rw [cell_of_row _ _ _ _ _ _ hr1]; rfl⟩
  have HI1 := Lib.hid hivc
  have HI2 := Lib.hid hikc
  have HI3 := Lib.hid hivd
  have HI4 := Lib.hid hikd
  have HKN := Lib.hid (known_any W1 HE1.out.tab)
  clear hc hd hr0 hr1 hb1 hivc hikc hivd hikd htab
  go_enter Tryz.func9, Tryz.ntmps9
  go_wp2_with fail
  try rw [hW1]
  try rw [hbb]
  clear hW1 hbb
  refine HKN.out.mono ?_
  rintro e w2 ⟨rfl, hb⟩
  have HE2 := Lib.hid (HE1.out.step hb)
  clear hb HKN HE1
  obtain ⟨B1, hB1⟩ : ∃ B, fewB vc kc cs = B := ⟨_, rfl⟩
  have HFW : Hid (Calls Tryz.prog 12 #[.agg #[.int .i64 vc, .int .i64 kc, .slice ca cn cc]] w2 (BoolPost w2 B1)) := Lib.hid (by rw [← hB1]; exact lfew_any _ vc kc _ cs w2 HE2.out.cc HI1.out HI2.out)
  have HBF := Lib.hid hB1
  obtain ⟨_, _, _, _, x0, x1, x2, x3, x4, x5⟩ := HE2.out
  clear hB1
  go_wp2_with fail
  clear x0 x1 x2 x3 x4 x5
  refine HFW.out.mono ?_
  rintro e w3 ⟨rfl, hb⟩
  have HE3 := Lib.hid (HE2.out.step hb)
  clear hb HFW HE2
  obtain ⟨_, _, _, _, x0, x1, x2, x3, x4, x5⟩ := HE3.out
  rcases bool2 B1 with rfl | rfl
  rotate_left
  · go_wp2_with fail
    go_ret
    exact ⟨rfl, HE3.out.bel⟩
  obtain ⟨B2, hB2⟩ : ∃ B, fewB vd kd ds = B := ⟨_, rfl⟩
  have HFW : Hid (Calls Tryz.prog 12 #[.agg #[.int .i64 vd, .int .i64 kd, .slice da dn dc]] w3 (BoolPost w3 B2)) := Lib.hid (by rw [← hB2]; exact lfew_any _ vd kd _ ds w3 HE3.out.cd HI3.out HI4.out)
  have HBG := Lib.hid hB2
  clear hB2
  go_wp2_with fail
  clear x0 x1 x2 x3 x4 x5
  refine HFW.out.mono ?_
  rintro e w4 ⟨rfl, hb⟩
  have HE4 := Lib.hid (HE3.out.step hb)
  clear hb HFW HE3
  obtain ⟨_, _, _, _, x0, x1, x2, x3, x4, x5⟩ := HE4.out
  rcases bool2 B2 with rfl | rfl
  rotate_left
  · go_wp2_with fail
    go_ret
    exact ⟨rfl, HE4.out.bel⟩
  have HFC := Lib.hid (fewB_ok HBF.out)
  have HFD := Lib.hid (fewB_ok HBG.out)
  obtain ⟨A, hA⟩ : ∃ A, askedM vc kc cs [] = A := ⟨_, rfl⟩
  have hak := lasked_any _ (fun _ => True) vc kc _ (.slice none 0 0) cs [] w4 HE4.out.cc (Ints.nil _ _) HI1.out HI2.out HFC.out.1
  rw [hA] at hak
  have HAK := Lib.hid hak
  have HA := Lib.hid hA
  clear hak hA HBF HBG
  go_wp2_with fail
  clear x0 x1 x2 x3 x4 x5
  refine HAK.out.mono ?_
  rintro e w5 ⟨rfl, hb⟩
  have HE5 := Lib.hid (HE4.out.step hb)
  clear hb HAK HE4
  obtain ⟨_, _, _, _, x0, x1, x2, x3, x4, x5⟩ := HE5.out
  by_cases hA0 : A = 0
  rotate_left
  · have hd : (A != 0) = true := by simp; exact hA0
    clear hA0
    go_wp2_with fail
    go_ret
    exact ⟨rfl, HE5.out.bel⟩
  subst hA0
  obtain ⟨A, hA⟩ : ∃ A, askedM vd kd ds [] = A := ⟨_, rfl⟩
  have hak := lasked_any _ (fun _ => True) vd kd _ (.slice none 0 0) ds [] w5 HE5.out.cd (Ints.nil _ _) HI3.out HI4.out HFD.out.1
  rw [hA] at hak
  have HAK := Lib.hid hak
  have HAD := Lib.hid hA
  have hd0 : ((0 : Int) != 0) = false := by decide
  clear hak hA
  go_wp2_with fail
  clear x0 x1 x2 x3 x4 x5
  refine HAK.out.mono ?_
  rintro e w6 ⟨rfl, hb⟩
  have HE6 := Lib.hid (HE5.out.step hb)
  clear hb HAK HE5
  obtain ⟨_, _, _, _, x0, x1, x2, x3, x4, x5⟩ := HE6.out
  by_cases hA0 : A = 0
  rotate_left
  · have hd : (A != 0) = true := by simp; exact hA0
    clear hA0
    go_wp2_with fail
    go_ret
    exact ⟨rfl, HE6.out.bel⟩
  subst hA0
  obtain ⟨hkc, _, hk40⟩ := asked_ok HA.out
  obtain ⟨hkd, _, hd40⟩ := asked_ok HAD.out
  have hdm1 := check_dims hkc
  have hdm2 := check_dims hkd
  have hv9 := HFC.out.2.1 hkc
  have hw9 := HFD.out.2.1 hkd
  have HKC := Lib.hid hkc
  have HKD := Lib.hid hkd
  have hcn : cn ≤ 40 := by rw [HCN.out]; exact HFC.out.2.2.1
  have hdn : dn ≤ 40 := by rw [HDN.out]; exact HFD.out.2.2.1
  have hsum : wrap64 (vc + vd) = vc + vd := by unfold wrap64; omega
  have hksm : wrap64 (kc + kd) = kc + kd := by unfold wrap64; omega
  have hlsm : wrap64 ((cn : Int) + dn) = (cn : Int) + dn := by unfold wrap64; omega
  clear hkc hkd hk40 hd40
  by_cases hs9 : 9 < vc + vd
  · have hd : decide (9 < vc + vd) = true := decide_eq_true hs9
    go_wp2_with fail
    go_ret
    exact ⟨rfl, HE6.out.bel⟩
  have hds : decide (9 < vc + vd) = false := decide_eq_false hs9
  by_cases hs40 : (40 : Int) < (cn : Int) + dn
  · have hd : decide ((40 : Int) < (cn : Int) + dn) = true := decide_eq_true hs40
    go_wp2_with fail
    go_ret
    exact ⟨rfl, HE6.out.bel⟩
  have hdt : decide ((40 : Int) < (cn : Int) + dn) = false := decide_eq_false hs40
  obtain ⟨B, hB⟩ : ∃ b, w6.heap.size = b := ⟨_, rfl⟩
  obtain ⟨W8, hW8⟩ : ∃ W, w6.alloc (.cells #[.int .i64 (vc + vd), .int .i64 (kc + kd), .slice none 0 0] 24) = W := ⟨_, rfl⟩
  have hb8 : Below w6.heap.size w6 W8 := by rw [← hW8]; exact (Below.refl _ _).alloc (Nat.le_refl _) _
  have hr8 : W8.heap[B]? = some (.cells #[.int .i64 (vc + vd), .int .i64 (kc + kd), .slice none 0 0] 24) := by rw [← hW8]; exact new_at' _ _ hB.symm
  have HBO8 : Hid (BoO W8 B (vc + vd) (kc + kd) (.slice none 0 0) []) := Lib.hid ⟨by rw [cell_of_row _ _ _ _ _ _ hr8]; rfl, by rw [cell_of_row _ _ _ _ _ _ hr8]; rfl, by rw [cell_of_row _ _ _ _ _ _ hr8]; rfl, fun o => by simp only [World.frozen?, hr8]; simp, [], World.ownsRow_nil _ _ _ _, rfl, by simp⟩
  have HE8 := Lib.hid (HE6.out.step hb8)
  have HB8 : Hid (Below B w6 W8) := Lib.hid (by rw [← hB]; exact hb8)
  have HBE := Lib.hid hB
  have HC8 : Hid (Clss (fun b => b < B) W8 (.slice ca cn cc) cs) := Lib.hid (by rw [← hB]; exact (clss_lt HE6.out.cc).below hb8)
  have HD8 : Hid (Clss (fun b => b < B) W8 (.slice da dn dc) ds) := Lib.hid (by rw [← hB]; exact (clss_lt HE6.out.cd).below hb8)
  have hlc : bb < B := by rw [← hB]; exact block_lt x0
  have hld : bb + 1 < B := by rw [← hB]; exact block_lt x3
  have HDM : Hid (0 ≤ kc ∧ kc ≤ vc ∧ 0 ≤ kd ∧ kd ≤ vd ∧ vc ≤ 9 ∧ vd ≤ 9 ∧ vc + vd ≤ 9) := Lib.hid ⟨hdm1.1, hdm1.2, hdm2.1, hdm2.2, hv9, hw9, by omega⟩
  have HM1 := Lib.hid (moved_any _ cs kc 0 kd B (vc + vd) (kc + kd) _ [] W8 HC8.out HBO8.out ⟨by omega, by omega⟩ ⟨hdm2.1, by omega⟩ HFC.out.2.2.1 (by simp) HFC.out.2.2.2 (cn_of_check HKC.out).2)
  have HW8 := Lib.hid hW8
  clear hb8 hr8 hW8 hB
  go_upto_region 7 with fail
  rw [HW8.out, HBE.out]
  clear HW8 x0 x1 x2 x3 x4 x5
  obtain ⟨_, _, _, _, x0, x1, x2, x3, x4, x5⟩ := HE8.out
  go_wp2_with fail
  refine HM1.out.mono ?_
  rintro e w9 ⟨rfl, v9, hbo9, hb9⟩
  have HBO9 := Lib.hid hbo9
  have HB9 := Lib.hid hb9
  have HD9 : Hid (Clss (fun b => b < B) w9 (.slice da dn dc) ds) := Lib.hid (Rows1.move (fun _ _ _ _ _ h hm => h.move hm) HD8.out fun b hb _ => hb9.block b hb)
  have y0 := below_c hb9 hlc x0
  have y1 := below_c hb9 hlc x1
  have y3 := below_c hb9 hld x3
  have y4 := below_c hb9 hld x4
  have y5 := below_c hb9 hld x5
  have HM2 := Lib.hid (moved_any _ ds kd kc vc B (vc + vd) (kc + kd) v9 _ w9 HD9.out HBO9.out ⟨HDM.out.1, by have := HDM.out; omega⟩ ⟨by have := HDM.out; omega, by have := HDM.out; omega⟩ HFD.out.2.2.1 (by rw [List.nil_append]; unfold mvC; rw [List.length_map]; exact HFC.out.2.2.1) HFD.out.2.2.2 (cn_of_check HKD.out).2)
  clear hbo9 hb9 HM1 x0 x1 x2 x3 x4 x5
  go_wp2_with fail
  refine HM2.out.mono ?_
  rintro e wa ⟨rfl, va, hboa, hba⟩
  rw [List.nil_append] at hboa
  have HBOA : Hid (BoO wa B (vc + vd) (kc + kd) va (bothC vc kc kd cs ds)) := Lib.hid hboa
  have HBA : Hid (Below B w6 wa) := Lib.hid ((HB8.out.trans (HB9.out.mono (by have := HB8.out.size; have := HBE.out; omega))).trans (hba.mono (by have := HB8.out.size; have := HB9.out.size; have := HBE.out; omega)))
  obtain ⟨oa, on, oc, rfl⟩ : ∃ oa on oc, va = .slice oa on oc := by
    obtain ⟨_, _, _, _, us, ho, _⟩ := HBOA.out
    obtain ⟨oa, oc, e⟩ := own_form ho
    exact ⟨oa, _, oc, e⟩
  have hlb : (bothC vc kc kd cs ds).length ≤ 80 := by
    unfold bothC mvC
    rw [List.length_append, List.length_map, List.length_map, ← HCN.out, ← HDN.out]
    omega
  have hl14 : ∀ c ∈ bothC vc kc kd cs ds, c.length ≤ 14 := fun c hcm => by
    rcases List.mem_append.1 hcm with h1 | h1
    · obtain ⟨z, hz, rfl⟩ := List.mem_map.1 h1
      rw [List.length_map]
      exact HFC.out.2.2.2 z hz
    · obtain ⟨z, hz, rfl⟩ := List.mem_map.1 h1
      rw [List.length_map]
      exact HFD.out.2.2.2 z hz
  have HCA := Lib.hid (lcanonical_any _ _ _ wa (HBOA.out.clss (by omega)) (by omega) (fun c hcm => by have := hl14 c hcm; omega))
  have HSB : Hid (SzL (canM (bothC vc kc kd cs ds))) := Lib.hid ⟨Nat.le_trans (canM_ln _) (by omega), fun c hcm => Nat.le_trans (canM_eas hl14 hcm) (by omega)⟩
  obtain ⟨z0, z1, z2, zf, _⟩ := HBOA.out
  have hlB := block_lt z0
  have HZF := Lib.hid zf
  clear hboa hba HM2 HBO9 HD9 HB9 HBO8 HC8 HD8 HB8 HE8 y0 y1 y3 y4 y5 zf hlb hl14
  go_wp2_with fail
  refine HCA.out.mono ?_
  rintro e wb ⟨v3, rfl, hv3, hbb⟩
  obtain ⟨ra, rn, rc, rfl, _, _⟩ := hv3.form'
  have e0 := below_c hbb hlB z0
  have e1 := below_c hbb hlB z1
  have e2 := below_c hbb hlB z2
  have ez : wb.frozen? ⟨B, 2, none⟩ = false := (World.frozen?_of_block (a := ⟨B, 2, none⟩) (hbb.block B hlB)).trans (HZF.out 2)
  obtain ⟨Wc, hWc⟩ : ∃ W, wb.setCell ⟨B, 2, none⟩ (.slice ra rn rc) = W := ⟨_, rfl⟩
  have f0 : Wc.cell? ⟨B, 0, none⟩ = some (.int .i64 (vc + vd)) := by rw [← hWc]; exact set_ne (by omega) e0
  have f1 : Wc.cell? ⟨B, 1, none⟩ = some (.int .i64 (kc + kd)) := by rw [← hWc]; exact set_ne (by omega) e1
  have f2 : Wc.cell? ⟨B, 2, none⟩ = some (.slice ra rn rc) := by rw [← hWc]; exact set_eq e2
  have hvc : Clss (fun _ => True) Wc (.slice ra rn rc) (canM (bothC vc kc kd cs ds)) := by
    refine Rows1.mono (fun _ _ _ _ _ h hg => h.mono hg) (Rows1.move (fun _ _ _ _ _ h hm => h.move hm) hv3 fun b hb hlt => ?_) fun b hb => trivial
    have h1 : wa.heap.size ≤ b := hb
    rw [← hWc]
    exact Below.heap_setCell _ _ _ _ (by show b ≠ B; omega)
  have hbc : Below w6.heap.size w6 Wc := by
    rw [← hWc, HBE.out]
    exact (HBA.out.trans (hbb.mono (by omega))).setCell (Nat.le_refl _) _
  have HEC := Lib.hid (HE6.out.step hbc)
  have HVC := Lib.hid hvc
  have HCT := Lib.hid (pcount_any _ vc kc _ cs Wc HEC.out.cc HI1.out HI2.out HFC.out.1 HFC.out.2.1 HEC.out.tab)
  clear hbb hv3 HCA hvc hbc z0 z1 z2 HBOA HBA
  obtain ⟨_, _, _, _, x0, x1, x2, x3, x4, x5⟩ := HEC.out
  go_upto_region 10 with fail
  try rw [hWc]
  clear e0 e1 e2 ez hWc
  go_wp2_with fail
  refine HCT.out.mono ?_
  rintro e wd ⟨a, c, rfl, q1, q2, q3, hb⟩
  rw [HA.out] at q1
  subst q1
  have HQA := Lib.hid (q3 rfl)
  have HED := Lib.hid (HEC.out.step hb)
  have HVD := Lib.hid (HVC.out.below hb)
  have g0 := below_c hb (block_lt f0) f0
  have g1 := below_c hb (block_lt f0) f1
  have g2 := below_c hb (block_lt f0) f2
  have HCT2 := Lib.hid (pcount_any _ vd kd _ ds wd HED.out.cd HI3.out HI4.out HFD.out.1 HFD.out.2.1 HED.out.tab)
  clear hb q2 q3 HCT f0 f1 f2 x0 x1 x2 x3 x4 x5 HEC HVC
  obtain ⟨_, _, _, _, x0, x1, x2, x3, x4, x5⟩ := HED.out
  go_wp2_with fail
  refine HCT2.out.mono ?_
  rintro e we ⟨b, c, rfl, q1, q2, q3, hb⟩
  rw [HAD.out] at q1
  subst q1
  have HQB := Lib.hid (q3 rfl)
  have HEE := Lib.hid (HED.out.step hb)
  have HVE := Lib.hid (HVD.out.below hb)
  have f0 := below_c hb (block_lt g0) g0
  have f1 := below_c hb (block_lt g0) g1
  have f2 := below_c hb (block_lt g0) g2
  have HCT3 := Lib.hid (pcount_any _ (vc + vd) (kc + kd) _ _ we HVE.out (by have := HDM.out; unfold I64; omega) (by have := HDM.out; unfold I64; omega) HSB.out (fun _ => HDM.out.2.2.2.2.2.2) HEE.out.tab)
  clear hb q2 q3 HCT2 g0 g1 g2 x0 x1 x2 x3 x4 x5 HED HVD
  go_wp2_with fail
  refine HCT3.out.mono ?_
  rintro e wf ⟨p, c, rfl, q1, q2, q3, hb⟩
  have hck := check_both HKC.out HKD.out HDM.out.2.2.2.2.2.2 (show cs.length + ds.length ≤ 80 by rw [← HCN.out, ← HDN.out]; omega)
  rw [asked_of hck (by have := HDM.out; omega)] at q1
  subst q1
  have hp : p = a * b := by rw [q3 rfl, HQA.out, HQB.out]; exact cw_both HKC.out HKD.out
  have hpb := cwN_le (keep := kc + kd) (cs := canM (bothC vc kc kd cs ds)) (ls := []) (by have := HDM.out; omega)
  rw [← q3 rfl] at hpb
  have hmul : wrap64 (a * b) = p := by rw [← hp]; exact wrap64_id hpb
  have hpp : (p == wrap64 (a * b)) = true := by rw [hmul]; simp
  have HEF := Lib.hid (HEE.out.step hb)
  clear hb q2 q3 HCT3 hck hp hpb
  go_wp2_with fail
  go_ret
  exact ⟨rfl, HEF.out.bel⟩
end Go.Proofs.YthanfjpmcckbhaaGreatDoor
