/- (Trace seat) Walk: the statement TracePrunes. No condition. -/
import Derived.Test.YtpikkkiepafelaaGreatVo
import Derived.Test.YtpikkkiepafelaaGreatPw
import Derived.Test.YtpikkkiepafelaaGreatPe
namespace Go.Proofs.YtpikkkiepafelaaGreat
open Go.ChangeShapes Go.WideShapes Go.ChangeAt Go.RowKit
set_option linter.unusedVariables false
set_option linter.unusedSimpArgs false

theorem sel_mem : ∀ {ts : List Claim} {M : List Bool} {c : Claim}, c ∈ sel ts M → c ∈ ts
  | [], [], c, h => by simp [sel] at h
  | [], _ :: _, c, h => by simp [sel] at h
  | _ :: _, [], c, h => by simp [sel] at h
  | x :: r, m :: mr, c, h => by
    rw [sel] at h
    split at h
    · rcases List.mem_cons.1 h with h | h
      · exact h ▸ List.mem_cons_self ..
      · exact List.mem_cons_of_mem _ (sel_mem h)
    · exact List.mem_cons_of_mem _ (sel_mem h)
theorem prn_sz {ts : List Claim} (h : ∀ c ∈ ts, SzC c) (hl : ts.length ≤ 4000) : (∀ c ∈ prnM ts, SzC c) ∧ (prnM ts).length ≤ 4000 := by
  by_cases ho : okGo ts 0 = true
  · refine ⟨fun c hc => ?_, ?_⟩
    · rw [prnM_eq ho] at hc
      obtain ⟨d, hd, rfl⟩ := List.mem_map.1 hc
      obtain ⟨h1, h2, h3⟩ := h d (sel_mem hd)
      exact ⟨h1, h2, by simpa [renF] using h3⟩
    · rw [prn_len ho]
      have := rank_le (marksM ts) ts.length
      omega
  · have : prnM ts = ts := by unfold prnM; rw [if_pos (by simpa using ho)]
    rw [this]
    exact ⟨h, hl⟩
theorem prn_tot {vars keep : Int} {cs : List (List Int)} {ts : List Claim} (h : tckM vars keep cs ts = 0) : tckM vars keep cs (prnM ts) = 0 ∧ totA vars keep cs (prnM ts) = totA vars keep cs ts := by
  obtain ⟨h1, h2⟩ := prn_acc h
  exact ⟨h1, by unfold totA; rw [if_pos h1, if_pos h, h2]⟩

set_option maxRecDepth 100000 in
set_option maxHeartbeats 8000000 in
theorem law_any (vars keep : Int) (cv tv : Value) (cs : List (List Int)) (ts : List Claim) (w : World) (hc : Clss (fun _ => True) w cv cs) (hx : Claims (fun _ => True) w tv ts) (hiv : I64 vars) (hik : I64 keep) :
    Calls Tryz.prog 3 #[.agg #[.int .i64 vars, .int .i64 keep, cv], .agg #[tv]] w (KnPost w) := by
  obtain ⟨ca, cn, cc, rfl, _, _⟩ := hc.form'
  obtain ⟨ta, tn, tc, rfl, HTN, _⟩ := hx.form
  obtain ⟨bb, hbb⟩ : ∃ b, w.heap.size = b := ⟨_, rfl⟩
  obtain ⟨W1, hW1⟩ : ∃ W, (w.alloc (.cells #[.int .i64 vars, .int .i64 keep, .slice ca cn cc] 24)).alloc (.cells #[.slice ta tn tc] 27) = W := ⟨_, rfl⟩
  have hb1 : Below w.heap.size w W1 := by rw [← hW1]; exact ((Below.refl _ _).alloc (Nat.le_refl _) _).alloc (by simp) _
  have hs1 : W1.heap.size = bb + 1 + 1 := by rw [← hW1]; simp; omega
  have hr0 : W1.heap[bb]? = some (.cells #[.int .i64 vars, .int .i64 keep, .slice ca cn cc] 24) := by rw [← hW1]; exact old_at _ _ _ (new_at' _ _ hbb.symm)
  have hr1 : W1.heap[bb + 1]? = some (.cells #[.slice ta tn tc] 27) := by rw [← hW1]; exact new_at' _ _ (by simp; omega)
  have c0 : W1.cell? ⟨bb, 0, none⟩ = some (.int .i64 vars) := by rw [cell_of_row _ _ _ _ _ _ hr0]; rfl
  have c1 : W1.cell? ⟨bb, 1, none⟩ = some (.int .i64 keep) := by rw [cell_of_row _ _ _ _ _ _ hr0]; rfl
  have c2 : W1.cell? ⟨bb, 2, none⟩ = some (.slice ca cn cc) := by rw [cell_of_row _ _ _ _ _ _ hr0]; rfl
  have t0 : W1.cell? ⟨bb + 1, 0, none⟩ = some (.slice ta tn tc) := by rw [cell_of_row _ _ _ _ _ _ hr1]; rfl
  have hc1 := Clss.below hc hb1
  have hx1 := hx.below hb1
  have HC := Lib.hid hc1
  have HX := Lib.hid hx1
  have HB1 := Lib.hid hb1
  have HIV := Lib.hid hiv
  have HIK := Lib.hid hik
  have HKN := Lib.hid (known_any W1)
  clear hc hx hc1 hx1 hr0 hr1 hb1 hiv hik
  go_enter Tryz.func3, Tryz.ntmps3
  go_wp2_with fail
  try rw [hW1]
  clear hW1 hbb
  refine HKN.out.mono ?_
  rintro e w2 ⟨rfl, hb2⟩
  have HB2 := Lib.hid (HB1.out.trans (hb2.mono HB1.out.size))
  have HC2 := Lib.hid (Clss.below HC.out hb2)
  have HX2 := Lib.hid (HX.out.below hb2)
  have y0 := below_c hb2 (by omega) c0
  have y1 := below_c hb2 (by omega) c1
  have y2 := below_c hb2 (by omega) c2
  have yt := below_c hb2 (by omega) t0
  have hs2 := hb2.size
  clear hb2 HKN HB1 HC HX c0 c1 c2 t0
  have HF := Lib.hid (few_any _ ts w2 HX2.out)
  go_wp2_with fail
  refine HF.out.mono ?_
  rintro e w3 ⟨B1, rfl, hb3, hB1⟩
  have HB3 := Lib.hid (HB2.out.trans (hb3.mono HB2.out.size))
  have HC3 := Lib.hid (Clss.below HC2.out hb3)
  have HX3 := Lib.hid (HX2.out.below hb3)
  have z0 := below_c hb3 (by omega) y0
  have z1 := below_c hb3 (by omega) y1
  have z2 := below_c hb3 (by omega) y2
  have zt := below_c hb3 (by omega) yt
  have hs3 := hb3.size
  have HBT := Lib.hid hB1
  clear hb3 HF HB2 HC2 HX2 y0 y1 y2 yt hB1
  rcases bool2 B1 with rfl | rfl
  rotate_left
  · go_wp2_with fail
    go_ret
    exact ⟨rfl, HB3.out⟩
  obtain ⟨ht1, ht2⟩ := HBT.out rfl
  have HF := Lib.hid (short_any _ vars keep _ cs w3 HC3.out)
  have HT1 := Lib.hid ht1
  have HT2 := Lib.hid ht2
  clear HBT ht1 ht2
  go_wp2_with fail
  refine HF.out.mono ?_
  rintro e w5 ⟨B3, rfl, hb5, hB3⟩
  have HB5 := Lib.hid (HB3.out.trans (hb5.mono HB3.out.size))
  have HC5 := Lib.hid (Clss.below HC3.out hb5)
  have HX5 := Lib.hid (HX3.out.below hb5)
  have y0 := below_c hb5 (by omega) z0
  have y1 := below_c hb5 (by omega) z1
  have y2 := below_c hb5 (by omega) z2
  have yt := below_c hb5 (by omega) zt
  have hs5 := hb5.size
  have HBS := Lib.hid hB3
  clear hb5 HF HB3 HC3 HX3 z0 z1 z2 zt hB3
  rcases bool2 B3 with rfl | rfl
  rotate_left
  · go_wp2_with fail
    go_ret
    exact ⟨rfl, HB5.out⟩
  obtain ⟨hc1, hc2⟩ := HBS.out rfl
  have HC1 := Lib.hid hc1
  have HC2 := Lib.hid hc2
  clear HBS hc1 hc2
  have hts4 : ts.length ≤ 4000 := by have := HT1.out; omega
  obtain ⟨hps, hpl⟩ := prn_sz HT2.out hts4
  have HPS := Lib.hid hps
  have HPL := Lib.hid hpl
  have HT4 := Lib.hid hts4
  have HP := Lib.hid (prune_any _ ts w5 HX5.out HT2.out hts4)
  clear hps hpl hts4
  go_wp2_with fail
  refine HP.out.mono ?_
  rintro e w6 ⟨pv, rfl, hpv, hb6⟩
  obtain ⟨pa, pn, pc, rfl, _, _⟩ := hpv.form
  obtain ⟨U, hU⟩ : ∃ g, w6.heap.size = g := ⟨_, rfl⟩
  obtain ⟨W6, hW6⟩ : ∃ W, w6.alloc (.cells #[.slice pa pn pc] 27) = W := ⟨_, rfl⟩
  have hb7 : Below w6.heap.size w6 W6 := by rw [← hW6]; exact (Below.refl _ _).alloc (Nat.le_refl _) _
  have hr6 : W6.heap[U]? = some (.cells #[.slice pa pn pc] 27) := by rw [← hW6]; exact new_at' _ _ hU.symm
  have u0 : W6.cell? ⟨U, 0, none⟩ = some (.slice pa pn pc) := by rw [cell_of_row _ _ _ _ _ _ hr6]; rfl
  have hb67 := hb6.trans (hb7.mono hb6.size)
  have HB6 := Lib.hid (HB5.out.trans (hb67.mono HB5.out.size))
  have HC6 := Lib.hid (Clss.below HC5.out hb67)
  have HX6 := Lib.hid (HX5.out.below hb67)
  have HU6 := Lib.hid (hpv.below hb7)
  have z0 := below_c hb67 (by omega) y0
  have z1 := below_c hb67 (by omega) y1
  have z2 := below_c hb67 (by omega) y2
  have zt := below_c hb67 (by omega) yt
  have hs6 := hb67.size
  have HUU := Lib.hid hU
  have HW6 := Lib.hid hW6
  clear hb6 hb7 hb67 hpv hr6 HP HB5 HC5 HX5 y0 y1 y2 yt hU hW6
  go_upto_region 6 with fail
  try rw [HW6.out, HUU.out]
  clear HW6
  have HPD : Hid (∀ W, Below W6.heap.size W6 W → Calls Tryz.prog 9 #[.agg #[.slice ta tn tc]] W (TrcPost W (prnM ts))) := Lib.hid fun W hW => pruned_any _ ts W (HX6.out.below hW) HT2.out HT4.out
  have HL : Hid (Below W6.heap.size W6 W6.drew) := Lib.hid (Below.refl _ _).drew
  have uu := u0
  have zu := zt
  refine wp_region_held_drew (S := fun w' => w'.cell? ⟨U, 0, none⟩ = some (.slice pa pn pc) ∧ w'.cell? ⟨bb + 1, 0, none⟩ = some (.slice ta tn tc)) (by kernel_rfl) (by exact ⟨u0, zt⟩) (fun hHeld => ?_)
  refine wpAnyH_take (i := 0) (v := ?_) rfl (by kernel_rfl) (by kernel_rfl) (by kernel_rfl) (fun _ _ _ h => h) (Or.inl ⟨by rfl, ?_⟩) (by assumption) ?_
  rotate_left
  · intro w hSw
    try dsimp only at hSw
    go_simp
    try with_reducible rfl
  try simp only [Act.put, List.getElem_toArray, List.getElem_cons_succ, List.getElem_cons_zero, List.setIfInBounds_toArray, List.set_cons_zero, List.set_cons_succ]
  refine wpAnyH_take (i := 1) (v := ?_) rfl (by kernel_rfl) (by kernel_rfl) (by kernel_rfl) (fun _ _ _ h => h) (Or.inl ⟨by rfl, ?_⟩) (by assumption) ?_
  rotate_left
  · intro w hSw
    try dsimp only at hSw
    go_simp
    try with_reducible rfl
  try simp only [Act.put, List.getElem_toArray, List.getElem_cons_succ, List.getElem_cons_zero, List.setIfInBounds_toArray, List.set_cons_zero, List.set_cons_succ]
  refine wpAnyH_ready (rs := [2]) (by kernel_rfl) (by simp) ?_
  refine AllReadyH.cons rfl (fun K hK => ?_) AllReadyH.nil
  go_simp
  go_at_call 9
  (with_reducible refine (HPD.out _ HL.out).mono ?_)
  rintro e w7 ⟨qv, rfl, hqv, hbn⟩
  obtain ⟨qa, qn, qc, rfl, _, _⟩ := hqv.form
  have HL := Lib.hid (HL.out.trans (hbn.mono HL.out.size))
  have u0 := below_c HL.out (block_lt uu) uu
  have zt := below_c HL.out (block_lt zu) zu
  have HQ := Lib.hid hqv
  clear hbn hqv
  go_wp2_with fail
  refine hK.out _ _ (by exact ⟨u0, zt⟩) (fun _ => ?_)
  clear hK K
  try simp only [Act.put, List.getElem_toArray, List.getElem_cons_succ, List.getElem_cons_zero, List.setIfInBounds_toArray, List.set_cons_zero, List.set_cons_succ]
  refine wpAnyH_ready (rs := [3]) (by kernel_rfl) (by simp) ?_
  refine AllReadyH.cons rfl (fun K hK => ?_) AllReadyH.nil
  go_simp
  go_at_call 8
  (with_reducible refine (teq_any _ _ _ _ w7 (HU6.out.below HL.out) HQ.out).mono ?_)
  rintro e w8 ⟨rfl, hbn⟩
  rw [tEqB_refl]
  have HL := Lib.hid (HL.out.trans (hbn.mono HL.out.size))
  have u0 := below_c HL.out (block_lt uu) uu
  have zt := below_c HL.out (block_lt zu) zu
  clear hbn HQ
  go_wp2_with fail
  refine hK.out _ _ (by exact ⟨u0, zt⟩) (fun _ => ?_)
  clear hK K
  try simp only [Act.put, List.getElem_toArray, List.getElem_cons_succ, List.getElem_cons_zero, List.setIfInBounds_toArray, List.set_cons_zero, List.set_cons_succ]
  refine wpAnyH_take (i := 4) (v := ?_) rfl (by kernel_rfl) (by kernel_rfl) (by kernel_rfl) (fun _ _ _ h => h) (Or.inl ⟨by rfl, ?_⟩) (by assumption) ?_
  rotate_left
  · intro w hSw
    try dsimp only at hSw
    go_simp
    try with_reducible rfl
  try simp only [Act.put, List.getElem_toArray, List.getElem_cons_succ, List.getElem_cons_zero, List.setIfInBounds_toArray, List.set_cons_zero, List.set_cons_succ]
  refine wpAnyH_take (i := 5) (v := ?_) rfl (by kernel_rfl) (by kernel_rfl) (by kernel_rfl) (fun _ _ _ h => h) (Or.inl ⟨by rfl, ?_⟩) (by assumption) ?_
  rotate_left
  · intro w hSw
    try dsimp only at hSw
    go_simp
    try with_reducible rfl
  try simp only [Act.put, List.getElem_toArray, List.getElem_cons_succ, List.getElem_cons_zero, List.setIfInBounds_toArray, List.set_cons_zero, List.set_cons_succ]
  refine wpAnyH_take (i := 6) (v := ?_) rfl (by kernel_rfl) (by kernel_rfl) (by kernel_rfl) (fun _ _ _ h => h) (Or.inl ⟨by rfl, ?_⟩) (by assumption) ?_
  rotate_left
  · intro w hSw
    try dsimp only at hSw
    go_simp
    try with_reducible rfl
  try simp only [Act.put, List.getElem_toArray, List.getElem_cons_succ, List.getElem_cons_zero, List.setIfInBounds_toArray, List.set_cons_zero, List.set_cons_succ]
  refine wpAnyH_take (i := 8) (v := ?_) rfl (by kernel_rfl) (by kernel_rfl) (by kernel_rfl) (fun _ _ _ h => h) (Or.inl ⟨by rfl, ?_⟩) (by assumption) ?_
  rotate_left
  · intro w hSw
    try dsimp only at hSw
    go_simp
    try with_reducible rfl
  try simp only [Act.put, List.getElem_toArray, List.getElem_cons_succ, List.getElem_cons_zero, List.setIfInBounds_toArray, List.set_cons_zero, List.set_cons_succ]
  refine wpAnyH_ready (rs := [7]) (by kernel_rfl) (by simp) ?_
  refine AllReadyH.cons rfl (fun K hK => ?_) AllReadyH.nil
  go_simp
  go_at_call 7
  (with_reducible refine (prune_any _ _ w8 ((HU6.out.below HL.out).mono fun _ _ => trivial) HPS.out HPL.out).mono ?_)
  rintro e w9 ⟨rv, rfl, hrv, hbn⟩
  rw [prn_prn] at hrv
  obtain ⟨ra, rn, rc, rfl, _, _⟩ := hrv.form
  have HL := Lib.hid (HL.out.trans (hbn.mono HL.out.size))
  have u0 := below_c HL.out (block_lt uu) uu
  have zt := below_c HL.out (block_lt zu) zu
  have HRV := Lib.hid hrv
  clear hbn hrv
  go_wp2_with fail
  refine hK.out _ _ (by exact ⟨u0, zt⟩) (fun _ => ?_)
  clear hK K
  try simp only [Act.put, List.getElem_toArray, List.getElem_cons_succ, List.getElem_cons_zero, List.setIfInBounds_toArray, List.set_cons_zero, List.set_cons_succ]
  refine wpAnyH_ready (rs := [9]) (by kernel_rfl) (by simp) ?_
  refine AllReadyH.cons rfl (fun K hK => ?_) AllReadyH.nil
  go_simp
  go_at_call 8
  (with_reducible refine (teq_any _ _ _ _ w9 HRV.out (HU6.out.below HL.out)).mono ?_)
  rintro e w10 ⟨rfl, hbn⟩
  rw [tEqB_refl]
  have HL := Lib.hid (HL.out.trans (hbn.mono HL.out.size))
  have u0 := below_c HL.out (block_lt uu) uu
  have zt := below_c HL.out (block_lt zu) zu
  clear hbn HRV
  go_wp2_with fail
  refine hK.out _ _ (by exact ⟨u0, zt⟩) (fun _ => ?_)
  clear hK K
  try simp only [Act.put, List.getElem_toArray, List.getElem_cons_succ, List.getElem_cons_zero, List.setIfInBounds_toArray, List.set_cons_zero, List.set_cons_succ]
  refine wpAnyH_take (i := 10) (v := ?_) rfl (by kernel_rfl) (by kernel_rfl) (by kernel_rfl) (fun _ _ _ h => h) (Or.inl ⟨by rfl, ?_⟩) (by assumption) ?_
  rotate_left
  · intro w hSw
    try dsimp only at hSw
    go_simp
    try with_reducible rfl
  try simp only [Act.put, List.getElem_toArray, List.getElem_cons_succ, List.getElem_cons_zero, List.setIfInBounds_toArray, List.set_cons_zero, List.set_cons_succ]
  refine wpAnyH_take (i := 11) (v := ?_) rfl (by kernel_rfl) (by kernel_rfl) (by kernel_rfl) (fun _ _ _ h => h) (Or.inl ⟨by rfl, ?_⟩) (by assumption) ?_
  rotate_left
  · intro w hSw
    try dsimp only at hSw
    go_simp
    try with_reducible rfl
  try simp only [Act.put, List.getElem_toArray, List.getElem_cons_succ, List.getElem_cons_zero, List.setIfInBounds_toArray, List.set_cons_zero, List.set_cons_succ]
  refine wpAnyH_done (by kernel_rfl) ?_ _
  have HB9 : Hid (Below w.heap.size w w10) := Lib.hid (HB6.out.trans (HL.out.mono HB6.out.size))
  have HC9 := Lib.hid (Clss.below HC6.out HL.out)
  have HX9 := Lib.hid (HX6.out.below HL.out)
  have HU9 := Lib.hid (HU6.out.below HL.out)
  have y0 := below_c HL.out (block_lt z0) z0
  have y1 := below_c HL.out (block_lt z1) z1
  have y2 := below_c HL.out (block_lt z2) z2
  have yt := below_c HL.out (block_lt zu) zu
  have v0 := below_c HL.out (block_lt uu) uu
  clear HB6 HC6 HX6 HU6 z0 z1 z2 zt u0 zu uu HL
  obtain ⟨N1, hN1⟩ : ∃ n, totA vars keep cs ts = n := ⟨_, rfl⟩
  obtain ⟨E1, hE1⟩ : ∃ n, tckM vars keep cs ts = n := ⟨_, rfl⟩
  obtain ⟨N2, hN2⟩ : ∃ n, totA vars keep cs (prnM ts) = n := ⟨_, rfl⟩
  obtain ⟨E2, hE2⟩ : ∃ n, tckM vars keep cs (prnM ts) = n := ⟨_, rfl⟩
  have HF := Lib.hid (total_any _ vars keep _ _ cs ts _ HC9.out HX9.out HIV.out HIK.out HT2.out HT4.out (by have := HC1.out; omega) (fun x hx => by have := HC2.out x hx; omega))
  rw [hN1, hE1] at HF
  have HN : Hid (E1 = 0 → E2 = 0 ∧ N2 = N1) := Lib.hid (by rw [← hE1, ← hE2, ← hN1, ← hN2]; exact prn_tot)
  have HN2 := Lib.hid hN2
  have HE2 := Lib.hid hE2
  clear hN1 hE1 hN2 hE2
  go_wp2_with fail
  refine HF.out.mono ?_
  rintro e wa ⟨rfl, hba⟩
  have HBA := Lib.hid (HB9.out.trans (hba.mono HB9.out.size))
  have HCA := Lib.hid (Clss.below HC9.out hba)
  have HUA := Lib.hid (HU9.out.below hba)
  have x0 := below_c hba (block_lt y0) y0
  have x1 := below_c hba (block_lt y1) y1
  have x2 := below_c hba (block_lt y2) y2
  have xv := below_c hba (block_lt v0) v0
  clear hba HF HB9 HC9 HX9 HU9 y0 y1 y2 yt v0
  have HF := Lib.hid (total_any _ vars keep _ _ cs (prnM ts) wa HCA.out HUA.out HIV.out HIK.out HPS.out HPL.out (by have := HC1.out; omega) (fun x hx => by have := HC2.out x hx; omega))
  rw [HN2.out, HE2.out] at HF
  go_wp2_with fail
  refine HF.out.mono ?_
  rintro e wb ⟨rfl, hbb⟩
  have HBB := Lib.hid (HBA.out.trans (hbb.mono HBA.out.size))
  clear hbb HF HBA HCA HUA x0 x1 x2 xv
  by_cases q1 : E1 = 0
  rotate_left
  · have d1 : (E1 != 0) = true := by simp; exact q1
    clear HN HN2 HE2
    go_wp2_with fail
    go_ret
    exact ⟨rfl, HBB.out⟩
  obtain ⟨q2, q3⟩ := HN.out q1
  subst q1 q2 q3
  go_wp2_with fail
  go_ret
  exact ⟨by simp, HBB.out⟩
end Go.Proofs.YtpikkkiepafelaaGreat
