/- (Trace seat) Plain: accepted claims have the projected count; walk: the statement TraceAgree. No condition. -/
import Derived.Test.YtihkknploioakaaVo
import Derived.Test.YtihkknploioakaaVq
namespace Go.Proofs.Ytihkknploioakaa
open Go.ChangeShapes Go.WideShapes Go.ChangeAt Go.RowKit
set_option linter.unusedVariables false

theorem acc_good {keep : Int} {ts : List Claim} (hall : ∀ i : Nat, i < ts.length → ccM keep ts i = 0) : ∀ (n i : Nat), i < n → i < ts.length → Good keep (ts.getD i clNil)
  | 0, i, h, _ => absurd h (Nat.not_lt_zero i)
  | n + 1, i, h, hi => by
    obtain ⟨_, _, _, hcan, h0, _, hk, hf⟩ := cc_count (hall i hi)
    refine fol_good (canB_cn hcan) (fun k hk' => ?_) h0 hf
    unfold kidsM at hk'
    obtain ⟨x, hx, rfl⟩ := List.mem_map.1 hk'
    have := hk x hx
    exact acc_good hall n x.toNat (by omega) (by omega)
theorem acc_tot {vars keep : Int} {cs : List (List Int)} {ts : List Claim} (h : tckM vars keep cs ts = 0) : totA vars keep cs ts = (Pc keep cs : Int) * 2 ^ (keep - (keptM keep (occM cs)).length).toNat := by
  obtain ⟨_, _, hpos, hall, hlast⟩ := tck_acc h
  have hg := acc_good hall ts.length (ts.length - 1) (by omega) (by omega)
  unfold totA totN
  rw [if_pos h, hg.2, hlast]
theorem agree {vars keep : Int} {cs : List (List Int)} {ts us : List Claim} (h1 : tckM vars keep cs ts = 0) (h2 : tckM vars keep cs us = 0) : totA vars keep cs ts = totA vars keep cs us := by
  rw [acc_tot h1, acc_tot h2]

set_option maxRecDepth 100000 in
set_option maxHeartbeats 8000000 in
theorem law_any (vars keep : Int) (cv tv uv : Value) (cs : List (List Int)) (ts us : List Claim) (w : World) (hc : Clss (fun _ => True) w cv cs) (hx : Claims (fun _ => True) w tv ts) (hy : Claims (fun _ => True) w uv us) (hiv : I64 vars) (hik : I64 keep) :
    Calls Try.prog 3 #[.agg #[.int .i64 vars, .int .i64 keep, cv], .agg #[tv], .agg #[uv]] w (KnPost w) := by
  obtain ⟨ca, cn, cc, rfl, _, _⟩ := hc.form'
  obtain ⟨ta, tn, tc, rfl, HTN, _⟩ := hx.form
  obtain ⟨ua, un, uc, rfl, HUN, _⟩ := hy.form
  obtain ⟨bb, hbb⟩ : ∃ b, w.heap.size = b := ⟨_, rfl⟩
  obtain ⟨W1, hW1⟩ : ∃ W, ((w.alloc (.cells #[.int .i64 vars, .int .i64 keep, .slice ca cn cc] 24)).alloc (.cells #[.slice ta tn tc] 27)).alloc (.cells #[.slice ua un uc] 27) = W := ⟨_, rfl⟩
  have hb1 : Below w.heap.size w W1 := by rw [← hW1]; exact (((Below.refl _ _).alloc (Nat.le_refl _) _).alloc (by simp) _).alloc (by simp <;> omega) _
  have hs1 : W1.heap.size = bb + 1 + 1 + 1 := by rw [← hW1]; simp; omega
  have hr0 : W1.heap[bb]? = some (.cells #[.int .i64 vars, .int .i64 keep, .slice ca cn cc] 24) := by rw [← hW1]; exact old_at _ _ _ (old_at _ _ _ (new_at' _ _ hbb.symm))
  have hr1 : W1.heap[bb + 1]? = some (.cells #[.slice ta tn tc] 27) := by rw [← hW1]; exact old_at _ _ _ (new_at' _ _ (by simp; omega))
  have hr2 : W1.heap[bb + 1 + 1]? = some (.cells #[.slice ua un uc] 27) := by rw [← hW1]; exact new_at' _ _ (by simp; omega)
  have c0 : W1.cell? ⟨bb, 0, none⟩ = some (.int .i64 vars) := by rw [cell_of_row _ _ _ _ _ _ hr0]; rfl
  have c1 : W1.cell? ⟨bb, 1, none⟩ = some (.int .i64 keep) := by rw [cell_of_row _ _ _ _ _ _ hr0]; rfl
  have c2 : W1.cell? ⟨bb, 2, none⟩ = some (.slice ca cn cc) := by rw [cell_of_row _ _ _ _ _ _ hr0]; rfl
  have t0 : W1.cell? ⟨bb + 1, 0, none⟩ = some (.slice ta tn tc) := by rw [cell_of_row _ _ _ _ _ _ hr1]; rfl
  have s0 : W1.cell? ⟨bb + 1 + 1, 0, none⟩ = some (.slice ua un uc) := by rw [cell_of_row _ _ _ _ _ _ hr2]; rfl
  have hc1 := Clss.below hc hb1
  have hx1 := hx.below hb1
  have hy1 := hy.below hb1
  have HC := Lib.hid hc1
  have HX := Lib.hid hx1
  have HY := Lib.hid hy1
  have HB1 := Lib.hid hb1
  have HIV := Lib.hid hiv
  have HIK := Lib.hid hik
  have HKN := Lib.hid (known_any W1)
  clear hc hx hy hc1 hx1 hy1 hr0 hr1 hr2 hb1 hiv hik
  go_enter Try.func3, Try.ntmps3
  go_wp2_with fail
  try rw [hW1]
  clear hW1 hbb
  refine HKN.out.mono ?_
  rintro e w2 ⟨rfl, hb2⟩
  have HB2 := Lib.hid (HB1.out.trans (hb2.mono HB1.out.size))
  have HC2 := Lib.hid (Clss.below HC.out hb2)
  have HX2 := Lib.hid (HX.out.below hb2)
  have HY2 := Lib.hid (HY.out.below hb2)
  have y0 := below_c hb2 (by omega) c0
  have y1 := below_c hb2 (by omega) c1
  have y2 := below_c hb2 (by omega) c2
  have yt := below_c hb2 (by omega) t0
  have yu := below_c hb2 (by omega) s0
  have hs2 := hb2.size
  clear hb2 HKN HB1 HC HX HY c0 c1 c2 t0 s0
  have HF := Lib.hid (few_any _ ts w2 HX2.out)
  go_wp2_with fail
  refine HF.out.mono ?_
  rintro e w3 ⟨B1, rfl, hb3, hB1⟩
  have HB3 := Lib.hid (HB2.out.trans (hb3.mono HB2.out.size))
  have HC3 := Lib.hid (Clss.below HC2.out hb3)
  have HX3 := Lib.hid (HX2.out.below hb3)
  have HY3 := Lib.hid (HY2.out.below hb3)
  have z0 := below_c hb3 (by omega) y0
  have z1 := below_c hb3 (by omega) y1
  have z2 := below_c hb3 (by omega) y2
  have zt := below_c hb3 (by omega) yt
  have zu := below_c hb3 (by omega) yu
  have hs3 := hb3.size
  have HBT := Lib.hid hB1
  clear hb3 HF HB2 HC2 HX2 HY2 y0 y1 y2 yt yu hB1
  rcases bool2 B1 with rfl | rfl
  rotate_left
  · go_wp2_with fail
    go_ret
    exact ⟨rfl, HB3.out⟩
  obtain ⟨ht1, ht2⟩ := HBT.out rfl
  have HF := Lib.hid (few_any _ us w3 HY3.out)
  go_wp2_with fail
  refine HF.out.mono ?_
  rintro e w4 ⟨B2, rfl, hb4, hB2⟩
  have HB4 := Lib.hid (HB3.out.trans (hb4.mono HB3.out.size))
  have HC4 := Lib.hid (Clss.below HC3.out hb4)
  have HX4 := Lib.hid (HX3.out.below hb4)
  have HY4 := Lib.hid (HY3.out.below hb4)
  have y0 := below_c hb4 (by omega) z0
  have y1 := below_c hb4 (by omega) z1
  have y2 := below_c hb4 (by omega) z2
  have yt := below_c hb4 (by omega) zt
  have yu := below_c hb4 (by omega) zu
  have hs4 := hb4.size
  have HBU := Lib.hid hB2
  have HT1 := Lib.hid ht1
  have HT2 := Lib.hid ht2
  clear hb4 HF HB3 HC3 HX3 HY3 z0 z1 z2 zt zu hB2 HBT ht1 ht2
  rcases bool2 B2 with rfl | rfl
  rotate_left
  · go_wp2_with fail
    go_ret
    exact ⟨rfl, HB4.out⟩
  obtain ⟨hu1, hu2⟩ := HBU.out rfl
  have HF := Lib.hid (short_any _ vars keep _ cs w4 HC4.out)
  have HU1 := Lib.hid hu1
  have HU2 := Lib.hid hu2
  clear HBU hu1 hu2
  go_wp2_with fail
  refine HF.out.mono ?_
  rintro e w5 ⟨B3, rfl, hb5, hB3⟩
  have HB5 := Lib.hid (HB4.out.trans (hb5.mono HB4.out.size))
  have HC5 := Lib.hid (Clss.below HC4.out hb5)
  have HX5 := Lib.hid (HX4.out.below hb5)
  have HY5 := Lib.hid (HY4.out.below hb5)
  have z0 := below_c hb5 (by omega) y0
  have z1 := below_c hb5 (by omega) y1
  have z2 := below_c hb5 (by omega) y2
  have zt := below_c hb5 (by omega) yt
  have zu := below_c hb5 (by omega) yu
  have hs5 := hb5.size
  have HBS := Lib.hid hB3
  clear hb5 HF HB4 HC4 HX4 HY4 y0 y1 y2 yt yu hB3
  rcases bool2 B3 with rfl | rfl
  rotate_left
  · go_wp2_with fail
    go_ret
    exact ⟨rfl, HB5.out⟩
  obtain ⟨hc1, hc2⟩ := HBS.out rfl
  have HF := Lib.hid (total_any _ vars keep _ _ cs ts w5 HC5.out HX5.out HIV.out HIK.out HT2.out (by have := HT1.out; omega) (by omega) (fun x hx => by have := hc2 x hx; omega))
  have HC1 := Lib.hid hc1
  have HC2 := Lib.hid hc2
  clear HBS hc1 hc2
  obtain ⟨N1, hN1⟩ : ∃ n, totA vars keep cs ts = n := ⟨_, rfl⟩
  obtain ⟨E1, hE1⟩ : ∃ n, tckM vars keep cs ts = n := ⟨_, rfl⟩
  obtain ⟨N2, hN2⟩ : ∃ n, totA vars keep cs us = n := ⟨_, rfl⟩
  obtain ⟨E2, hE2⟩ : ∃ n, tckM vars keep cs us = n := ⟨_, rfl⟩
  have HAG : Hid (E1 = 0 → E2 = 0 → N1 = N2) := Lib.hid (fun h1 h2 => by rw [← hN1, ← hN2]; exact agree (hE1.trans h1) (hE2.trans h2))
  rw [hN1, hE1] at HF
  have HN2 := Lib.hid hN2
  have HE2 := Lib.hid hE2
  clear hN1 hE1 hN2 hE2
  go_wp2_with fail
  refine HF.out.mono ?_
  rintro e w6 ⟨rfl, hb6⟩
  have HB6 := Lib.hid (HB5.out.trans (hb6.mono HB5.out.size))
  have HC6 := Lib.hid (Clss.below HC5.out hb6)
  have HY6 := Lib.hid (HY5.out.below hb6)
  have y0 := below_c hb6 (by omega) z0
  have y1 := below_c hb6 (by omega) z1
  have y2 := below_c hb6 (by omega) z2
  have yu := below_c hb6 (by omega) zu
  clear hb6 HF HB5 HC5 HX5 HY5 z0 z1 z2 zt zu
  have HF := Lib.hid (total_any _ vars keep _ _ cs us w6 HC6.out HY6.out HIV.out HIK.out HU2.out (by have := HU1.out; omega) (by have := HC1.out; omega) (fun x hx => by have := HC2.out x hx; omega))
  rw [HN2.out, HE2.out] at HF
  go_wp2_with fail
  refine HF.out.mono ?_
  rintro e w7 ⟨rfl, hb7⟩
  have HB7 := Lib.hid (HB6.out.trans (hb7.mono HB6.out.size))
  clear hb7 HF
  by_cases q1 : E1 = 0
  · by_cases q2 : E2 = 0
    · have hag := HAG.out q1 q2
      subst q1 q2 hag
      go_wp2_with fail
      go_ret
      exact ⟨by simp, HB7.out⟩
    · have d2 : (E2 != 0) = true := by simp; exact q2
      subst q1
      go_wp2_with fail
      go_ret
      exact ⟨by simp, HB7.out⟩
  · have d1 : (E1 != 0) = true := by simp; exact q1
    go_wp2_with fail
    go_ret
    exact ⟨by simp, HB7.out⟩
end Go.Proofs.Ytihkknploioakaa
