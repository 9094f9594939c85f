/- (Trace seat Z) Walk: the statement TraceSound. No condition. -/
import Derived.Test.YtihkknploioakaaGreatVo
import Derived.Test.YtihkknploioakaaGreatVv
import Derived.Test.YtihkknploioakaaGreatQk
import Derived.Test.YtihkknploioakaaGreatNh
namespace Go.Proofs.YtihkknploioakaaGreat
open Go.ChangeShapes Go.WideShapes Go.ChangeAt Go.RowKit
set_option linter.unusedVariables false

set_option maxRecDepth 100000 in
set_option maxHeartbeats 8000000 in
theorem law_any (vars keep : Int) (cv tv : Value) (cs : List (List Int)) (ts : List Claim) (w : World) (hc : Clss (fun _ => True) w cv cs) (hx : Claims (fun _ => True) w tv ts) (hiv : I64 vars) (hik : I64 keep) :
    Calls Tryz.prog 4 #[.agg #[.int .i64 vars, .int .i64 keep, cv], .agg #[tv]] w (KnPost w) := by
  obtain ⟨ca, cn, cc, rfl, _, _⟩ := hc.form'
  obtain ⟨ta, tn, tc, rfl, HTN, _⟩ := hx.form
  obtain ⟨bb, hbb⟩ : ∃ b, w.heap.size = b := ⟨_, rfl⟩
  obtain ⟨W1, hW1⟩ : ∃ W, (w.alloc (.cells #[.int .i64 vars, .int .i64 keep, .slice ca cn cc] 32)).alloc (.cells #[.slice ta tn tc] 24) = W := ⟨_, rfl⟩
  have hb1 : Below w.heap.size w W1 := by rw [← hW1]; exact ((Below.refl _ _).alloc (Nat.le_refl _) _).alloc (by simp) _
  have hs1 : W1.heap.size = bb + 1 + 1 := by rw [← hW1]; simp; omega
  have hr0 : W1.heap[bb]? = some (.cells #[.int .i64 vars, .int .i64 keep, .slice ca cn cc] 32) := by rw [← hW1]; exact old_at _ _ _ (new_at' _ _ hbb.symm)
  have hr1 : W1.heap[bb + 1]? = some (.cells #[.slice ta tn tc] 24) := by rw [← hW1]; exact new_at' _ _ (by simp; omega)
  have c0 : W1.cell? ⟨bb, 0, none⟩ = some (.int .i64 vars) := by rw [cell_of_row _ _ _ _ _ _ hr0]; rfl
  have c1 : W1.cell? ⟨bb, 1, none⟩ = some (.int .i64 keep) := by rw [cell_of_row _ _ _ _ _ _ hr0]; rfl
  have c2 : W1.cell? ⟨bb, 2, none⟩ = some (.slice ca cn cc) := by rw [cell_of_row _ _ _ _ _ _ hr0]; rfl
  have t0 : W1.cell? ⟨bb + 1, 0, none⟩ = some (.slice ta tn tc) := by rw [cell_of_row _ _ _ _ _ _ hr1]; rfl
  have hc1 := Clss.below hc hb1
  have hx1 := hx.below hb1
  have HC := Lib.hid hc1
  have HX := Lib.hid hx1
  have HB1 := Lib.hid hb1
  have HIV := Lib.hid hiv
  have HIK := Lib.hid hik
  have HKN := Lib.hid (known_any W1)
  clear hc hx hc1 hx1 hr0 hr1 hb1 hiv hik
  go_enter Tryz.func4, Tryz.ntmps4
  go_wp2_with fail
  try rw [hW1]
  clear hW1 hbb
  refine HKN.out.mono ?_
  rintro e w2 ⟨rfl, hb2⟩
  have HB2 := Lib.hid (HB1.out.trans (hb2.mono HB1.out.size))
  have HC2 := Lib.hid (Clss.below HC.out hb2)
  have HX2 := Lib.hid (HX.out.below hb2)
  have y0 := below_c hb2 (by omega) c0
  have y1 := below_c hb2 (by omega) c1
  have y2 := below_c hb2 (by omega) c2
  have yt := below_c hb2 (by omega) t0
  have hs2 := hb2.size
  clear hb2 HKN HB1 HC HX c0 c1 c2 t0
  have HF := Lib.hid (few_any _ ts w2 HX2.out)
  go_wp2_with fail
  refine HF.out.mono ?_
  rintro e w3 ⟨B1, rfl, hb3, hB1⟩
  have HB3 := Lib.hid (HB2.out.trans (hb3.mono HB2.out.size))
  have HC3 := Lib.hid (Clss.below HC2.out hb3)
  have HX3 := Lib.hid (HX2.out.below hb3)
  have z0 := below_c hb3 (by omega) y0
  have z1 := below_c hb3 (by omega) y1
  have z2 := below_c hb3 (by omega) y2
  have zt := below_c hb3 (by omega) yt
  have hs3 := hb3.size
  have HBT := Lib.hid hB1
  clear hb3 HF HB2 HC2 HX2 y0 y1 y2 yt hB1
  rcases bool2 B1 with rfl | rfl
  rotate_left
  · go_wp2_with fail
    go_ret
    exact ⟨rfl, HB3.out⟩
  obtain ⟨ht1, ht2⟩ := HBT.out rfl
  have HF := Lib.hid (short_any _ vars keep _ cs w3 HC3.out)
  have HT1 := Lib.hid ht1
  have HT2 := Lib.hid ht2
  clear HBT ht1 ht2
  go_wp2_with fail
  refine HF.out.mono ?_
  rintro e w5 ⟨B3, rfl, hb5, hB3⟩
  have HB5 := Lib.hid (HB3.out.trans (hb5.mono HB3.out.size))
  have HC5 := Lib.hid (Clss.below HC3.out hb5)
  have HX5 := Lib.hid (HX3.out.below hb5)
  have y0 := below_c hb5 (by omega) z0
  have y1 := below_c hb5 (by omega) z1
  have y2 := below_c hb5 (by omega) z2
  have yt := below_c hb5 (by omega) zt
  have hs5 := hb5.size
  have HBS := Lib.hid hB3
  clear hb5 HF HB3 HC3 HX3 z0 z1 z2 zt hB3
  rcases bool2 B3 with rfl | rfl
  rotate_left
  · go_wp2_with fail
    go_ret
    exact ⟨rfl, HB5.out⟩
  obtain ⟨hc1, hc2⟩ := HBS.out rfl
  have HF := Lib.hid (total_any _ vars keep _ _ cs ts w5 HC5.out HX5.out HIV.out HIK.out HT2.out (by have := HT1.out; omega) (by omega) (fun x hx => by have := hc2 x hx; omega))
  have HC1 := Lib.hid hc1
  have HC2 := Lib.hid hc2
  clear HBS hc1 hc2
  by_cases q8 : 8 < vars
  · have d8 : decide (8 < vars) = true := decide_eq_true q8
    go_wp2_with fail
    go_ret
    exact ⟨rfl, HB5.out⟩
  have d8 : decide (8 < vars) = false := decide_eq_false q8
  obtain ⟨N1, hN1⟩ : ∃ n, totA vars keep cs ts = n := ⟨_, rfl⟩
  obtain ⟨E1, hE1⟩ : ∃ n, tckM vars keep cs ts = n := ⟨_, rfl⟩
  rw [hN1, hE1] at HF
  have HN1 := Lib.hid hN1
  have HE1 := Lib.hid hE1
  clear hN1 hE1
  go_wp2_with fail
  refine HF.out.mono ?_
  rintro e w6 ⟨rfl, hb6⟩
  have HB6 := Lib.hid (HB5.out.trans (hb6.mono HB5.out.size))
  have HC6 := Lib.hid (Clss.below HC5.out hb6)
  have z0 := below_c hb6 (by omega) y0
  have z1 := below_c hb6 (by omega) y1
  have z2 := below_c hb6 (by omega) y2
  have hs6 := hb6.size
  clear hb6 HF HB5 HC5 HX5 y0 y1 y2 yt
  by_cases q1 : E1 = 0
  rotate_left
  · have d1 : (E1 != 0) = true := by simp; exact q1
    have hn : N1 = 0 := by rw [← HN1.out]; unfold totA; rw [if_neg (by rw [HE1.out]; exact q1)]
    subst hn
    go_wp2_with fail
    go_ret
    exact ⟨by simp, HB6.out⟩
  subst q1
  have hsz : SzOk cs := ⟨by have := HC1.out; omega, fun x hx => by have := HC2.out x hx; omega⟩
  have hlc := lcheck_any _ vars keep _ cs w6 HC6.out HIV.out HIK.out hsz.1 hsz.2
  have hck0 := (tck_acc HE1.out).1
  rw [hck0] at hlc
  have hd := check_dims hck0
  obtain ⟨K, rfl⟩ : ∃ K : Nat, keep = K := ⟨keep.toNat, by omega⟩
  obtain ⟨s1, s2, s3⟩ := sound HE1.out
  rw [HN1.out] at s1
  have HS1 := Lib.hid s1
  have HLC := Lib.hid hlc
  have HPR : Hid (∀ W, Clss (fun _ => True) W (.slice ca cn cc) cs → Calls Tryz.prog 15 #[.agg #[.int .i64 vars, .int .i64 K, .slice ca cn cc]] W (IntB W (cntM ((occM cs).length + 1) (ivl 0 K) cs))) := Lib.hid fun W hW => projected_any _ _ _ vars K _ cs W s2 s3 (Nat.lt_succ_self _) hW hsz (by omega)
  clear hlc hck0 s1 s2 s3
  go_wp2_with fail
  refine HLC.out.mono ?_
  rintro e w7 ⟨rfl, hb7⟩
  have HB7 := Lib.hid (HB6.out.trans (hb7.mono HB6.out.size))
  have HC7 := Lib.hid (Clss.below HC6.out hb7)
  have y0 := below_c hb7 (by omega) z0
  have y1 := below_c hb7 (by omega) z1
  have y2 := below_c hb7 (by omega) z2
  clear hb7 HLC HB6 HC6 z0 z1 z2
  go_wp2_with fail
  refine (HPR.out _ HC7.out).mono ?_
  rintro e w8 ⟨rfl, hb8⟩
  have HB8 := Lib.hid (HB7.out.trans (hb8.mono HB7.out.size))
  clear hb8
  go_wp2_with fail
  go_ret
  exact ⟨by rw [HS1.out]; simp, HB8.out⟩
end Go.Proofs.YtihkknploioakaaGreat
