/- (Trace seat Z) Walk: the statement TraceCounts. No condition. -/
import Derived.Test.YtihkknploioakaaGreatVo
import Derived.Test.YtihkknploioakaaGreatVv
import Derived.Test.YtihkknploioakaaGreatWa
import Derived.Test.YtihkknploioakaaGreatNg
import Derived.Deep.RegionHeld3
import Derived.Test.YtihkknploioakaaGreatNh
namespace Go.Proofs.YtihkknploioakaaGreat
open Go.ChangeShapes Go.WideShapes Go.ChangeAt Go.RowKit
set_option linter.unusedVariables false

/-- the number that Count gives for an accepted claim -/
theorem acc_count {keep : Int} {ts : List Claim} (hall : ∀ i : Nat, i < ts.length → ccM keep ts i = 0) {i : Nat} {c : Claim} (h : ts[i]? = some c) :
    Cn' c.cls ∧ c.count = (cntM ((occM c.cls).length + 1) (keptM keep (occM c.cls)) c.cls : Int) ∧ (∀ v ∈ occM c.cls, v ≤ 1000000) ∧ (∀ v ∈ keptM keep (occM c.cls), 1 ≤ v ∧ v ≤ 1000000) ∧ (keptM keep (occM c.cls)).length ≤ 40 := by
  have hi := (List.getElem?_eq_some_iff.1 h).1
  have hg := acc_good hall (i + 1) i (Nat.lt_succ_self _) hi
  have hk := (cc_count (hall i hi)).2.1
  have hget : ts.getD i clNil = c := by rw [List.getD_eq_getElem?_getD, h]; rfl
  rw [hget] at hg
  have hS : ∀ v ∈ occM c.cls, v ≤ 1000000 := fun v hv => by have := occM_range hv; omega
  have hK : ∀ v ∈ keptM keep (occM c.cls), 1 ≤ v ∧ v ≤ 1000000 := fun v hv => by have := occM_range (kept_mem.1 hv).1; omega
  refine ⟨hg.1, ?_, hS, hK, kept_le40 hk⟩
  rw [hg.2, cnt_eq _ _ (occM c.cls) c.cls hg.1.1 hg.1.vs hS (Nat.lt_succ_self _) (kept_nodup _ _) hK]
  rfl
set_option maxRecDepth 100000 in
set_option maxHeartbeats 8000000 in
theorem law_any (vars keep : Int) (cv tv : Value) (cs : List (List Int)) (ts : List Claim) (w : World) (hc : Clss (fun _ => True) w cv cs) (hx : Claims (fun _ => True) w tv ts) (hiv : I64 vars) (hik : I64 keep) :
    Calls Tryz.prog 5 #[.agg #[.int .i64 vars, .int .i64 keep, cv], .agg #[tv]] w (KnPost w) := by
  obtain ⟨ca, cn, cc, rfl, _, _⟩ := hc.form'
  obtain ⟨ta, tn, tc, rfl, HTN, _⟩ := hx.form
  obtain ⟨bb, hbb⟩ : ∃ b, w.heap.size = b := ⟨_, rfl⟩
  obtain ⟨W1, hW1⟩ : ∃ W, (w.alloc (.cells #[.int .i64 vars, .int .i64 keep, .slice ca cn cc] 32)).alloc (.cells #[.slice ta tn tc] 24) = W := ⟨_, rfl⟩
  have hb1 : Below w.heap.size w W1 := by rw [← hW1]; exact ((Below.refl _ _).alloc (Nat.le_refl _) _).alloc (by simp) _
  have hs1 : W1.heap.size = bb + 1 + 1 := by rw [← hW1]; simp; omega
  have hr0 : W1.heap[bb]? = some (.cells #[.int .i64 vars, .int .i64 keep, .slice ca cn cc] 32) := by rw [← hW1]; exact old_at _ _ _ (new_at' _ _ hbb.symm)
  have hr1 : W1.heap[bb + 1]? = some (.cells #[.slice ta tn tc] 24) := by rw [← hW1]; exact new_at' _ _ (by simp; omega)
  have c0 : W1.cell? ⟨bb, 0, none⟩ = some (.int .i64 vars) := by rw [cell_of_row _ _ _ _ _ _ hr0]; rfl
  have c1 : W1.cell? ⟨bb, 1, none⟩ = some (.int .i64 keep) := by rw [cell_of_row _ _ _ _ _ _ hr0]; rfl
  have c2 : W1.cell? ⟨bb, 2, none⟩ = some (.slice ca cn cc) := by rw [cell_of_row _ _ _ _ _ _ hr0]; rfl
  have t0 : W1.cell? ⟨bb + 1, 0, none⟩ = some (.slice ta tn tc) := by rw [cell_of_row _ _ _ _ _ _ hr1]; rfl
  have hc1 := Clss.below hc hb1
  have hx1 := hx.below hb1
  have HC := Lib.hid hc1
  have HX := Lib.hid hx1
  have HB1 := Lib.hid hb1
  have HIV := Lib.hid hiv
  have HIK := Lib.hid hik
  have HKN := Lib.hid (known_any W1)
  clear hc hx hc1 hx1 hr0 hr1 hb1 hiv hik
  go_enter Tryz.func5, Tryz.ntmps5
  go_wp2_with fail
  try rw [hW1]
  clear hW1 hbb
  refine HKN.out.mono ?_
  rintro e w2 ⟨rfl, hb2⟩
  have HB2 := Lib.hid (HB1.out.trans (hb2.mono HB1.out.size))
  have HC2 := Lib.hid (Clss.below HC.out hb2)
  have HX2 := Lib.hid (HX.out.below hb2)
  have y0 := below_c hb2 (by omega) c0
  have y1 := below_c hb2 (by omega) c1
  have y2 := below_c hb2 (by omega) c2
  have yt := below_c hb2 (by omega) t0
  have hs2 := hb2.size
  clear hb2 HKN HB1 HC HX c0 c1 c2 t0
  have HF := Lib.hid (few_any _ ts w2 HX2.out)
  go_wp2_with fail
  refine HF.out.mono ?_
  rintro e w3 ⟨B1, rfl, hb3, hB1⟩
  have HB3 := Lib.hid (HB2.out.trans (hb3.mono HB2.out.size))
  have HC3 := Lib.hid (Clss.below HC2.out hb3)
  have HX3 := Lib.hid (HX2.out.below hb3)
  have z0 := below_c hb3 (by omega) y0
  have z1 := below_c hb3 (by omega) y1
  have z2 := below_c hb3 (by omega) y2
  have zt := below_c hb3 (by omega) yt
  have hs3 := hb3.size
  have HBT := Lib.hid hB1
  clear hb3 HF HB2 HC2 HX2 y0 y1 y2 yt hB1
  rcases bool2 B1 with rfl | rfl
  rotate_left
  · go_wp2_with fail
    go_ret
    exact ⟨rfl, HB3.out⟩
  obtain ⟨ht1, ht2⟩ := HBT.out rfl
  have HF := Lib.hid (short_any _ vars keep _ cs w3 HC3.out)
  have HT1 := Lib.hid ht1
  have HT2 := Lib.hid ht2
  clear HBT ht1 ht2
  go_wp2_with fail
  refine HF.out.mono ?_
  rintro e w5 ⟨B3, rfl, hb5, hB3⟩
  have HB5 := Lib.hid (HB3.out.trans (hb5.mono HB3.out.size))
  have HC5 := Lib.hid (Clss.below HC3.out hb5)
  have HX5 := Lib.hid (HX3.out.below hb5)
  have y0 := below_c hb5 (by omega) z0
  have y1 := below_c hb5 (by omega) z1
  have y2 := below_c hb5 (by omega) z2
  have yt := below_c hb5 (by omega) zt
  have hs5 := hb5.size
  have HBS := Lib.hid hB3
  clear hb5 HF HB3 HC3 HX3 z0 z1 z2 zt hB3
  rcases bool2 B3 with rfl | rfl
  rotate_left
  · go_wp2_with fail
    go_ret
    exact ⟨rfl, HB5.out⟩
  obtain ⟨hc1, hc2⟩ := HBS.out rfl
  have HC1 := Lib.hid hc1
  have HC2 := Lib.hid hc2
  clear HBS hc1 hc2
  by_cases q8 : 8 < keep
  · have d8 : decide (8 < keep) = true := decide_eq_true q8
    go_wp2_with fail
    go_ret
    exact ⟨rfl, HB5.out⟩
  have d8 : decide (8 < keep) = false := decide_eq_false q8
  have HF := Lib.hid (tcheck_any _ vars keep _ _ cs ts w5 HC5.out HX5.out HIV.out HIK.out HT2.out (by have := HT1.out; omega))
  obtain ⟨E1, hE1⟩ : ∃ n, tckM vars keep cs ts = n := ⟨_, rfl⟩
  rw [hE1] at HF
  have HE1 := Lib.hid hE1
  clear hE1
  go_wp2_with fail
  refine HF.out.mono ?_
  rintro e w6 ⟨rfl, hb6⟩
  have HB6 := Lib.hid (HB5.out.trans (hb6.mono HB5.out.size))
  have HX6 := Lib.hid (HX5.out.below hb6)
  have z1 := below_c hb6 (by omega) y1
  have zt := below_c hb6 (by omega) yt
  have hs6 := hb6.size
  clear hb6 HF HB5 HC5 HX5 y0 y1 y2 yt
  by_cases q1 : E1 = 0
  rotate_left
  · have d1 : (E1 != 0) = true := by simp; exact q1
    go_wp2_with fail
    go_ret
    exact ⟨rfl, HB6.out⟩
  subst q1
  have HALL := Lib.hid (tck_acc HE1.out).2.2.2.1
  have HBB0 : Hid (Below w6.heap.size w6 w6) := Lib.hid (Below.refl _ _)
  go_wp2_with fail
  go_loopg [29] tn (fun gg u29 wx => ∃ k : Nat, k + gg = tn ∧ u29 = .int .i64 k ∧ Hid (Below w6.heap.size w6 wx))
  case atStart => exact ⟨0, by omega, rfl, HBB0⟩
  case round =>
  clear HBB0
  obtain ⟨k, hkg, rfl, HBB⟩ := hrel
  have HBW : Hid (Below w.heap.size w wr) := Lib.hid (HB6.out.trans (HBB.out.mono HB6.out.size))
  have hsr := HBB.out.size
  by_cases hk : k < tn
  case neg =>
    have hd : decide (k < tn) = false := decide_eq_false hk
    have hd2 : decide ((k : Int) < tn) = false := by simp; omega
    go_wp2_with fail
    go_ret
    exact ⟨rfl, HBW.out⟩
  have hd : decide (k < tn) = true := decide_eq_true hk
  have hd2 : decide ((k : Int) < tn) = true := by simp; omega
  obtain ⟨c, hck⟩ : ∃ c, ts[k]? = some c := ⟨_, List.getElem?_eq_getElem (by rw [← HTN.out]; exact hk)⟩
  have hxr := HX6.out.below HBB.out
  obtain ⟨xb, xo, xv, kv, rfl, _, hxb, j0, j1, j2, j3, j4, hcv⟩ := hxr.at hck
  obtain ⟨hcl, _, _, hki, _⟩ := hcv.1
  have hi4 := hcv.2.2.2
  obtain ⟨xa, xn, xc, rfl, _, _⟩ := hcl.form'
  obtain ⟨ka, kn, kc, rfl, _, _⟩ := hki.form'
  obtain ⟨g1, g2, g3, g4, g5⟩ := acc_count HALL.out hck
  obtain ⟨hz1, hz2, _⟩ := HT2.out c (List.mem_of_getElem? hck)
  obtain ⟨W2, hW2⟩ : ∃ W, wr.alloc (.cells #[.slice xa xn xc, .int .i64 c.rule, .int .i64 c.lit, .slice ka kn kc, .int .i64 c.count] 42) = W := ⟨_, rfl⟩
  obtain ⟨bx, hbx⟩ : ∃ b, wr.heap.size = b := ⟨_, rfl⟩
  have hbW : Below wr.heap.size wr W2 := by rw [← hW2]; exact (Below.refl _ _).alloc (Nat.le_refl _) _
  have hrow : W2.heap[bx]? = some (.cells #[.slice xa xn xc, .int .i64 c.rule, .int .i64 c.lit, .slice ka kn kc, .int .i64 c.count] 42) := by rw [← hW2]; exact new_at' _ _ hbx.symm
  have b0 : W2.cell? ⟨bx, 0, none⟩ = some (.slice xa xn xc) := by rw [cell_of_row _ _ _ _ _ _ hrow]; rfl
  have b4 : W2.cell? ⟨bx, 4, none⟩ = some (.int .i64 c.count) := by rw [cell_of_row _ _ _ _ _ _ hrow]; rfl
  have m1 := below_c hbW (by omega) (below_c HBB.out (by omega) z1)
  have hs2' : W2.heap.size = bx + 1 := by rw [← hW2]; simp; omega
  have HOC := Lib.hid (loccur_any _ _ c.cls W2 (Clss.below hcl hbW) hz1 hz2)
  have HCL := Lib.hid (Clss.below hcl hbW)
  have HB2 : Hid (Below w6.heap.size w6 W2) := Lib.hid (HBB.out.trans (hbW.mono hsr))
  have HG := Lib.hid g1
  have HG2 := Lib.hid g2
  have HG3 := Lib.hid g3
  have HG4 := Lib.hid g4
  have HG5 := Lib.hid g5
  have HZ1 := Lib.hid hz1
  have HZ2 := Lib.hid hz2
  clear hxr hcv hcl hki hck hrow hbW g1 g2 g3 g4 g5 hz1 hz2
  go_wp2_with fail
  have hbx2 : wr.heap.size ≤ bx := by omega
  clear hW2 hbx
  refine HOC.out.mono ?_
  rintro e w7 ⟨ov, os, rfl, hos, hb7, hst, hmem⟩
  obtain ⟨oa, on, oc, rfl, HON, hon⟩ := hos.form'
  have HB7 : Hid (Below w6.heap.size w6 w7) := Lib.hid (HB2.out.trans (hb7.mono HB2.out.size))
  have HCL7 := Lib.hid (Clss.below HCL.out hb7)
  have n0 := below_c hb7 (by omega) b0
  have n4 := below_c hb7 (by omega) b4
  have n1 := below_c hb7 (by omega) m1
  have hs7 := hb7.size
  clear hos hb7 hst hmem HOC HCL HB2 b0 b4 m1 j0 j1 j2 j3 j4
  by_cases qo : (8 : Int) < on
  · have dq : decide ((8 : Int) < on) = true := decide_eq_true qo
    have dq' : decide (8 < on) = true := decide_eq_true (by omega)
    go_wp2_with fail
    go_roundg (gk - 1)
    case measure => omega
    case rel => exact ⟨k + 1, by omega, by go_num, HB7⟩
  have dq : decide ((8 : Int) < on) = false := decide_eq_false qo
  have dq' : decide (8 < on) = false := decide_eq_false (by omega)
  have HKE := Lib.hid (lkept_any _ keep _ c.cls w7.drew (HCL7.out.below (Below.refl _ _).drew) HIK.out HZ1.out HZ2.out)
  obtain ⟨N, hN⟩ : ∃ N, (keptM keep (occM c.cls)).length = N := ⟨_, rfl⟩
  have HN := Lib.hid hN
  have HCN : Hid (∀ pa pc w8, Below w7.drew.heap.size w7.drew w8 → w8.ownsRow w7.drew.heap.size 3 1 (.slice pa N pc) N ((keptM keep (occM c.cls)).map (.int .i64)) → Calls Tryz.prog 18 #[.slice xa xn xc, .slice pa N pc] w8 (IntB w8 c.count)) := Lib.hid fun pa pc w8 hb8 ho8 => by
    have hi : Ints (fun _ => True) w8 (.slice pa N pc) (keptM keep (occM c.cls)) := ⟨(ownsRow_sl1 ho8 (by have := HG5.out; have := HN.out; omega)).mono fun _ _ => trivial, fun x hx => by have := HG4.out x hx; unfold I64; omega⟩
    rw [HG2.out]
    exact count_any _ _ (occM c.cls) _ _ _ pa N pc c.cls w8 HG.out.vs HG3.out (Nat.lt_succ_self _) ((HCL7.out.below (Below.refl _ _).drew).below hb8) ⟨by have := HZ1.out; omega, fun x hx => by have := HZ2.out x hx; omega⟩ hi (own_cap ho8) HG4.out HG5.out
  clear hN qo
  go_wp2_with fail
  go_region_held3 (fun w' => w'.cell? ⟨bx, 0, none⟩ = some (.slice xa xn xc) ∧ w'.cell? ⟨bx, 4, none⟩ = some (.int .i64 c.count) ∧ w'.cell? ⟨bb, 1, none⟩ = some (.int .i64 keep))
    (first | exact ⟨n0, n4, n1⟩ | exact ⟨p0, p4, p1⟩ | exact ⟨r0, r4, r1⟩ | go_keep)
    (first
      | (go_at_call 19; refine HKE.out.mono ?_; rintro e w8 ⟨v8, rfl, hb8, ho8⟩; rw [HN.out] at ho8; obtain ⟨pa, pc, rfl⟩ := own_form ho8; have HB8 := Lib.hid hb8; have HO8 := Lib.hid ho8; have p0 := below_c hb8 (by show bx < w7.heap.size; omega) n0; have p4 := below_c hb8 (by show bx < w7.heap.size; omega) n4; have p1 := below_c hb8 (by show bb < w7.heap.size; omega) n1; clear hb8 ho8)
      | (go_at_call 18; refine (HCN.out _ _ _ HB8.out HO8.out).mono ?_; rintro e w9 ⟨rfl, hb9⟩; have hs8 := HB8.out.size; have r0 := below_c hb9 (block_lt p0) p0; have r4 := below_c hb9 (block_lt p4) p4; have r1 := below_c hb9 (block_lt p1) p1; have HB9 := Lib.hid (HB7.out.trans ((show Below w7.heap.size w7 w9 from (show Below w7.heap.size w7 w7.drew from (Below.refl _ _).drew).trans (HB8.out.trans (hb9.mono hs8))).mono HB7.out.size)); clear hb9)
      | fail)
  go_wp2_with fail
  go_roundg (gk - 1)
  case measure => omega
  case rel => exact ⟨k + 1, by omega, by go_num, HB9⟩
end Go.Proofs.YtihkknploioakaaGreat
