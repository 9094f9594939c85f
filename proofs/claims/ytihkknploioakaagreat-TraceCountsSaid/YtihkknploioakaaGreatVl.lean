/- (Trace seat) Walks: Check, Total of the package trace. No condition but the sizes. -/
import Derived.Test.YtihkknploioakaaGreatVk
namespace Go.Proofs.YtihkknploioakaaGreat
open Go.ChangeShapes Go.WideShapes Go.ChangeAt Go.RowKit
set_option linter.unusedVariables false

set_option maxRecDepth 100000 in
set_option maxHeartbeats 8000000 in
theorem tcheck_any (F : Nat → Prop) (vars keep : Int) (cv tv : Value) (cs : List (List Int)) (ts : List Claim) (w : World) (hc : Clss F w cv cs) (hx : Claims (fun _ => True) w tv ts) (hiv : I64 vars) (hik : I64 keep) (hsz : ∀ c ∈ ts, SzC c) (hl : ts.length ≤ 4000) :
    Calls Tryz.prog 16 #[.agg #[.int .i64 vars, .int .i64 keep, cv], .agg #[tv]] w (CodePost w (tckM vars keep cs ts)) := by
  obtain ⟨ta, tn, tc, rfl, HTN, htn⟩ := hx.form
  obtain ⟨ca, cn, cc, rfl, HCN, hcn⟩ := hc.form'
  obtain ⟨bb, hbb⟩ : ∃ b, w.heap.size = b := ⟨_, rfl⟩
  obtain ⟨W1, hW1⟩ : ∃ W, (w.alloc (.cells #[.int .i64 vars, .int .i64 keep, .slice ca cn cc] 32)).alloc (.cells #[.slice ta tn tc] 24) = W := ⟨_, rfl⟩
  have hb1 : Below w.heap.size w W1 := by rw [← hW1]; exact ((Below.refl _ _).alloc (Nat.le_refl _) _).alloc (by simp) _
  have hs1 : W1.heap.size = bb + 1 + 1 := by rw [← hW1]; simp; omega
  have hr0 : W1.heap[bb]? = some (.cells #[.int .i64 vars, .int .i64 keep, .slice ca cn cc] 32) := by rw [← hW1]; exact old_at _ _ _ (new_at' _ _ hbb.symm)
  have hr1 : W1.heap[bb + 1]? = some (.cells #[.slice ta tn tc] 24) := by rw [← hW1]; exact new_at' _ _ (by simp; omega)
  have c0 : W1.cell? ⟨bb, 0, none⟩ = some (.int .i64 vars) := by rw [cell_of_row _ _ _ _ _ _ hr0]; rfl
  have c1 : W1.cell? ⟨bb, 1, none⟩ = some (.int .i64 keep) := by rw [cell_of_row _ _ _ _ _ _ hr0]; rfl
  have c2 : W1.cell? ⟨bb, 2, none⟩ = some (.slice ca cn cc) := by rw [cell_of_row _ _ _ _ _ _ hr0]; rfl
  have t0 : W1.cell? ⟨bb + 1, 0, none⟩ = some (.slice ta tn tc) := by rw [cell_of_row _ _ _ _ _ _ hr1]; rfl
  obtain ⟨R, hR⟩ : ∃ R, tckM vars keep cs ts = R := ⟨_, rfl⟩
  have hR2 := hR
  unfold tckM at hR2
  rw [hR]
  obtain ⟨C, hC⟩ : ∃ C, checkM vars keep cs = C := ⟨_, rfl⟩
  rw [hC] at hR2
  have hck := check_any F vars keep _ cs W1 (hc.below hb1) hiv hik
  rw [hC] at hck
  have HCK := Lib.hid hck
  have HC := Lib.hid (hc.below hb1)
  have HX := Lib.hid (hx.below hb1)
  have HB1 := Lib.hid hb1
  have HW1 := Lib.hid hW1
  have HBB := Lib.hid hbb
  have HSZ := Lib.hid hsz
  have HIK := Lib.hid hik
  have hn4 : tn ≤ 4000 := by rw [HTN.out]; exact hl
  clear hR hC hck hc hx hb1 hW1 hbb hr0 hr1 hsz hik hiv hl
  by_cases h0 : C = 0
  case neg =>
    rw [if_pos h0] at hR2
    subst hR2
    have e0 : (C != 0) = true := by simp; exact h0
    clear h0
    go_enter Tryz.func16, Tryz.ntmps16
    go_wp2_with fail
    rw [HW1.out]
    refine HCK.out.mono ?_
    rintro e w2 ⟨rfl, hb2⟩
    have HB2 := Lib.hid (HB1.out.trans (hb2.mono HB1.out.size))
    clear hb2
    go_wp2_with fail
    go_ret
    exact ⟨rfl, HB2.out⟩
  subst h0
  rw [if_neg (by simp)] at hR2
  have HR2 := Lib.hid hR2
  clear hR2
  go_enter Tryz.func16, Tryz.ntmps16
  go_wp2_with fail
  rw [HW1.out]
  refine HCK.out.mono ?_
  rintro e w2 ⟨rfl, hb2⟩
  rw [HBB.out]
  have d0 := below_c hb2 (by omega) c0
  have d1 := below_c hb2 (by omega) c1
  have d2 := below_c hb2 (by omega) c2
  have u0 := below_c hb2 (by omega) t0
  have HC2 := Lib.hid (HC.out.below hb2)
  have HX2 := Lib.hid (HX.out.below hb2)
  have HB2 := Lib.hid (HB1.out.trans (hb2.mono HB1.out.size))
  have hs2 := hb2.size
  clear hb2 c0 c1 c2 t0 HC HX HCK HW1
  by_cases h1 : 40 < keep
  · have hR := HR2.out
    rw [if_pos (.inl h1)] at hR
    subst hR
    have e1 : decide (40 < keep) = true := decide_eq_true h1
    go_wp2_with fail
    go_ret
    exact ⟨rfl, HB2.out⟩
  have e1 : decide (40 < keep) = false := decide_eq_false h1
  have e2 : decide (65536 < (tn : Int)) = false := decide_eq_false (by omega)
  have e2' : decide (65536 < tn) = false := decide_eq_false (by omega)
  have hR3 := HR2.out
  rw [if_neg (by rintro (h | h); exact h1 h; rw [← HTN.out] at h; omega)] at hR3
  by_cases h3 : tn = 0
  · rw [if_pos (by rw [← HTN.out]; exact h3)] at hR3
    subst hR3
    have e3 : ((tn : Int) == 0) = true := by simp; exact h3
    clear h3
    go_wp2_with fail
    go_ret
    exact ⟨rfl, HB2.out⟩
  have e3 : ((tn : Int) == 0) = false := by simp; exact h3
  rw [if_neg (by rw [← HTN.out]; exact h3)] at hR3
  have HR3 : Hid ((if ccGo keep ts (tn - 0) 0 ≠ 0 then ccGo keep ts (tn - 0) 0 else if ((ts.getD (ts.length - 1) clNil).cls == cs) = false then 2 else 0) = R) := Lib.hid (by rw [Nat.sub_zero, HTN.out]; exact hR3)
  have HBL : Hid (Below w2.heap.size w2 w2) := Lib.hid (Below.refl _ _)
  clear hR3 HR2 h1
  go_wp2_with fail
  go_loopg [29] tn (fun gg u29 wx => ∃ (k : Nat), k + gg = tn ∧ u29 = .int .i64 k ∧ Hid (Below w2.heap.size w2 wx) ∧ Hid ((if ccGo keep ts (tn - k) k ≠ 0 then ccGo keep ts (tn - k) k else if ((ts.getD (ts.length - 1) clNil).cls == cs) = false then 2 else 0) = R))
  case atStart => exact ⟨0, by omega, rfl, HBL, HR3⟩
  case round =>
  clear HBL HR3
  obtain ⟨k, hkg, rfl, HBX, HRK⟩ := hrel
  have hsx := HBX.out.size
  have f0 := below_c HBX.out (by omega) d0
  have f1 := below_c HBX.out (by omega) d1
  have f2 := below_c HBX.out (by omega) d2
  have g0 := below_c HBX.out (by omega) u0
  have HBF : Hid (Below w.heap.size w wr) := Lib.hid (HB2.out.trans (HBX.out.mono HB2.out.size))
  by_cases hk : k < tn
  · have hdk : decide ((k : Int) < tn) = true := by simp; omega
    have hdk' : decide (k < tn) = true := decide_eq_true hk
    have hcc := cc_any keep (k : Int) _ ts wr (HX2.out.below HBX.out) HIK.out ⟨by omega, by omega⟩ HSZ.out (by rw [← HTN.out]; exact hn4)
    obtain ⟨D, hD⟩ : ∃ D, ccM keep ts k = D := ⟨_, rfl⟩
    rw [hD] at hcc
    have HCC := Lib.hid hcc
    have hr := HRK.out
    obtain ⟨j, hj⟩ : ∃ j, tn - k = j + 1 := ⟨tn - k - 1, by omega⟩
    rw [hj, ccGo, hD] at hr
    by_cases hz : D = 0
    · subst hz
      rw [if_neg (show ¬ ((0 : Int) ≠ 0) by simp), show j = tn - (k + 1) by omega] at hr
      have HR := Lib.hid hr
      clear hr hj hD hcc HRK
      go_wp2_with fail
      refine HCC.out.mono ?_
      rintro e w3 ⟨rfl, hb3⟩
      have HB3 := Lib.hid (HBX.out.trans (hb3.mono HBX.out.size))
      clear hb3
      go_wp2_with fail
      go_roundg (gk - 1)
      case measure => omega
      case rel => exact ⟨k + 1, by omega, by go_num, HB3, HR⟩
    · have hr2 : D = R := by rw [← hr]; simp [hz]
      subst hr2
      have ez : (D != 0) = true := by simp; exact hz
      clear hr hj hD hcc hz HRK
      go_wp2_with fail
      refine HCC.out.mono ?_
      rintro e w3 ⟨rfl, hb3⟩
      have HB3 := Lib.hid (HBF.out.trans (hb3.mono HBF.out.size))
      clear hb3
      go_wp2_with fail
      go_ret
      exact ⟨rfl, HB3.out⟩
  obtain rfl : k = tn := by omega
  have hdk : decide ((k : Int) < k) = false := by simp
  have hdk' : decide (k < k) = false := decide_eq_false (by omega)
  have hr := HRK.out
  rw [Nat.sub_self, ccGo, if_neg (by simp)] at hr
  obtain ⟨c, hc⟩ : ∃ c, ts[k - 1]? = some c := ⟨_, List.getElem?_eq_getElem (by rw [← HTN.out]; omega)⟩
  have hcg : ts.getD (ts.length - 1) clNil = c := by rw [← HTN.out, List.getD_eq_getElem?_getD, hc]; rfl
  rw [hcg] at hr
  obtain ⟨xb, xo, xcv, xkv, rfl, _, hxb, j0, _, _, _, _, ⟨⟨hxc, _⟩, _⟩⟩ := (HX2.out.below HBX.out).at hc
  obtain ⟨xa, xn, xc, rfl, _, _⟩ := hxc.form'
  obtain ⟨E, hE⟩ : ∃ E, (c.cls == cs) = E := ⟨_, rfl⟩
  rw [hE] at hr
  have hxc : Clss (fun _ => True) wr (.slice xa xn xc) c.cls := hxc
  have hbl := fun n => below_drewN (Below.refl wr.heap.size wr) n
  have heq := fun n => tequal_any _ _ _ _ (wr.drewN n) (hxc.below (hbl n)) ((HC2.out.below HBX.out).below (hbl n))
  rw [hE] at heq
  have HEQ := Lib.hid heq
  have HR := Lib.hid hr
  obtain ⟨m, hm⟩ : ∃ m, k = m + 1 := ⟨k - 1, by omega⟩
  have hw1 : IntKind.i64.wrap ((k : Int) - 1) = (m : Int) := by rw [IntWalk.i64_in _ ⟨by omega, by omega⟩]; omega
  have hmk : (m : Int) < k := by omega
  have hm0 : (0 : Int) ≤ m := by omega
  have hmk' : m < k := by omega
  rw [show k - 1 = m by omega] at j0
  have hkl : bb + 1 < wr.heap.size := by omega
  clear hr hE heq hcg hc hxc HRK hbl hm hkg
  go_upto_region 16 with fail
  go_quiet ((go_at_call 38; first | exact Calls.quiet_of (HEQ.out _) | exact quiet_add (HEQ.out _)))
  rcases bool2 E with rfl | rfl
  · have hr := HR.out
    rw [if_neg (by simp)] at hr
    subst hr
    go_wp2_with fail
    go_ret
    exact ⟨rfl, below_drewN HBF.out _⟩
  · have hr := HR.out
    rw [if_pos rfl] at hr
    subst hr
    go_wp2_with fail
    go_ret
    exact ⟨rfl, below_drewN HBF.out _⟩

theorem kept_le {keep : Int} {cs : List (List Int)} (hk : 0 ≤ keep) : ((keptM keep (occM cs)).length : Int) ≤ keep := by
  have hn : (keptM keep (occM cs)).Nodup := (occM_nodup cs).filter _
  have h1 : ((keptM keep (occM cs)).map fun x => x.toNat - 1).Nodup := by
    refine List.pairwise_map.2 (hn.imp_of_mem fun {a b} ha hb hab e => hab ?_)
    have := occM_range (keptM_mem.1 ha).1
    have := occM_range (keptM_mem.1 hb).1
    omega
  have := pigeon2 keep.toNat _ h1 (fun x hx => by
    obtain ⟨y, hy, rfl⟩ := List.mem_map.1 hx
    have h1 := keptM_mem.1 hy
    have := occM_range h1.1
    omega)
  rw [List.length_map] at this
  omega
theorem ccGo_all {keep : Int} {ts : List Claim} : ∀ (n i : Nat), ccGo keep ts n i = 0 → ∀ j, i ≤ j → j < i + n → ccM keep ts j = 0
  | 0, i, _, j, h1, h2 => by omega
  | n + 1, i, h, j, h1, h2 => by
    rw [ccGo] at h
    by_cases hz : ccM keep ts i = 0
    · rw [if_neg (by simp [hz])] at h
      by_cases e : j = i
      · rw [e]; exact hz
      · exact ccGo_all n (i + 1) h j (by omega) (by omega)
    · rw [if_pos hz] at h
      exact absurd h hz
/-- an accepted trace -/
def AccT (keep : Int) (cs : List (List Int)) (ts : List Claim) : Prop :=
  keep ≤ 40 ∧ 0 < ts.length ∧ (∀ i : Nat, i < ts.length → ccM keep ts i = 0) ∧ (ts.getD (ts.length - 1) clNil).cls = cs
theorem tck_acc {vars keep : Int} {cs : List (List Int)} {ts : List Claim} (h : tckM vars keep cs ts = 0) : checkM vars keep cs = 0 ∧ AccT keep cs ts := by
  unfold tckM at h
  by_cases h0 : checkM vars keep cs ≠ 0
  · rw [if_pos h0] at h; exact absurd h h0
  rw [if_neg h0] at h
  by_cases h1 : 40 < keep ∨ 65536 < ts.length
  · rw [if_pos h1] at h; cases h
  rw [if_neg h1] at h
  by_cases h2 : ts.length = 0
  · rw [if_pos h2] at h; cases h
  rw [if_neg h2] at h
  by_cases h3 : ccGo keep ts ts.length 0 ≠ 0
  · rw [if_pos h3] at h; exact absurd h h3
  rw [if_neg h3] at h
  by_cases h4 : ((ts.getD (ts.length - 1) clNil).cls == cs) = false
  · rw [if_pos h4] at h; cases h
  refine ⟨by simpa using h0, by omega, by omega, fun i hi => ccGo_all _ _ (by simpa using h3) i (Nat.zero_le _) (by omega), ?_⟩
  simpa using h4
theorem cc_count {keep : Int} {ts : List Claim} {i : Nat} (h : ccM keep ts i = 0) : 0 ≤ keep ∧ keep ≤ 40 ∧ i < ts.length ∧ canB (ts.getD i clNil).cls = true ∧ 0 ≤ (ts.getD i clNil).count ∧ (ts.getD i clNil).count ≤ 2 ^ (keptM keep (occM (ts.getD i clNil).cls)).length ∧
    (∀ k ∈ (ts.getD i clNil).kids, 0 ≤ k ∧ k < (i : Int)) ∧ folM keep (ts.getD i clNil) (kidsM ts (ts.getD i clNil)) (occM (ts.getD i clNil).cls) = true := by
  unfold ccM at h
  by_cases h1 : keep < 0 ∨ 40 < keep ∨ (i : Int) < 0 ∨ (ts.length : Int) ≤ i
  · rw [if_pos h1] at h; cases h
  rw [if_neg h1] at h
  rw [show ((i : Nat) : Int).toNat = i by omega] at h
  by_cases h2 : canB (ts.getD i clNil).cls = false
  · rw [if_pos h2] at h; cases h
  rw [if_neg h2] at h
  by_cases h3 : (ts.getD i clNil).count < 0 ∨ 2 ^ (keptM keep (occM (ts.getD i clNil).cls)).length < (ts.getD i clNil).count
  · rw [if_pos h3] at h; cases h
  rw [if_neg h3] at h
  by_cases h4 : ((ts.getD i clNil).kids.any fun k => decide (k < 0) || decide ((i : Int) ≤ k)) = true
  · rw [if_pos h4] at h; cases h
  rw [if_neg h4] at h
  by_cases h5 : folM keep (ts.getD i clNil) (kidsM ts (ts.getD i clNil)) (occM (ts.getD i clNil).cls) = false
  · rw [if_pos h5] at h; cases h
  refine ⟨by omega, by omega, by omega, by simpa using h2, by omega, by omega, fun k hk => ?_, by simpa using h5⟩
  have h4' : ((ts.getD i clNil).kids.any fun k => decide (k < 0) || decide ((i : Int) ≤ k)) = false := by simpa using h4
  have := List.any_eq_false.1 h4' k hk
  simp at this
  omega
def totA (vars keep : Int) (cs : List (List Int)) (ts : List Claim) : Int := if tckM vars keep cs ts = 0 then totN keep cs ts else 0
def TotPost (W : World) (n c : Int) (e : Ending) (w' : World) : Prop := e = .returned (.tuple #[.int .i64 n, .int .i64 c]) ∧ Below W.heap.size W w'
set_option maxRecDepth 100000 in
set_option maxHeartbeats 8000000 in
theorem total_any (F : Nat → Prop) (vars keep : Int) (cv tv : Value) (cs : List (List Int)) (ts : List Claim) (w : World) (hc : Clss F w cv cs) (hx : Claims (fun _ => True) w tv ts) (hiv : I64 vars) (hik : I64 keep) (hsz : ∀ c ∈ ts, SzC c) (hl : ts.length ≤ 4000) (hcl : cs.length ≤ 4000) (hcl2 : ∀ c ∈ cs, c.length ≤ 4000) :
    Calls Tryz.prog 13 #[.agg #[.int .i64 vars, .int .i64 keep, cv], .agg #[tv]] w (TotPost w (totA vars keep cs ts) (tckM vars keep cs ts)) := by
  obtain ⟨ta, tn, tc, rfl, HTN, htn⟩ := hx.form
  obtain ⟨ca, cn, cc, rfl, HCN, hcn⟩ := hc.form'
  obtain ⟨bb, hbb⟩ : ∃ b, w.heap.size = b := ⟨_, rfl⟩
  obtain ⟨W1, hW1⟩ : ∃ W, (w.alloc (.cells #[.int .i64 vars, .int .i64 keep, .slice ca cn cc] 32)).alloc (.cells #[.slice ta tn tc] 24) = W := ⟨_, rfl⟩
  have hb1 : Below w.heap.size w W1 := by rw [← hW1]; exact ((Below.refl _ _).alloc (Nat.le_refl _) _).alloc (by simp) _
  have hs1 : W1.heap.size = bb + 1 + 1 := by rw [← hW1]; simp; omega
  have hr0 : W1.heap[bb]? = some (.cells #[.int .i64 vars, .int .i64 keep, .slice ca cn cc] 32) := by rw [← hW1]; exact old_at _ _ _ (new_at' _ _ hbb.symm)
  have hr1 : W1.heap[bb + 1]? = some (.cells #[.slice ta tn tc] 24) := by rw [← hW1]; exact new_at' _ _ (by simp; omega)
  have c0 : W1.cell? ⟨bb, 0, none⟩ = some (.int .i64 vars) := by rw [cell_of_row _ _ _ _ _ _ hr0]; rfl
  have c1 : W1.cell? ⟨bb, 1, none⟩ = some (.int .i64 keep) := by rw [cell_of_row _ _ _ _ _ _ hr0]; rfl
  have c2 : W1.cell? ⟨bb, 2, none⟩ = some (.slice ca cn cc) := by rw [cell_of_row _ _ _ _ _ _ hr0]; rfl
  have t0 : W1.cell? ⟨bb + 1, 0, none⟩ = some (.slice ta tn tc) := by rw [cell_of_row _ _ _ _ _ _ hr1]; rfl
  have htk := tcheck_any _ vars keep _ _ cs ts W1 (hc.below hb1) (hx.below hb1) hiv hik hsz hl
  have hacc := fun h => tck_acc (vars := vars) (keep := keep) (cs := cs) (ts := ts) h
  have hA : totA vars keep cs ts = if tckM vars keep cs ts = 0 then totN keep cs ts else 0 := rfl
  rw [hA]
  generalize tckM vars keep cs ts = C at *
  have HTK := Lib.hid htk
  have HC := Lib.hid (hc.below hb1)
  have HX := Lib.hid (hx.below hb1)
  have HB1 := Lib.hid hb1
  have HW1 := Lib.hid hW1
  have HBB := Lib.hid hbb
  have HACC := Lib.hid hacc
  have HCL2 := Lib.hid hcl2
  clear hA htk hc hx hb1 hW1 hbb hr0 hr1 hsz hik hiv hl hacc hcl2
  by_cases h0 : C = 0
  case neg =>
    rw [if_neg h0]
    have e0 : (C != 0) = true := by simp; exact h0
    clear h0
    go_enter Tryz.func13, Tryz.ntmps13
    go_wp2_with fail
    rw [HW1.out]
    refine HTK.out.mono ?_
    rintro e w2 ⟨rfl, hb2⟩
    have HB2 := Lib.hid (HB1.out.trans (hb2.mono HB1.out.size))
    clear hb2
    go_wp2_with fail
    go_ret2
    exact ⟨rfl, HB2.out⟩
  subst h0
  rw [if_pos rfl]
  obtain ⟨hk40, hpos, hall, hlast⟩ := (HACC.out rfl).2
  have hcc := cc_count (hall (ts.length - 1) (by omega))
  obtain ⟨hk0, _, _, hcan, hct0, hct1, _, _⟩ := hcc
  rw [hlast] at hct1
  obtain ⟨c, hcx⟩ : ∃ c, ts[ts.length - 1]? = some c := ⟨_, List.getElem?_eq_getElem (by omega)⟩
  have hcg : ts.getD (ts.length - 1) clNil = c := by rw [List.getD_eq_getElem?_getD, hcx]; rfl
  have htot : totN keep cs ts = c.count * 2 ^ (keep - (keptM keep (occM cs)).length).toNat := by unfold totN; rw [hcg]
  rw [hcg] at hct0 hct1
  obtain ⟨K, hK⟩ : ∃ K, (keptM keep (occM cs)).length = K := ⟨_, rfl⟩
  have hKk : (K : Int) ≤ keep := by
    rw [← hK]
    exact kept_le hk0
  rw [hK] at htot hct1
  obtain ⟨f, hf⟩ : ∃ f : Nat, keep - K = f := ⟨(keep - K).toNat, by omega⟩
  rw [hf, show ((f : Nat) : Int).toNat = f by omega] at htot
  have hbig : c.count * 2 ^ f ≤ 1099511627776 := by
    have h1 : c.count * 2 ^ f ≤ 2 ^ K * 2 ^ f := Int.mul_le_mul_of_nonneg_right hct1 (Int.pow_nonneg (by omega))
    rw [← Int.pow_add] at h1
    have h2 : (2 : Int) ^ (K + f) ≤ 2 ^ 40 := by
      have : 2 ^ (K + f) ≤ 2 ^ 40 := Nat.pow_le_pow_right (by omega) (by omega)
      exact_mod_cast this
    omega
  have hbig0 : 0 ≤ c.count * 2 ^ f := Int.mul_nonneg hct0 (Int.pow_nonneg (by omega))
  have hsh : wrap64 (c.count * 2 ^ f) = c.count * 2 ^ f := IntWalk.wrap64_in _ ⟨by omega, by omega⟩
  have hsh2 : IntKind.i64.wrap (c.count * 2 ^ f) = c.count * 2 ^ f := IntWalk.i64_in _ ⟨by omega, by omega⟩
  rw [htot]
  obtain ⟨m, hm⟩ : ∃ m, tn = m + 1 := ⟨tn - 1, by have := HTN.out; omega⟩
  have hcm : ts[m]? = some c := by rw [← hcx, ← HTN.out, hm]; rfl
  obtain ⟨xb, xo, xcv, xkv, rfl, _, hxb, _, _, _, _, j4, _⟩ := HX.out.at hcm
  have hw1 : IntKind.i64.wrap ((tn : Int) - 1) = (m : Int) := by rw [IntWalk.i64_in _ ⟨by omega, by omega⟩]; omega
  have hw2 : ((tn : Int) - 1) = (m : Int) := by omega
  have hmk : (m : Int) < tn := by omega
  have hm0 : (0 : Int) ≤ m := by omega
  have hmk' : m < tn := by omega
  have HK := Lib.hid hK
  have HF := Lib.hid hf
  have HW12 := Lib.hid (And.intro hw1 hw2)
  have hk00 := hk0
  clear hm hcm hcx hcg htot hct0 hct1 hcan hall hlast hpos hK hf HACC hw1 hw2
  go_enter Tryz.func13, Tryz.ntmps13
  go_wp2_with fail
  rw [HW1.out]
  refine HTK.out.mono ?_
  rintro e w2 ⟨rfl, hb2⟩
  rw [HBB.out]
  have d0 := below_c hb2 (by omega) c0
  have d1 := below_c hb2 (by omega) c1
  have d2 := below_c hb2 (by omega) c2
  have e0 := below_c hb2 (by omega) t0
  have e4 := below_c hb2 hxb j4
  have HB2 := Lib.hid (HB1.out.trans (hb2.mono HB1.out.size))
  have hoc := occur_any _ _ cs w2 (HC.out.below hb2) hcl HCL2.out
  have HOC := Lib.hid hoc
  have hs2 := hb2.size
  have hxb2 := Nat.lt_of_lt_of_le hxb hb2.size
  clear hb2 hoc c0 c1 c2 t0 j4 HTK HW1 HC
  go_wp2_with fail
  refine HOC.out.mono ?_
  rintro e w3 ⟨ov, os, rfl, hos, hb3, hst, hmem⟩
  obtain rfl := occ_eq hst hmem
  obtain ⟨oa, on, oc, rfl, HON, hon⟩ := hos.form'
  have HOS := Lib.hid hos
  have f1 := below_c hb3 (by omega) d1
  have g0 := below_c hb3 (by omega) e0
  have g4 := below_c hb3 hxb2 e4
  have HB3 := Lib.hid (HB2.out.trans (hb3.mono HB2.out.size))
  have hkp : keep ≤ 40 := hk40
  have hol : on ≤ 20000 := by rw [HON.out]; exact nodup_bound (occM_nodup _) (fun x hx => occM_range hx)
  obtain ⟨O, hO⟩ : ∃ O, occM cs = O := ⟨_, rfl⟩
  rw [hO] at HOS HON HK
  clear hos hb3 hst hmem HOC d0 d1 d2 e0 e4 hO
  go_wp2_with fail
  go_loopg [7, 22] on (fun gg u7 u22 wx => ∃ (j q : Nat), j + gg = on ∧ u22 = .int .i64 j ∧ u7 = .int .i64 (keep - q) ∧ q ≤ j ∧ wx = w3 ∧ Hid ((keptM keep (O.take j)).length = q))
  case atStart => exact ⟨0, 0, by omega, rfl, by rw [show keep - ((0 : Nat) : Int) = keep by omega], by omega, rfl, Lib.hid rfl⟩
  case round =>
  obtain ⟨j, q, hjg, rfl, rfl, hqj, hww, HQ⟩ := hrel
  subst hww
  by_cases hj : j < on
  · obtain ⟨x, hxj⟩ : ∃ x, O[j]? = some x := ⟨_, List.getElem?_eq_getElem (by rw [← HON.out]; exact hj)⟩
    obtain ⟨yb, yo, rfl, _, hyb, hcy, hyi⟩ := HOS.out.at hxj
    have hdj : decide ((j : Int) < on) = true := by simp; omega
    have hdj' : decide (j < on) = true := decide_eq_true hj
    have HT : Hid (O.take (j + 1) = O.take j ++ [x]) := Lib.hid (by rw [List.take_add_one, hxj]; rfl)
    clear hxj hyi
    by_cases hle : x ≤ keep
    · have hd : decide (x ≤ keep) = true := decide_eq_true hle
      have HQ2 : Hid ((keptM keep (O.take (j + 1))).length = q + 1) := Lib.hid (by rw [HT.out]; unfold keptM; rw [List.filter_append, List.length_append]; have := HQ.out; unfold keptM at this; rw [this]; simp [hle])
      clear hle
      go_wp2_with fail
      go_roundg (gk - 1)
      case measure => omega
      case rel => exact ⟨j + 1, q + 1, by omega, by go_num, by rw [show keep - ((q + 1 : Nat) : Int) = keep - q - 1 by omega], by omega, rfl, HQ2⟩
    · have hd : decide (x ≤ keep) = false := decide_eq_false hle
      have HQ2 : Hid ((keptM keep (O.take (j + 1))).length = q) := Lib.hid (by rw [HT.out]; unfold keptM; rw [List.filter_append, List.length_append]; have := HQ.out; unfold keptM at this; rw [this]; simp [hle])
      clear hle
      go_wp2_with fail
      go_roundg (gk - 1)
      case measure => omega
      case rel => exact ⟨j + 1, q, by omega, by go_num, rfl, by omega, rfl, HQ2⟩
  obtain rfl : j = on := by omega
  have hdj : decide ((j : Int) < j) = false := by simp
  have hdj' : decide (j < j) = false := decide_eq_false (by omega)
  have hqK : q = K := by
    have := HQ.out
    rw [List.take_of_length_le (by rw [HON.out]; exact Nat.le_refl _)] at this
    rw [← this]
    exact HK.out
  subst hqK
  rw [HF.out]
  obtain ⟨hw1, hw2⟩ := HW12.out
  have hmin : min f 64 = f := by have := HF.out; omega
  clear HQ
  go_wp2_with fail
  go_ret2
  exact ⟨rfl, HB3.out⟩

/- (Trace seat) Walks: few and short of the statements. No condition. -/
open Go.ChangeShapes Go.WideShapes Go.ChangeAt Go.RowKit
set_option linter.unusedVariables false

def FewPost (W : World) (ts : List Claim) (e : Ending) (w' : World) : Prop := ∃ B, e = .returned (.bool B) ∧ Below W.heap.size W w' ∧ (B = true → ts.length ≤ 120 ∧ ∀ c ∈ ts, SzC c)
def ShortPost (W : World) (cs : List (List Int)) (e : Ending) (w' : World) : Prop := ∃ B, e = .returned (.bool B) ∧ Below W.heap.size W w' ∧ (B = true → cs.length ≤ 20 ∧ ∀ x ∈ cs, x.length ≤ 100)
theorem few_no {W w' : World} {ts : List Claim} (h : Below W.heap.size W w') : FewPost W ts (.returned (.bool false)) w' := ⟨false, rfl, h, fun h => by cases h⟩
set_option maxRecDepth 100000 in
set_option maxHeartbeats 4000000 in
theorem few_any (tv : Value) (ts : List Claim) (w : World) (hx : Claims (fun _ => True) w tv ts) :
    Calls Tryz.prog 9 #[.agg #[tv]] w (FewPost w ts) := by
  obtain ⟨ta, tn, tc, rfl, HTN, htn⟩ := hx.form
  obtain ⟨bb, hbb⟩ : ∃ b, w.heap.size = b := ⟨_, rfl⟩
  obtain ⟨W1, hW1⟩ : ∃ W, w.alloc (.cells #[.slice ta tn tc] 24) = W := ⟨_, rfl⟩
  have hb1 : Below w.heap.size w W1 := by rw [← hW1]; exact (Below.refl _ _).alloc (Nat.le_refl _) _
  have HX := Lib.hid (hx.below hb1)
  have HB1 := Lib.hid hb1
  have HW1 := Lib.hid hW1
  clear hx hb1 hW1
  by_cases h120 : 120 < tn
  · have hd : decide (120 < (tn : Int)) = true := decide_eq_true (by omega)
    have hd' : decide (120 < tn) = true := decide_eq_true h120
    go_enter Tryz.func9, Tryz.ntmps9
    go_wp2_with fail
    rw [HW1.out]
    go_ret
    exact few_no HB1.out
  have hd : decide (120 < (tn : Int)) = false := decide_eq_false (by omega)
  have hd' : decide (120 < tn) = false := decide_eq_false h120
  have hn1 : tn ≤ 120 := by omega
  have HBL : Hid (Below w.heap.size w W1) := HB1
  clear h120
  go_enter Tryz.func9, Tryz.ntmps9
  go_wp2_with fail
  rw [HW1.out]
  go_loopg [3, 14] tn (fun gg u3 u14 wx => ∃ (k : Nat) (l : Int), k + gg = tn ∧ u14 = .int .i64 k ∧ u3 = .int .i64 l ∧ 0 ≤ l ∧ l ≤ 3000 ∧ Hid (Below w.heap.size w wx) ∧ Hid (Below W1.heap.size W1 wx) ∧ Hid (∀ c ∈ ts.take k, SzC c))
  case atStart => exact ⟨0, 3000, by omega, rfl, rfl, by omega, by omega, HBL, Lib.hid (Below.refl _ _), Lib.hid (by simp)⟩
  case round =>
  obtain ⟨k, l, hkg, rfl, rfl, hl0, hl1, HB, HB2, HS⟩ := hrel
  have hsz := HB.out.size
  by_cases hk : k < tn
  case neg =>
    obtain rfl : k = tn := by omega
    have hdk : decide ((k : Int) < k) = false := by simp
    have hdk' : decide (k < k) = false := decide_eq_false (by omega)
    have hs := HS.out
    rw [List.take_of_length_le (by rw [HTN.out]; exact Nat.le_refl _)] at hs
    have HSF := Lib.hid hs
    clear hs HS
    go_wp2_with fail
    go_ret
    exact ⟨true, rfl, HB.out, fun _ => ⟨by rw [← HTN.out]; exact hn1, HSF.out⟩⟩
  obtain ⟨c, hc⟩ : ∃ c, ts[k]? = some c := ⟨_, List.getElem?_eq_getElem (by rw [← HTN.out]; exact hk)⟩
  obtain ⟨xb, xo, xcv, xkv, rfl, _, hxb, j0, j1, j2, j3, j4, ⟨⟨hxc, _, _, hxk, _⟩, _⟩⟩ := (HX.out.below HB2.out).at hc
  have hxc : Clss (fun _ => True) wr xcv c.cls := hxc
  have hxk : Ints (fun _ => True) wr xkv c.kids := hxk
  obtain ⟨xa, xn, xc, rfl, HXN, hxn⟩ := hxc.form'
  obtain ⟨ya, yn, yc, rfl, HYN, hyn⟩ := hxk.form'
  have hdk : decide ((k : Int) < tn) = true := by simp; omega
  have hdk' : decide (k < tn) = true := decide_eq_true hk
  have HT : Hid (ts.take (k + 1) = ts.take k ++ [c]) := Lib.hid (by rw [List.take_add_one, hc]; rfl)
  obtain ⟨g1, hg1⟩ : ∃ g, wr.heap.size = g := ⟨_, rfl⟩
  obtain ⟨W2, hW2⟩ : ∃ W, wr.alloc (.cells #[.slice xa xn xc, .int .i64 c.rule, .int .i64 c.lit, .slice ya yn yc, .int .i64 c.count] 42) = W := ⟨_, rfl⟩
  have hb2 : Below wr.heap.size wr W2 := by rw [← hW2]; exact (Below.refl _ _).alloc (Nat.le_refl _) _
  have hs2 : W2.heap.size = g1 + 1 := by rw [← hW2]; simp; omega
  have q0 : W2.cell? ⟨g1, 0, none⟩ = some (.slice xa xn xc) := by rw [← hg1, ← hW2, cell_of_row _ _ _ _ _ _ (new_at _ _)]; rfl
  have HXC := Lib.hid (hxc.below hb2)
  have HBW := Lib.hid (HB.out.trans (hb2.mono hsz))
  have HBW2 := Lib.hid (HB2.out.trans (hb2.mono HB2.out.size))
  have HW2 := Lib.hid hW2
  have HG1 := Lib.hid hg1
  have hw0 : wrap64 (l - (yn : Int)) = l - yn := IntWalk.wrap64_in _ ⟨by omega, by omega⟩
  have hw0' : IntKind.i64.wrap (l - (yn : Int)) = l - yn := IntWalk.i64_in _ ⟨by omega, by omega⟩
  have HI0 : Hid (0 ≤ l - (yn : Int) → 0 + (l - yn) ≤ 3000 ∧ (yn : Int) ≤ 3000 ∧ ∀ x ∈ c.cls.take 0, x.length ≤ 3000) := Lib.hid fun h => ⟨by omega, by omega, by simp⟩
  obtain ⟨GK, hGK⟩ : ∃ G, G = gk := ⟨_, rfl⟩
  subst hGK
  clear hc hxc hxk hb2 hW2 hg1
  go_wp2_with fail
  rw [HW2.out, HG1.out]
  go_loopg [3, 6] xn (fun gg u3 u6 wx => ∃ (i : Nat) (m : Int), i + gg = xn ∧ u6 = .int .i64 i ∧ u3 = .int .i64 m ∧ -9223372036854775808 ≤ m ∧ m ≤ 3000 ∧ wx = W2 ∧ Hid (0 ≤ m → i + m ≤ 3000 ∧ (yn : Int) ≤ 3000 ∧ ∀ x ∈ c.cls.take i, x.length ≤ 3000))
  case atStart => exact ⟨0, l - yn, by omega, rfl, rfl, by omega, by omega, rfl, HI0⟩
  case round =>
  obtain ⟨i, m, hig, rfl, rfl, hm0, hm1, hww, HI⟩ := hrel
  subst hww
  by_cases hm : 0 ≤ m
  case neg =>
    have hmb : decide (0 ≤ m) = false := decide_eq_false hm
    have hml : decide (m < 0) = true := decide_eq_true (by omega)
    by_cases hi : i < xn
    · have hdi : decide ((i : Int) < xn) = true := by simp; omega
      have hdi' : decide (i < xn) = true := decide_eq_true hi
      clear hm
      go_wp2_with fail
      go_ret
      exact few_no HBW.out
    · have hdi : decide ((i : Int) < xn) = false := by simp; omega
      have hdi' : decide (i < xn) = false := decide_eq_false hi
      clear hm
      go_wp2_with fail
      go_ret
      exact few_no HBW.out
  have hmb : decide (0 ≤ m) = true := decide_eq_true hm
  have hml : decide (m < 0) = false := decide_eq_false (by omega)
  obtain ⟨i1, i2, i3⟩ := HI.out hm
  by_cases hi : i < xn
  case neg =>
    have hdi : decide ((i : Int) < xn) = false := by simp; omega
    have hdi' : decide (i < xn) = false := decide_eq_false hi
    rw [List.take_of_length_le (by rw [← HXN.out]; omega)] at i3
    have HSN : Hid (∀ c ∈ ts.take (k + 1), SzC c) := Lib.hid (by
      rw [HT.out]
      intro y hy
      rcases List.mem_append.1 hy with h | h
      · exact HS.out y h
      · rw [List.mem_singleton] at h
        subst h
        exact ⟨by rw [← HXN.out]; omega, fun x hx => by have := i3 x hx; omega, by rw [← HYN.out]; omega⟩)
    clear i3 HI
    go_wp2_with fail
    go_roundg (GK - 1)
    case measure => omega
    case rel => exact ⟨k + 1, m, by omega, by go_num, rfl, hm, hm1, HBW, HBW2, HSN⟩
  obtain ⟨x, hxi⟩ : ∃ x, c.cls[i]? = some x := ⟨_, List.getElem?_eq_getElem (by rw [← HXN.out]; exact hi)⟩
  obtain ⟨zb, zo, uv, rfl, _, hzb, hcz, hzi⟩ := HXC.out.at hxi
  obtain ⟨ua, un, uc, rfl, HUN, hun⟩ := hzi.form'
  have hdi : decide ((i : Int) < xn) = true := by simp; omega
  have hdi' : decide (i < xn) = true := decide_eq_true hi
  have hil : (i : Int) < xn := by omega
  have HTI : Hid (c.cls.take (i + 1) = c.cls.take i ++ [x]) := Lib.hid (by rw [List.take_add_one, hxi]; rfl)
  have HI2 : Hid (0 ≤ m - 1 - (un : Int) → ((i + 1 : Nat) : Int) + (m - 1 - un) ≤ 3000 ∧ (yn : Int) ≤ 3000 ∧ ∀ x ∈ c.cls.take (i + 1), x.length ≤ 3000) := Lib.hid fun h => ⟨by omega, i2, fun y hy => by
    rw [HTI.out] at hy
    rcases List.mem_append.1 hy with hy | hy
    · exact i3 y hy
    · rw [List.mem_singleton] at hy
      subst hy
      rw [← HUN.out]
      omega⟩
  clear hxi hzi i3 HI
  by_cases hbig : (un : Int) ≤ 9223372036854775806
  · have hv : m - (1 + (un : Int)) = m - 1 - un := by omega
    go_wp2_with fail
    go_roundg (gk - 1)
    case measure => omega
    case rel => exact ⟨i + 1, m - 1 - un, by omega, by go_num, by rw [show m - 1 - (un : Int) = m - (1 + un) by omega], by omega, by omega, rfl, HI2⟩
  · have hv : wrap64 (1 + (un : Int)) = -9223372036854775808 := by rw [show (un : Int) = 9223372036854775807 by omega]; unfold wrap64; omega
    have hv2 : wrap64 (m + 9223372036854775808) = m - 1 - un := by rw [show (un : Int) = 9223372036854775807 by omega]; unfold wrap64; omega
    go_wp2_with fail
    go_roundg (gk - 1)
    case measure => omega
    case rel => exact ⟨i + 1, m - 1 - un, by omega, by go_num, rfl, by omega, by omega, rfl, HI2⟩

set_option maxRecDepth 100000 in
set_option maxHeartbeats 4000000 in
theorem short_any (F : Nat → Prop) (vars keep : Int) (cv : Value) (cs : List (List Int)) (w : World) (hc : Clss F w cv cs) :
    Calls Tryz.prog 12 #[.agg #[.int .i64 vars, .int .i64 keep, cv]] w (ShortPost w cs) := by
  obtain ⟨ca, cn, cc, rfl, HCN, hcn⟩ := hc.form'
  obtain ⟨W1, hW1⟩ : ∃ W, w.alloc (.cells #[.int .i64 vars, .int .i64 keep, .slice ca cn cc] 32) = W := ⟨_, rfl⟩
  have hb1 : Below w.heap.size w W1 := by rw [← hW1]; exact (Below.refl _ _).alloc (Nat.le_refl _) _
  have HX := Lib.hid (hc.below hb1)
  have HB1 := Lib.hid hb1
  have HW1 := Lib.hid hW1
  clear hc hb1 hW1
  by_cases h20 : 20 < cn
  · have hd : decide (20 < (cn : Int)) = true := decide_eq_true (by omega)
    have hd' : decide (20 < cn) = true := decide_eq_true h20
    go_enter Tryz.func12, Tryz.ntmps12
    go_wp2_with fail
    rw [HW1.out]
    go_ret
    exact ⟨false, rfl, HB1.out, fun h => by cases h⟩
  have hd : decide (20 < (cn : Int)) = false := decide_eq_false (by omega)
  have hd' : decide (20 < cn) = false := decide_eq_false h20
  have hn1 : cn ≤ 20 := by omega
  clear h20
  go_enter Tryz.func12, Tryz.ntmps12
  go_wp2_with fail
  rw [HW1.out]
  go_loopg [3, 13] cn (fun gg u3 u13 wx => ∃ (k : Nat) (l : Int), k + gg = cn ∧ u13 = .int .i64 k ∧ u3 = .int .i64 l ∧ l ≤ 100 ∧ 100 - 101 * k ≤ l ∧ wx = W1 ∧ Hid (0 ≤ l → ∀ x ∈ cs.take k, x.length ≤ 100))
  case atStart => exact ⟨0, 100, by omega, rfl, rfl, by omega, by omega, rfl, Lib.hid (by simp)⟩
  case round =>
  obtain ⟨k, l, hkg, rfl, rfl, hl0, hl1, hww, HS⟩ := hrel
  subst hww
  by_cases hk : k < cn
  case neg =>
    obtain rfl : k = cn := by omega
    have hdk : decide ((k : Int) < k) = false := by simp
    have hdk' : decide (k < k) = false := decide_eq_false (by omega)
    have hs := HS.out
    rw [List.take_of_length_le (by rw [HCN.out]; exact Nat.le_refl _)] at hs
    have HSF := Lib.hid hs
    clear hs HS
    go_wp2_with fail
    go_ret
    exact ⟨decide (0 ≤ l), rfl, HB1.out, fun h => ⟨by rw [← HCN.out]; exact hn1, HSF.out (of_decide_eq_true h)⟩⟩
  obtain ⟨x, hxi⟩ : ∃ x, cs[k]? = some x := ⟨_, List.getElem?_eq_getElem (by rw [← HCN.out]; exact hk)⟩
  obtain ⟨zb, zo, uv, rfl, _, hzb, hcz, hzi⟩ := HX.out.at hxi
  obtain ⟨ua, un, uc, rfl, HUN, hun⟩ := hzi.form'
  have hdk : decide ((k : Int) < cn) = true := by simp; omega
  have hdk' : decide (k < cn) = true := decide_eq_true hk
  have HTI : Hid (cs.take (k + 1) = cs.take k ++ [x]) := Lib.hid (by rw [List.take_add_one, hxi]; rfl)
  obtain ⟨q, hq⟩ : ∃ q : Int, min (un : Int) 101 = q := ⟨_, rfl⟩
  have hq0 : 0 ≤ q ∧ q ≤ 101 := by omega
  have HI2 : Hid (0 ≤ l - q → ∀ x ∈ cs.take (k + 1), x.length ≤ 100) := Lib.hid fun h y hy => by
    rw [HTI.out] at hy
    rcases List.mem_append.1 hy with hy | hy
    · exact HS.out (by omega) y hy
    · rw [List.mem_singleton] at hy
      subst hy
      rw [← HUN.out]
      omega
  obtain ⟨hq1, hq2⟩ := hq0
  clear hxi hzi HS
  go_wp2_with fail
  go_roundg (gk - 1)
  case measure => omega
  case rel => exact ⟨k + 1, l - q, by omega, by go_num, rfl, by omega, by omega, rfl, HI2⟩
end Go.Proofs.YtihkknploioakaaGreat
