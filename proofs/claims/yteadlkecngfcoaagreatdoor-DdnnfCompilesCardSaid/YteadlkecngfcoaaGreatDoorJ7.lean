/- (Ddnnf) Walk: the statement DdnnfCompiles. Condition: the table of powers lies as laid. -/
import Derived.Test.YteadlkecngfcoaaGreatDoorJ5
import Derived.Test.YteadlkecngfcoaaGreatDoorJ6
import Derived.Test.YteadlkecngfcoaaGreatDoorUc
import Derived.Test.YteadlkecngfcoaaGreatDoorDk
import Derived.Test.YteadlkecngfcoaaGreatDoorDl
import Derived.Test.YteadlkecngfcoaaGreatDoorDw7
import Derived.Test.YteadlkecngfcoaaGreatDoorDh
import Derived.Deep.RegionHeld3
import Derived.WalkLawsBesides
namespace Go.Proofs.YteadlkecngfcoaaGreatDoor
open Go.ChangeShapes Go.WideShapes Go.ChangeAt Go.RowKit Go.Lib
set_option linter.unusedVariables false
set_option linter.unusedSimpArgs false

def DcPost (W : World) (e : Ending) (w' : World) : Prop := e = .returned (.bool true) ∧ Below W.heap.size W w'
theorem made_wf {V : Nat} {cs : List (List Int)} {ps : List Part} (h : Made V cs ps) : wfGo V ps 0 ∧ 0 < ps.length := by
  have h1 := h.1
  unfold checkedM at h1
  split at h1
  · cases h1
  split at h1
  · cases h1
  split at h1
  · cases h1
  rename_i h3
  exact ⟨wf_of_checked V ps [] h1, by show 0 < ps.length; have : ¬ ps.length = 0 := h3; omega⟩
theorem vs_lits {V : Nat} {cs : List (List Int)} (h : Vs (varsL V) cs) : LitsIn V cs := by
  intro c hc x hx
  obtain ⟨h0, h1⟩ := h c hc x hx
  unfold varsL at h1
  obtain ⟨i, hi, e⟩ := List.mem_map.1 h1
  have hi := List.mem_range.1 hi
  refine ⟨h0, ?_, ?_⟩ <;> (unfold varM at e; split at e <;> omega)
set_option maxRecDepth 100000 in
set_option maxHeartbeats 16000000 in
theorem compiles_any (vars keep : Int) (cv : Value) (cs : List (List Int)) (w : World) (hx : Clss (fun _ => True) w cv cs) (hv : I64 vars) (hk : I64 keep) (ht : TabT w.heap.size w) :
    Calls Tryz.prog 3 #[.agg #[.int .i64 vars, .int .i64 keep, cv]] w (DcPost w) := by
  obtain ⟨ca, cn, cc, rfl, HCN, _⟩ := hx.form'
  obtain ⟨D, hD⟩ : ∃ b, w.heap.size = b := ⟨_, rfl⟩
  obtain ⟨W1, hW1⟩ : ∃ W, w.alloc (.cells #[.int .i64 vars, .int .i64 keep, .slice ca cn cc] 24) = W := ⟨_, rfl⟩
  have hb1 : Below w.heap.size w W1 := by rw [← hW1]; exact (Below.refl _ _).alloc (Nat.le_refl _) _
  have hs1 : W1.heap.size = D + 1 := by rw [← hW1]; simp; omega
  have hr0 : W1.heap[D]? = some (.cells #[.int .i64 vars, .int .i64 keep, .slice ca cn cc] 24) := by rw [← hW1]; exact new_at' _ _ hD.symm
  have c0 : W1.cell? ⟨D, 0, none⟩ = some (.int .i64 vars) := by rw [cell_of_row _ _ _ _ _ _ hr0]; rfl
  have c1 : W1.cell? ⟨D, 1, none⟩ = some (.int .i64 keep) := by rw [cell_of_row _ _ _ _ _ _ hr0]; rfl
  have c2 : W1.cell? ⟨D, 2, none⟩ = some (.slice ca cn cc) := by rw [cell_of_row _ _ _ _ _ _ hr0]; rfl
  have HX := Lib.hid (Clss.below hx hb1)
  have HB1 := Lib.hid hb1
  have HT := Lib.hid (ht.below hb1 (Nat.le_refl _))
  have HKN := Lib.hid (known_any W1)
  have HW1 := Lib.hid hW1
  have HDD := Lib.hid hD
  have HVK := Lib.hid (And.intro hv hk)
  clear hx hb1 hr0 hW1 hD ht hv hk
  go_enter Tryz.func3, Tryz.ntmps3
  go_upto_region 1 with fail
  try rw [HW1.out, HDD.out]
  go_wp2_with fail
  refine HKN.out.mono ?_
  rintro e w2 ⟨rfl, hb2⟩
  have HB2 := Lib.hid (HB1.out.trans (hb2.mono HB1.out.size))
  have HX2 := Lib.hid (Clss.below HX.out hb2)
  have HT2 := Lib.hid (HT.out.below hb2 (by rw [HDD.out]; omega))
  have c0 := below_c hb2 (by omega) c0
  have c1 := below_c hb2 (by omega) c1
  have c2 := below_c hb2 (by omega) c2
  have hs2 : D + 1 ≤ w2.heap.size := by rw [← hs1]; exact hb2.size
  clear hb2 HKN HX HT HB1 HW1 hs1
  by_cases h8 : (8 : Int) < vars
  · have d8 : decide ((8 : Int) < vars) = true := decide_eq_true h8
    go_wp2_with fail
    go_ret
    exact ⟨rfl, HB2.out⟩
  have d8 : decide ((8 : Int) < vars) = false := decide_eq_false h8
  by_cases h30 : 30 < cn
  · have d30 : decide ((30 : Int) < cn) = true := decide_eq_true (by omega)
    have d30' : decide (30 < cn) = true := decide_eq_true h30
    go_wp2_with fail
    go_ret
    exact ⟨rfl, HB2.out⟩
  have d30 : decide ((30 : Int) < cn) = false := decide_eq_false (by omega)
  have d30' : decide (30 < cn) = false := decide_eq_false h30
  have HL0 : Hid (∀ c ∈ cs.take 0, c.length ≤ 10) := Lib.hid (by simp)
  go_wp2_with fail
  go_loopg [24] cn (fun gg u24 wx => ∃ k : Nat, k + gg = cn ∧ u24 = .int .i64 k ∧ wx = w2 ∧ Hid (∀ c ∈ cs.take k, c.length ≤ 10))
  case atStart => exact ⟨0, by omega, rfl, rfl, HL0⟩
  case round =>
  clear HL0
  obtain ⟨k, hkg, rfl, hww, HLK⟩ := hrel
  subst hww
  by_cases hk : k < cn
  case pos =>
    obtain ⟨c, hc⟩ : ∃ c, cs[k]? = some c := ⟨_, List.getElem?_eq_getElem (by rw [← HCN.out]; exact hk)⟩
    obtain ⟨xb, xo, xv, rfl, _, hxb, hxc, hxi⟩ := HX2.out.at hc
    obtain ⟨xa, xn, xcp, rfl, HXN, _⟩ := hxi.form'
    have hdk : decide ((k : Int) < cn) = true := by simp; omega
    have hdk' : decide (k < cn) = true := decide_eq_true hk
    have HTK : Hid (cs.take (k + 1) = cs.take k ++ [c]) := Lib.hid (by rw [List.take_add_one, hc]; rfl)
    clear hc hxi
    by_cases h10 : 10 < xn
    · have d10 : decide ((10 : Int) < xn) = true := decide_eq_true (by omega)
      have d10' : decide (10 < xn) = true := decide_eq_true h10
      go_wp2_with fail
      go_ret
      exact ⟨rfl, HB2.out⟩
    have d10 : decide ((10 : Int) < xn) = false := decide_eq_false (by omega)
    have d10' : decide (10 < xn) = false := decide_eq_false h10
    have HLN : Hid (∀ c ∈ cs.take (k + 1), c.length ≤ 10) := Lib.hid fun d hd => by
      rw [HTK.out] at hd
      rcases List.mem_append.1 hd with hd | hd
      · exact HLK.out d hd
      · rw [List.mem_singleton.1 hd, ← HXN.out]; omega
    clear HLK
    go_wp2_with fail
    go_roundg (gk - 1)
    case measure => omega
    case rel => exact ⟨k + 1, by omega, by go_num, rfl, HLN⟩
  obtain rfl : k = cn := by omega
  have hdk : decide ((k : Int) < k) = false := by simp
  have hdk' : decide (k < k) = false := decide_eq_false (by omega)
  have hll : ∀ c ∈ cs, c.length ≤ 10 := by
    have h := HLK.out
    rw [List.take_of_length_le (by rw [HCN.out]; exact Nat.le_refl _)] at h
    exact h
  have HCO := Lib.hid (compile_any _ w.heap.size vars keep _ cs wr HX2.out HVK.out.1 HVK.out.2 (by omega) (by rw [← HCN.out]; omega) hll HT2.out HB2.out.size)
  clear hll HLK
  go_wp2_with fail
  refine HCO.out.mono ?_
  rintro e w3 ⟨d, pv, ps, code, rfl, hpt, hb3, hd64, HR⟩
  obtain ⟨pa, pc, rfl, hpl63⟩ := hpt.form
  obtain ⟨pn, hpn⟩ : ∃ n, ps.length = n := ⟨_, rfl⟩
  rw [hpn] at hpt ⊢
  obtain ⟨U, hU⟩ : ∃ U, w3.heap.size = U := ⟨_, rfl⟩
  obtain ⟨W4, hW4⟩ : ∃ W, w3.alloc (.cells #[.int .i64 d, .slice pa pn pc] 29) = W := ⟨_, rfl⟩
  have hb4 : Below w3.heap.size w3 W4 := by rw [← hW4]; exact (Below.refl _ _).alloc (Nat.le_refl _) _
  have hr4 : W4.heap[U]? = some (.cells #[.int .i64 d, .slice pa pn pc] 29) := by rw [← hW4]; exact new_at' _ _ hU.symm
  have u0 : W4.cell? ⟨U, 0, none⟩ = some (.int .i64 d) := by rw [cell_of_row _ _ _ _ _ _ hr4]; rfl
  have u1 : W4.cell? ⟨U, 1, none⟩ = some (.slice pa pn pc) := by rw [cell_of_row _ _ _ _ _ _ hr4]; rfl
  have hb34 := hb3.trans (hb4.mono hb3.size)
  have HB4 := Lib.hid (HB2.out.trans (hb34.mono HB2.out.size))
  have HX4 := Lib.hid (Clss.below HX2.out hb34)
  have HP4 := Lib.hid (hpt.below hb4)
  have c0 := below_c hb34 (by omega) c0
  have c1 := below_c hb34 (by omega) c1
  have c2 := below_c hb34 (by omega) c2
  have HPN := Lib.hid hpn
  have hs4 : W4.heap.size = U + 1 := by rw [← hW4]; simp; omega
  have hDU : D < U := by rw [← hU]; have := hb3.size; omega
  obtain ⟨E, hE⟩ : ∃ E, checkM vars keep cs = E := ⟨_, rfl⟩
  have HCK := Lib.hid (check_any _ vars keep _ cs W4 HX4.out HVK.out.1 HVK.out.2)
  rw [hE] at HCK HR
  have HEE := Lib.hid hE
  have HW4 := Lib.hid hW4
  have HUU := Lib.hid hU
  clear hpt hb3 hb4 hr4 hb34 hpn hE hW4 hU HCO hpl63 HT2 HB2 HX2
  go_upto_region 12 with fail
  try rw [HW4.out, HUU.out]
  go_wp2_with fail
  refine HCK.out.mono ?_
  rintro e w5 ⟨rfl, hb5⟩
  have HB5 := Lib.hid (HB4.out.trans (hb5.mono HB4.out.size))
  have HX5 := Lib.hid (Clss.below HX4.out hb5)
  have HP5 := Lib.hid (HP4.out.below hb5)
  have c0 := below_c hb5 (by omega) c0
  have c1 := below_c hb5 (by omega) c1
  have c2 := below_c hb5 (by omega) c2
  have u0 := below_c hb5 (by omega) u0
  have u1 := below_c hb5 (by omega) u1
  have hs5 : U + 1 ≤ w5.heap.size := by rw [← hs4]; exact hb5.size
  clear hb5 HCK HB4 HX4 HP4 hs4
  by_cases hE0 : E = 0
  case neg =>
    have hne : (E != 0) = true := by simp; exact hE0
    obtain rfl : code = E := HR.out.1 hE0
    have hee : (code == code) = true := by simp
    clear hE0 HR
    go_wp2_with fail
    go_ret
    exact ⟨rfl, HB5.out⟩
  subst hE0
  by_cases hkv : keep = vars
  case neg =>
    have hne : (keep != vars) = true := by simp; exact hkv
    obtain rfl : code = 2 := HR.out.2.1 rfl hkv
    clear hkv HR
    go_wp2_with fail
    go_ret
    exact ⟨rfl, HB5.out⟩
  obtain ⟨rfl, rfl, hmade⟩ := HR.out.2.2 rfl hkv
  subst hkv
  have hck : 0 ≤ keep := by
    have h := HEE.out
    unfold checkM at h
    split at h
    · cases h
    · omega
  obtain ⟨V, rfl⟩ : ∃ V : Nat, keep = V := ⟨keep.toNat, by omega⟩
  have hV8 : V ≤ 8 := by omega
  have hmade : Made V cs ps := by simpa using hmade
  obtain ⟨hwf, hpos⟩ := made_wf hmade
  have hpn0 : pn ≤ 10000 ∧ 0 < pn := by rw [← HPN.out]; exact ⟨hmade.2.2, hpos⟩
  have HEV := Lib.hid hmade.2.1
  have HWF := Lib.hid hwf
  have hlits := vs_lits (vars_vs HEE.out)
  have HLI := Lib.hid hlits
  obtain ⟨P, hP⟩ : ∃ P, 2 ^ V = P := ⟨_, rfl⟩
  have hP64 : P ≤ 256 := by rw [← hP]; exact (Nat.pow_le_pow_right (by omega) hV8 : 2 ^ V ≤ 2 ^ 8)
  have hsh : wrap64 (2 ^ V) = (P : Int) := by
    have : ((2 : Int) ^ V) = ((2 ^ V : Nat) : Int) := by simp
    rw [this, hP]
    exact IntWalk.wrap64_in _ ⟨by omega, by omega⟩
  have HP := Lib.hid hP
  have d1 : ((0 : Int) != 0) = false := by decide
  have d2 : ((V : Int) != V) = false := by simp
  have d3 : decide ((V : Int) < 0) = false := decide_eq_false (by omega)
  have d4 : decide ((16384 : Int) < pn) = false := decide_eq_false (by omega)
  have d4' : decide (16384 < pn) = false := decide_eq_false (by omega)
  have HPR := Lib.hid (proper_any _ V _ cs w5 HX5.out hlits (by omega))
  have hcl := lcheckd_any _ (V : Int) _ ps w5 HP5.out ⟨by omega, by omega⟩
  rw [← check_eq, hmade.1] at hcl
  have HCL := Lib.hid hcl
  clear hmade hwf hpos hlits hP hcl hck HR
  go_wp2_with fail
  refine HPR.out.mono ?_
  rintro e w6 ⟨rfl, hww⟩
  subst hww
  clear HPR
  go_wp2_with fail
  refine HCL.out.mono ?_
  rintro e w7 ⟨rfl, hb7⟩
  have HB7 := Lib.hid (HB5.out.trans (hb7.mono HB5.out.size))
  have HX7 := Lib.hid (Clss.below HX5.out hb7)
  have HP7 := Lib.hid (HP5.out.below hb7)
  have c0 := below_c hb7 (by omega) c0
  have c2 := below_c hb7 (by omega) c2
  have u0 := below_c hb7 (by omega) u0
  have u1 := below_c hb7 (by omega) u1
  have hs7 : U + 1 ≤ w7.heap.size := by have := hb7.size; omega
  have HBL : Hid (Below w7.heap.size w7 w7) := Lib.hid (Below.refl _ _)
  clear hb7 HCL HB5 HX5 HP5
  go_wp2_with fail
  try rw [hsh]
  go_loopg [87] P (fun gg u87 wx => ∃ (j : Nat), j + gg = P ∧ u87 = .int .i64 j ∧ Hid (Below w7.heap.size w7 wx))
  case atStart => exact ⟨0, by omega, rfl, HBL⟩
  case round =>
  clear HBL
  obtain ⟨j, hjg, rfl, HBR⟩ := hrel
  have hszr := HBR.out.size
  by_cases hj : j < P
  case neg =>
    have hdj : decide ((j : Int) < P) = false := by simp; omega
    have hdj' : decide (j < P) = false := decide_eq_false hj
    have HBF : Hid (Below w.heap.size w wr) := Lib.hid (HB7.out.trans (HBR.out.mono HB7.out.size))
    go_wp2_with fail
    go_ret
    exact ⟨rfl, HBF.out⟩
  have hdj : decide ((j : Int) < P) = true := by simp; omega
  have hdj' : decide (j < P) = true := decide_eq_true hj
  have y0 := below_c HBR.out (by omega) c0
  have y2 := below_c HBR.out (by omega) c2
  have z0 := below_c HBR.out (by omega) u0
  have z1 := below_c HBR.out (by omega) u1
  have HAS := Lib.hid (assign_any V j wr (by omega) (by omega))
  go_wp2_with fail
  refine HAS.out.mono ?_
  rintro e w8 ⟨iv, rfl, hbo, hb8⟩
  obtain ⟨ia, ic, rfl, _⟩ := hbo.form
  obtain ⟨iN, hiN⟩ : ∃ n, (assM V j).length = n := ⟨_, rfl⟩
  rw [hiN] at hbo ⊢
  have HAL : Hid ((assM V j).length = V) := Lib.hid (assM_len V j)
  have HB8 := Lib.hid (HBR.out.trans (hb8.mono hszr))
  have HX8 := Lib.hid (Clss.below (Clss.below HX7.out HBR.out) hb8)
  have HP8 := Lib.hid ((HP7.out.below HBR.out).below hb8)
  have HBO := Lib.hid hbo
  have y0 := below_c hb8 (by omega) y0
  have y2 := below_c hb8 (by omega) y2
  have z0 := below_c hb8 (by omega) z0
  have z1 := below_c hb8 (by omega) z1
  have hs8 : U + 1 ≤ w8.heap.size := by have := hb8.size; omega
  obtain ⟨R, hR⟩ : ∃ R, evR (fI (assM V j)) cs = R := ⟨_, rfl⟩
  have HHO : Hid (∀ W, Below w8.heap.size w8 W → Calls Tryz.prog 10 #[.agg #[.int .i64 V, .slice pa pn pc], .slice ia iN ic] W fun e w' => e = .returned (.bool R) ∧ Below W.heap.size W w') := Lib.hid fun W hb => by
    have h := holds_any (V : Int) _ _ ps (assM V j) W (HP8.out.below hb) (Bools.below HBO.out hb) (by rw [HPN.out]; omega) (by rw [HPN.out]; omega) (by rw [HAL.out]; exact HWF.out) (by rw [HAL.out]; omega)
    rw [HEV.out, hR] at h
    exact h
  have HSA : Hid (∀ W, Below w8.heap.size w8 W → Calls Tryz.prog 11 #[.slice ca k cc, .slice ia iN ic] W fun e w' => e = .returned (.bool R) ∧ Below W.heap.size W w') := Lib.hid fun W hb => by
    have h := satisfied_any _ _ _ _ cs (assM V j) W (Clss.below HX8.out hb) (Bools.below HBO.out hb) (by rw [HAL.out]; exact HLI.out) (by rw [HAL.out]; omega)
    rw [hR] at h
    refine h.mono ?_
    rintro e w' ⟨h1, rfl⟩
    exact ⟨h1, Below.refl _ _⟩
  have hRR : (R != R) = false := by simp
  have HDR : Hid (Below w8.heap.size w8 w8.drew) := Lib.hid (Below.refl _ _).drew
  have HBZ : Hid (wr.heap.size ≤ w8.heap.size) := Lib.hid hb8.size
  clear hbo hb8 hiN hR HAS HX8 HP8 HBO HBR
  go_upto_region 23 with fail
  go_region_held3 (fun w' => w'.cell? ⟨U, 0, none⟩ = some (.int .i64 V) ∧ w'.cell? ⟨U, 1, none⟩ = some (.slice pa pn pc) ∧ w'.cell? ⟨D, 2, none⟩ = some (.slice ca k cc))
    (exact ⟨z0, z1, y2⟩)
    (first | (go_at_call 10; (with_reducible refine (HHO.out _ HDR.out).mono ?_); rintro e wz ⟨rfl, hbz⟩; have z0 := below_c hbz (Nat.lt_of_lt_of_le (show U < w8.heap.size by omega) HDR.out.size) z0; have z1 := below_c hbz (Nat.lt_of_lt_of_le (show U < w8.heap.size by omega) HDR.out.size) z1; have y2 := below_c hbz (Nat.lt_of_lt_of_le (show D < w8.heap.size by omega) HDR.out.size) y2; have HDR := Lib.hid (HDR.out.trans (hbz.mono HDR.out.size)); clear hbz)
           | (go_at_call 11; (with_reducible refine (HSA.out _ HDR.out).mono ?_); rintro e wz ⟨rfl, hbz⟩; have z0 := below_c hbz (Nat.lt_of_lt_of_le (show U < w8.heap.size by omega) HDR.out.size) z0; have z1 := below_c hbz (Nat.lt_of_lt_of_le (show U < w8.heap.size by omega) HDR.out.size) z1; have y2 := below_c hbz (Nat.lt_of_lt_of_le (show D < w8.heap.size by omega) HDR.out.size) y2; have HDR := Lib.hid (HDR.out.trans (hbz.mono HDR.out.size)); clear hbz))
  all_goals (
    have HBN := Lib.hid (HB8.out.trans (HDR.out.mono (Nat.le_trans hszr HBZ.out)))
    go_wp2_with fail
    go_roundg (gk - 1)
    case measure => omega
    case rel => exact ⟨j + 1, by omega, by go_num, HBN⟩)
end Go.Proofs.YteadlkecngfcoaaGreatDoor
