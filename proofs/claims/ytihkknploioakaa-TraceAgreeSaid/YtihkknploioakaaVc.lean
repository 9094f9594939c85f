/- (Trace seat) Walks: lost, residual, canonical of the package trace. No condition but the sizes. -/
import Derived.Test.YtihkknploioakaaVb
namespace Go.Proofs.Ytihkknploioakaa
open Go.ChangeShapes Go.WideShapes Go.ChangeAt Go.RowKit
set_option linter.unusedVariables false

def IntPost (W : World) (n : Int) (e : Ending) (w' : World) : Prop := e = .returned (.int .i64 n) ∧ Below W.heap.size W w'
theorem keptM_len (keep : Int) (vs : List Int) : (keptM keep vs).length ≤ vs.length := List.length_filter_le _ _
theorem lostM_step (v : Int) (there : List Int) (xs : List Int) (x : Int) : lostM v (xs ++ [x]) there = lostM v xs there + if (decide (x ≠ v) && !there.contains x) = true then 1 else 0 := by
  unfold lostM
  rw [List.filter_append, List.length_append]
  by_cases h : (decide (x ≠ v) && !there.contains x) = true
  · rw [if_pos h, List.filter_cons, if_pos h]; rfl
  · rw [if_neg h, List.filter_cons, if_neg h]; rfl
set_option maxRecDepth 100000 in
set_option maxHeartbeats 2000000 in
theorem lost_any (b : Nat) (keep v : Int) (c : Claim) (kcv kkv vv : Value) (kid : Claim) (vs : List Int) (w : World) (hc : w.cell? ⟨b, 0, none⟩ = some (.int .i64 keep)) (hcv : w.cell? ⟨b, 7, none⟩ = some vv)
    (hvs : Ints (fun _ => True) w vv vs) (hvl : vs.length ≤ 100000) (hk : Clss (fun _ => True) w kcv kid.cls) (hsz : SzC kid) (hv : I64 v) :
    Calls Try.prog 46 #[.pointer (some ⟨b, 0, none⟩), .int .i64 v, .agg #[kcv, .int .i64 kid.rule, .int .i64 kid.lit, kkv, .int .i64 kid.count]] w (IntPost w (lostM v (keptM keep vs) (occM kid.cls))) := by
  obtain ⟨ka, kn, kc, rfl, HKN, _⟩ := hk.form'
  obtain ⟨va, vn, vc, rfl, HVN, _⟩ := hvs.form'
  obtain ⟨W1, hW1⟩ : ∃ W, w.alloc (.cells #[.slice ka kn kc, .int .i64 kid.rule, .int .i64 kid.lit, kkv, .int .i64 kid.count] 40) = W := ⟨_, rfl⟩
  have hb1 : Below w.heap.size w W1 := by rw [← hW1]; exact (Below.refl _ _).alloc (Nat.le_refl _) _
  have hlt := block_lt hc
  have c0 := below_c hb1 hlt hc
  have c7 := below_c hb1 hlt hcv
  have d0 : W1.cell? ⟨w.heap.size, 0, none⟩ = some (.slice ka kn kc) := by rw [← hW1, cell_of_row _ _ _ _ _ _ (new_at _ _)]; rfl
  have hoc := occur_any _ _ kid.cls W1 (hk.below hb1) hsz.1 hsz.2.1
  have HOC := Lib.hid hoc
  have HVS := Lib.hid (hvs.below hb1)
  have HB1 := Lib.hid hb1
  have HW1 := Lib.hid hW1
  have HV := Lib.hid hv
  clear hoc hvs hb1 hW1 hc hcv hk hsz hv
  go_enter Try.func46, Try.ntmps46
  go_wp2_with fail
  rw [HW1.out]
  refine HOC.out.mono ?_
  rintro e w2 ⟨ov, os, rfl, ho, hb2, hst, hmem⟩
  obtain rfl := occ_eq hst hmem
  have hl1 := Nat.lt_of_lt_of_le hlt HB1.out.size
  have e0 := below_c hb2 hl1 c0
  have e7 := below_c hb2 hl1 c7
  have hkp := kept_any _ b keep _ vs w2 e0 (HVS.out.below hb2) hvl
  obtain ⟨oa, on, oc, rfl, HON, hon⟩ := ho.form'
  have HOS := Lib.hid ho
  have HKP := Lib.hid hkp
  have HB2 := Lib.hid (HB1.out.trans (hb2.mono HB1.out.size))
  have hl2 := Nat.lt_of_lt_of_le hl1 hb2.size
  generalize hocc : occM kid.cls = O at *
  clear hkp ho hb2 hst hmem HOC HW1 hocc c0 c7 d0
  go_wp2_with fail
  refine HKP.out.mono ?_
  rintro e w3 ⟨pv, rfl, hp, hb3⟩
  obtain ⟨pa, pn, pc, rfl, HPN, hpn⟩ := hp.form'
  have HP := Lib.hid hp
  have HO3 := Lib.hid (HOS.out.below hb3)
  have HB3 := Lib.hid (HB2.out.trans (hb3.mono HB2.out.size))
  have hpl : pn ≤ 100000 := by rw [HPN.out]; exact Nat.le_trans (keptM_len _ _) hvl
  generalize keptM keep vs = P at *
  clear hp hb3 HKP HOS
  go_wp2_with fail
  go_loopg [8, 21] pn (fun gg u8 u21 wx => ∃ (k m : Nat), k + gg = pn ∧ u21 = .int .i64 k ∧ u8 = .int .i64 m ∧ m ≤ k ∧ wx = w3 ∧ Hid (m = lostM v (P.take k) O))
  case atStart => exact ⟨0, 0, by omega, rfl, rfl, Nat.le_refl _, rfl, Lib.hid rfl⟩
  case round =>
  obtain ⟨k, m, hkg, rfl, rfl, hmk, hww, HM⟩ := hrel
  subst hww
  by_cases hk : k < pn
  · obtain ⟨x, hxk⟩ : ∃ x, P[k]? = some x := ⟨_, List.getElem?_eq_getElem (by rw [← HPN.out]; exact hk)⟩
    obtain ⟨xb, xo, rfl, _, hxb, hcx, hxi⟩ := HP.out.at hxk
    have hdk : decide ((k : Int) < pn) = true := by simp; omega
    have hdk' : decide (k < pn) = true := decide_eq_true hk
    have HT : Hid (lostM v (P.take (k + 1)) O = m + if (decide (x ≠ v) && !O.contains x) = true then 1 else 0) := Lib.hid (by rw [List.take_add_one, hxk]; show lostM v (P.take k ++ [x]) O = _; rw [lostM_step, ← HM.out])
    have HCN := Lib.hid (contains_any _ _ O x _ HO3.out hxi)
    clear hxk hxi hxb
    by_cases hxv : x = v
    · have e1 : (x != v) = false := by simp; exact hxv
      have HF : Hid (m = lostM v (P.take (k + 1)) O) := Lib.hid (by rw [HT.out, hxv]; simp)
      clear hxv HT
      go_wp2_with fail
      go_roundg (gk - 1)
      case measure => omega
      case rel => exact ⟨k + 1, m, by omega, by go_num, rfl, by omega, rfl, HF⟩
    have e1 : (x != v) = true := by simp; exact hxv
    obtain ⟨E, hE⟩ : ∃ E, O.contains x = E := ⟨_, rfl⟩
    rw [hE] at HCN
    have HF : Hid (lostM v (P.take (k + 1)) O = m + if (!E) = true then 1 else 0) := Lib.hid (by rw [HT.out, hE]; simp [hxv])
    clear hE HT hxv
    go_wp2_with fail
    refine HCN.out.mono ?_
    rintro e w9 ⟨rfl, hw9⟩
    subst hw9
    rcases E with _ | _
    · go_wp2_with fail
      go_roundg (gk - 1)
      case measure => omega
      case rel => exact ⟨k + 1, m + 1, by omega, by go_num, by go_num, by omega, rfl, Lib.hid (by rw [HF.out]; rfl)⟩
    · go_wp2_with fail
      go_roundg (gk - 1)
      case measure => omega
      case rel => exact ⟨k + 1, m, by omega, by go_num, rfl, by omega, rfl, Lib.hid (by rw [HF.out]; rfl)⟩
  · obtain rfl : k = pn := by omega
    have hdk : decide ((k : Int) < k) = false := by simp
    have hdk' : decide (k < k) = false := decide_eq_false (by omega)
    have hh := HM.out
    rw [List.take_of_length_le (by rw [HPN.out]; exact Nat.le_refl _)] at hh
    have HH := Lib.hid hh
    clear hh HM
    go_wp2_with fail
    go_ret
    exact ⟨by rw [← HH.out]; rfl, HB3.out⟩

set_option maxRecDepth 100000 in
set_option maxHeartbeats 2000000 in
theorem residualk_any (b : Nat) (keep : Int) (cv kv qv vv : Value) (c : Claim) (ks : List Claim) (vs : List Int) (i : Nat) (lit : Int) (w : World) (hc : Ckr w b keep cv kv qv vv c ks vs) (hi : i < ks.length) (hi2 : i ≤ 10) (hlit : I64 lit) (hsz : SzC c) :
    Calls Try.prog 44 #[.pointer (some ⟨b, 0, none⟩), .int .i64 i, .int .i64 lit] w (BoolPost w (resB c ks i lit)) := by
  obtain ⟨⟨_, c1, _, _, _, _, c6, _⟩, hcl, hks, _⟩ := hc
  have hlt := block_lt c1
  obtain ⟨ca, cn, cc, rfl, _, _⟩ := hcl.form'
  obtain ⟨qa, qn, qc, rfl, HQN, _⟩ := hks.form
  obtain ⟨kid, hkid⟩ : ∃ k, ks[i]? = some k := ⟨_, List.getElem?_eq_getElem hi⟩
  obtain ⟨kb, ko, kcv, kkv, rfl, _, hkb, k0, _, _, _, _, ⟨⟨hkcl, _⟩, _⟩⟩ := hks.at hkid
  obtain ⟨ka, kn, kc, rfl, _, _⟩ := hkcl.form'
  have hres : resB c ks i lit = (kid.cls == resM c.cls lit) := by unfold resB; rw [List.getD_eq_getElem?_getD, hkid]; rfl
  rw [hres]
  have hiq : (i : Int) < qn := by rw [HQN.out]; omega
  have hra := residual_any _ _ c.cls lit w.drew (hcl.below (Below.refl _ _).drew) hlit (by have := hsz.1; omega) (fun x hx => by have := hsz.2.1 x hx; omega)
  have HRA := Lib.hid hra
  have HKC := Lib.hid hkcl
  have HI := Lib.hid hi
  clear hra hkcl hres hcl hks hsz hlit hkid hi
  go_enter Try.func44, Try.ntmps44
  go_wp2_with fail
  go_region_held3 (fun w' => w'.cell? ⟨b, 1, none⟩ = some (.slice ca cn cc) ∧ w'.cell? ⟨b, 6, none⟩ = some (.slice (some ⟨kb, ko, none⟩) qn qc) ∧ w'.cell? ⟨kb, ko + i * 5, none⟩ = some (.slice ka kn kc))
    (first | exact ⟨c1, c6, k0⟩ | exact ⟨u1, u6, u0⟩ | exact ⟨x1, x6, x0⟩ | go_keep)
    (first | (go_at_call 67; refine HRA.out.mono ?_; rintro e w5 ⟨rv, rfl, hrv, hb5⟩; have HRV := Lib.hid hrv; obtain ⟨ra, rn, rc, rfl, _, _⟩ := hrv.form'; have hbd : Below w.heap.size w w5 := ⟨hb5.os, hb5.tape, hb5.output, hb5.size, hb5.block⟩; have HBD := Lib.hid hbd; have u1 := below_c hbd hlt c1; have u6 := below_c hbd hlt c6; have u0 := below_c hbd hkb k0; have HKC5 := Lib.hid (HKC.out.below hbd); clear hrv hb5 hbd)
           | (go_at_call 13; refine (tequal_any _ _ _ _ w5 HKC5.out HRV.out).mono ?_; rintro e w6 ⟨rfl, nd, rfl⟩; have HB6 : Hid (Below w.heap.size w (w5.drewN nd)) := Lib.hid (below_drewN HBD.out nd); have x1 := below_c HB6.out hlt c1; have x6 := below_c HB6.out hlt c6; have x0 := below_c HB6.out hkb k0))
  try go_wp2_with fail
  go_ret
  exact ⟨rfl, HB6.out⟩

set_option maxRecDepth 100000 in
set_option maxHeartbeats 2000000 in
theorem canonical_trace (F : Nat → Prop) (v : Value) (cs : List (List Int)) (w : World) (hx : Clss F w v cs) (hl : cs.length ≤ 4000) (hll : ∀ c ∈ cs, c.length ≤ 4000) :
    Calls Try.prog 14 #[v] w (BoolPost w (canB cs)) := by
  obtain ⟨a, n, c, rfl, HN, hn⟩ := hx.form'
  obtain ⟨R, hR⟩ : ∃ R, canB cs = R := ⟨_, rfl⟩
  have HR : Hid (((cs.drop 0).all (fun c => c.all litOk) && (canM cs == cs)) = R) := Lib.hid hR
  rw [hR]
  have HX := Lib.hid hx
  have HCA := Lib.hid (canonical_any F _ cs w hx (by omega) (fun x hx => by have := hll x hx; omega))
  have hn4 : n ≤ 4000 := by rw [HN.out]; exact hl
  have HLL := Lib.hid hll
  clear hR hx hl hll
  go_enter Try.func14, Try.ntmps14
  go_wp2_with fail
  go_loopg [9] n (fun gg u9 wx => ∃ (k : Nat), k + gg = n ∧ u9 = .int .i64 k ∧ wx = w ∧ Hid (((cs.drop k).all (fun c => c.all litOk) && (canM cs == cs)) = R))
  case atStart => exact ⟨0, by omega, rfl, rfl, HR⟩
  case round =>
  obtain ⟨k, hkg, rfl, hww, HM⟩ := hrel
  subst hww
  by_cases hk : k < n
  case neg =>
    obtain rfl : k = n := by omega
    have hdk : decide ((k : Int) < k) = false := by simp
    have hdk' : decide (k < k) = false := decide_eq_false (by omega)
    have hh := HM.out
    rw [List.drop_eq_nil_of_le (by rw [HN.out]; exact Nat.le_refl _), List.all_nil, Bool.true_and] at hh
    have HH := Lib.hid hh
    clear hh HM
    go_wp2_with fail
    refine HCA.out.mono ?_
    rintro e w2 ⟨cv, rfl, hcv, hb2⟩
    have HEQ := Lib.hid (tequal_any _ _ _ _ w2 hcv (HX.out.below hb2))
    have HB2 := Lib.hid hb2
    obtain ⟨_, _, _, rfl, _, _⟩ := hcv.form'
    clear hcv hb2
    go_wp2_with fail
    refine HEQ.out.mono ?_
    rintro e w3 ⟨rfl, nd, rfl⟩
    have HB3 := Lib.hid (below_drewN HB2.out nd)
    rw [HH.out]
    go_wp2_with fail
    go_ret
    exact ⟨rfl, HB3.out⟩
  obtain ⟨x, hxk, ex⟩ := drop_at (xs := cs) (k := k) (by rw [← HN.out]; exact hk)
  obtain ⟨xb, xo, u, rfl, _, hxb, hcx, hxi⟩ := HX.out.at hxk
  obtain ⟨ya, yn, yc, rfl, HYN, _⟩ := hxi.form'
  have hyn : yn ≤ 4000 := by rw [HYN.out]; exact HLL.out x (List.mem_of_getElem? hxk)
  have hdk : decide ((k : Int) < n) = true := by simp; omega
  have hdk' : decide (k < n) = true := decide_eq_true hk
  have hh := HM.out
  rw [ex, List.all_cons, Bool.and_assoc] at hh
  obtain ⟨T, hT⟩ : ∃ T, ((cs.drop (k + 1)).all (fun c => c.all litOk) && (canM cs == cs)) = T := ⟨_, rfl⟩
  rw [hT] at hh
  have HT := Lib.hid hT
  have HH : Hid ((((x.drop 0).all litOk) && T) = R) := Lib.hid hh
  have HXI := Lib.hid hxi
  obtain ⟨GK, hGK⟩ : ∃ G, G = gk := ⟨_, rfl⟩
  subst hGK
  obtain ⟨wo, hwo⟩ : ∃ W, W = wr := ⟨_, rfl⟩
  subst hwo
  clear hh hT HM hxi hxk ex
  go_wp2_with fail
  go_loopg [15] yn (fun gg u15 wx => ∃ (j : Nat), j + gg = yn ∧ u15 = .int .i64 j ∧ wx = wo ∧ Hid ((((x.drop j).all litOk) && T) = R))
  case atStart => exact ⟨0, by omega, rfl, rfl, HH⟩
  case round =>
  obtain ⟨j, hjg, rfl, hww, HM⟩ := hrel
  subst hww
  by_cases hj : j < yn
  case neg =>
    obtain rfl : j = yn := by omega
    have hdj : decide ((j : Int) < j) = false := by simp
    have hdj' : decide (j < j) = false := decide_eq_false (by omega)
    have hh := HM.out
    rw [List.drop_eq_nil_of_le (by rw [HYN.out]; exact Nat.le_refl _), List.all_nil, Bool.true_and] at hh
    have HF := Lib.hid (HT.out.trans hh)
    clear hh HM
    go_wp2_with fail
    go_roundg (GK - 1)
    case measure => omega
    case rel => exact ⟨k + 1, by omega, by go_num, rfl, HF⟩
  obtain ⟨y, hyk, ey⟩ := drop_at (xs := x) (k := j) (by rw [← HYN.out]; exact hj)
  obtain ⟨yb, yo, rfl, _, hyb, hcy, hyi⟩ := HXI.out.at hyk
  have hdj : decide ((j : Int) < yn) = true := by simp; omega
  have hdj' : decide (j < yn) = true := decide_eq_true hj
  have hh := HM.out
  rw [ey, List.all_cons, Bool.and_assoc] at hh
  have HY := Lib.hid hyi
  by_cases h0 : y = 0
  · have hl0 : litOk y = false := by rw [h0]; rfl
    rw [hl0, Bool.false_and] at hh
    have HF := Lib.hid hh
    have e0 : (y == 0) = true := by simp; exact h0
    clear hh HM hl0 h0 hyk ey hyi
    go_wp2_with fail
    go_ret
    exact ⟨by rw [← HF.out]; rfl, Below.refl _ _⟩
  have e0 : (y == 0) = false := by simp; exact h0
  by_cases h1 : 20000 < y
  · have hl0 : litOk y = false := by unfold litOk; rw [e0, decide_eq_true h1]; rfl
    rw [hl0, Bool.false_and] at hh
    have HF := Lib.hid hh
    have e1 : decide (20000 < y) = true := decide_eq_true h1
    clear hh HM hl0 h0 hyk ey hyi
    go_wp2_with fail
    go_ret
    exact ⟨by rw [← HF.out]; rfl, Below.refl _ _⟩
  have e1 : decide (20000 < y) = false := decide_eq_false h1
  by_cases h2 : y < -20000
  · have hl0 : litOk y = false := by unfold litOk; rw [e0, e1, decide_eq_true h2]; rfl
    rw [hl0, Bool.false_and] at hh
    have HF := Lib.hid hh
    have e2 : decide (y < -20000) = true := decide_eq_true h2
    clear hh HM hl0 h0 hyk ey hyi
    go_wp2_with fail
    go_ret
    exact ⟨by rw [← HF.out]; rfl, Below.refl _ _⟩
  have e2 : decide (y < -20000) = false := decide_eq_false h2
  have hl0 : litOk y = true := by unfold litOk; rw [e0, e1, e2]; rfl
  rw [hl0, Bool.true_and] at hh
  have HF := Lib.hid hh
  clear hh HM hl0 h0 hyk ey hyi h1 h2
  go_wp2_with fail
  go_roundg (gk - 1)
  case measure => omega
  case rel => exact ⟨j + 1, by omega, by go_num, rfl, HF⟩
end Go.Proofs.Ytihkknploioakaa
