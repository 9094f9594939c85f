/- (Trace seat) Walks: doubled, equal, canonical, kept, variable, lost of the package trace. No condition but the sizes. -/
import Derived.Test.YtljaegmmfjllkaaGreatDoorVz
import Derived.Test.YtljaegmmfjllkaaGreatDoorVa
import Derived.Test.YtljaegmmfjllkaaGreatDoorQ7
import Derived.Test.YtljaegmmfjllkaaGreatDoorKo
import Derived.Deep.DeepCutAuto
import Derived.Deep.LoopGhost
import Derived.BigQuiet
import Derived.Deep.QuietTactic
import Derived.Deep.RegionHeld3
namespace Go.Proofs.YtljaegmmfjllkaaGreatDoor
open Go.ChangeShapes Go.WideShapes Go.ChangeAt Go.RowKit
set_option linter.unusedVariables false

set_option maxHeartbeats 1000000 in
theorem doubled_any (n : Int) (t : Nat) (w : World) (h0 : 0 ≤ n) (h1 : n ≤ 1099511627776) (ht : t ≤ 100000) :
    Calls Tryz.prog 80 #[.int .i64 n, .int .i64 t] w fun e w' => e = .returned (.int .i64 (dblM t n)) ∧ w' = w := by
  obtain ⟨R, hR⟩ : ∃ R, dblM t n = R := ⟨_, rfl⟩
  have HR := Lib.hid hR
  rw [hR]
  clear hR
  go_enter Tryz.func80, Tryz.ntmps80
  go_wp2
  go_loop [0, 6] (fun u0 u6 => ∃ (k : Nat) (m : Int), k ≤ t ∧ 0 ≤ m ∧ m ≤ 2199023255552 ∧ u0 = .int .i64 m ∧ u6 = .int .i64 k ∧ Hid (dblM (t - k) m = R)) (fun _ u6 => t - (intOf u6).toNat)
  case atStart => exact ⟨0, n, by omega, h0, by omega, rfl, rfl, HR⟩
  case round =>
    obtain ⟨k, m, hk, hm0, hm1, rfl, rfl, HM⟩ := hrel
    by_cases hkt : k < t
    · have hd : decide ((k : Int) < t) = true := by simp; omega
      have hd' : decide (k < t) = true := decide_eq_true hkt
      obtain ⟨j, hj⟩ : ∃ j, t - k = j + 1 := ⟨t - k - 1, by omega⟩
      have hh := HM.out
      rw [hj, dblM] at hh
      by_cases hb : 1099511627776 < m
      · rw [if_pos hb] at hh
        have HH := Lib.hid hh
        have hb' : decide (1099511627776 < m) = true := decide_eq_true hb
        clear hh hj HM
        go_wp2
        go_ret
        exact ⟨by rw [← HH.out]; rfl, rfl⟩
      · rw [if_neg hb, show j = t - (k + 1) by omega] at hh
        have HH := Lib.hid hh
        have hb' : decide (1099511627776 < m) = false := decide_eq_false hb
        clear hh hj HM
        go_wp2
        go_round
        case rel => exact ⟨k + 1, m * 2, by omega, by omega, by omega, rfl, by go_num, HH⟩
        case measure => simp [intOf]; omega
    · have hd : decide ((k : Int) < t) = false := by simp; omega
      have hd' : decide (k < t) = false := decide_eq_false hkt
      have hh := HM.out
      rw [show t - k = 0 by omega, dblM] at hh
      have HH := Lib.hid hh
      clear hh HM
      go_wp2
      go_ret
      exact ⟨by rw [← HH.out]; rfl, rfl⟩

set_option maxHeartbeats 1000000 in
theorem tequal_any {F G : Nat → Prop} (v u : Value) (xs ys : List (List Int)) (w : World) (hx : Clss F w v xs) (hy : Clss G w u ys) :
    Calls Tryz.prog 33 #[v, u] w (QuietPost w (.bool (xs == ys))) := by
  have H := Lib.hid (equalf_any v u xs ys w hx hy)
  obtain ⟨a, n, c, rfl, _, _⟩ := hx.form'
  obtain ⟨b, m, d, rfl, _, _⟩ := hy.form'
  clear hx hy
  go_enter Tryz.func33, Tryz.ntmps33
  go_wp2_with fail
  refine H.out.mono ?_
  rintro e w1 ⟨rfl, n1, rfl⟩
  go_wp2_with fail
  go_ret
  exact ⟨rfl, _, rfl⟩

set_option maxHeartbeats 1000000 in
theorem kept_any (F : Nat → Prop) (b : Nat) (keep : Int) (v : Value) (xs : List Int) (w : World) (hc : w.cell? ⟨b, 0, none⟩ = some (.int .i64 keep)) (hx : Ints F w v xs) (hl : xs.length ≤ 100000) :
    Calls Tryz.prog 35 #[.pointer (some ⟨b, 0, none⟩), v] w (IntsPost w (keptM keep xs)) := by
  obtain ⟨a, n, c, rfl, HN, hn⟩ := hx.form'
  have hn5 : n ≤ 100000 := by rw [HN.out]; exact hl
  have HI1 := Lib.hid (show (Tryz.prog.info? 3).map (fun i => (i.zero, i.size, i.bytes)) = some (some (.int .i64 0), 1, 8) by kernel_rfl)
  have hlt := block_lt hc
  have HX := Lib.hid hx.lt
  have HC := Lib.hid hc
  clear hx hl hc
  go_enter Tryz.func35, Tryz.ntmps35
  go_wp2_with fail
  go_loopg [5, 10] n (fun gg u5 u10 wx => ∃ (k : Nat) (ys : List Int), k + gg = n ∧ u10 = .int .i64 k ∧ Hid (Below w.heap.size w wx) ∧ Hid (ys = keptM keep (xs.take k)) ∧ ys.length ≤ k ∧ Hid (wx.ownsRow w.heap.size 3 1 u5 ys.length (ys.map (.int .i64))))
  case atStart => exact ⟨0, [], by omega, rfl, Lib.hid (Below.refl _ _), Lib.hid rfl, by simp, Lib.hid (World.ownsRow_nil _ _ _ _)⟩
  case round =>
  obtain ⟨k, ys, hkg, rfl, HB, HY, hyl, HO⟩ := hrel
  have hsz := HB.out.size
  by_cases hk : k < n
  · obtain ⟨x, hxk⟩ : ∃ x, xs[k]? = some x := ⟨_, List.getElem?_eq_getElem (by rw [← HN.out]; exact hk)⟩
    have hxr := HX.out.move (w' := wr) fun b hb hlt => HB.out.block b hb.2
    obtain ⟨xb, xo, rfl, _, hxb, hcx, hxi⟩ := hxr.at hxk
    have hck := below_c HB.out hlt HC.out
    have hdk : decide ((k : Int) < n) = true := by simp; omega
    have hdk' : decide (k < n) = true := decide_eq_true hk
    have HT : Hid (xs.take (k + 1) = xs.take k ++ [x]) := Lib.hid (by rw [List.take_add_one, hxk]; rfl)
    have HXI := Lib.hid hxi
    clear hxr hxk hxi hxb
    by_cases hle : x ≤ keep
    · have hd : decide (x ≤ keep) = true := decide_eq_true hle
      obtain ⟨oa, oc, hov⟩ := own_form HO.out
      subst hov
      obtain ⟨on, hon⟩ : ∃ m, ys.length = m := ⟨_, rfl⟩
      have hown := HO.out
      rw [hon] at hown hyl
      have HON := Lib.hid hon
      rw [hon]
      clear hon
      go_wp2_with (at_builtin; go_loud (refine wpList_push1 rfl _ _ 43 rfl 3 (.int .i64 0) 8 Tryz.underlying43 HI1.out rfl w.heap.size (.slice oa on oc) on (ys.map (.int .i64)) wr (.int .i64 x) rfl rfl hown rfl (by omega) (by omega) (by omega) ?_); intro g7 cap7 w7 hown7 hg7 hs7 hgb hgl hat; have HB7 := Lib.hid (HB.out.grown hg7 (by omega) (fun k hk => (hown.lt k hk).1)); have HO7 : Hid (w7.ownsRow w.heap.size 3 1 (.slice (some ⟨g7, 0, none⟩) (on + 1) cap7) (ys ++ [x]).length ((ys ++ [x]).map (.int .i64))) := Lib.hid (by simpa [HON.out] using hown7); clear hown7 hg7 hown)
      go_roundg (gk - 1)
      case measure => omega
      case rel => exact ⟨k + 1, ys ++ [x], by omega, by go_num, HB7, Lib.hid (by rw [HT.out, HY.out]; unfold keptM; rw [List.filter_append]; simp [hle]), by have := HON.out; simp; omega, HO7⟩
    · have hd : decide (x ≤ keep) = false := decide_eq_false hle
      go_wp2_with fail
      go_roundg (gk - 1)
      case measure => omega
      case rel => exact ⟨k + 1, ys, by omega, by go_num, HB, Lib.hid (by rw [HT.out, HY.out]; unfold keptM; rw [List.filter_append]; simp [hle]), by omega, HO⟩
  · obtain rfl : k = n := by omega
    have hdk : decide ((k : Int) < k) = false := by simp
    have hdk' : decide (k < k) = false := decide_eq_false (by omega)
    have hF : Ints (fun b => w.heap.size ≤ b) wr u5 (keptM keep xs) := by
      have h := HY.out
      rw [List.take_of_length_le (by rw [HN.out]; exact Nat.le_refl _)] at h
      rw [← h]
      refine ⟨(by
        have := ownsRow_sl1 HO.out (by omega)
        exact this.mono fun b hb => hb.1), fun x hx => ?_⟩
      rw [h] at hx
      exact HX.out.2 x (List.mem_filter.1 hx).1
    have HF := Lib.hid hF
    clear hF
    go_wp2_with fail
    go_ret
    exact ⟨_, rfl, HF.out, HB.out⟩

set_option maxHeartbeats 1000000 in
theorem variable_any (b : Nat) (lit : Int) (v : Value) (xs : List Int) (w : World) (hc : w.cell? ⟨b, 3, none⟩ = some (.int .i64 lit)) (hv : w.cell? ⟨b, 7, none⟩ = some v) (hx : Ints (fun _ => True) w v xs) (hr : ∀ x ∈ xs, 1 ≤ x ∧ x ≤ 20000) :
    Calls Tryz.prog 77 #[.pointer (some ⟨b, 0, none⟩)] w fun e w' => e = .returned (.int .i64 (varK lit xs)) ∧ w' = w := by
  obtain ⟨a, n, c, rfl, HN, hn⟩ := hx.form'
  obtain ⟨R, hR⟩ : ∃ R, varK lit xs = R := ⟨_, rfl⟩
  have HR : Hid (varK lit (xs.drop 0) = R) := Lib.hid hR
  rw [hR]
  have HX := Lib.hid hx
  have HRG := Lib.hid hr
  clear hR hx hr
  go_enter Tryz.func77, Tryz.ntmps77
  go_wp2_with fail
  go_loopg [10] n (fun gg u10 wx => ∃ (k : Nat), k + gg = n ∧ u10 = .int .i64 k ∧ wx = w ∧ Hid (varK lit (xs.drop k) = R))
  case atStart => exact ⟨0, by omega, rfl, rfl, HR⟩
  case round =>
  obtain ⟨k, hkg, rfl, rfl, HM⟩ := hrel
  by_cases hk : k < n
  · obtain ⟨x, hxk, ex⟩ := drop_at (xs := xs) (k := k) (by rw [← HN.out]; exact hk)
    obtain ⟨xb, xo, rfl, _, hxb, hcx, hxi⟩ := HX.out.at hxk
    have hxr := HRG.out x (List.mem_of_getElem? hxk)
    have hdk : decide ((k : Int) < n) = true := by simp; omega
    have hdk' : decide (k < n) = true := decide_eq_true hk
    have hh := HM.out
    rw [ex, varK] at hh
    obtain ⟨hx1, hx2⟩ := hxr
    by_cases h1 : lit = x
    · rw [if_pos (.inl h1)] at hh
      subst h1
      have HH := Lib.hid hh
      clear hh ex hxk HM hxi
      go_wp2_with fail
      go_ret
      exact ⟨by rw [← HH.out]; rfl, rfl⟩
    have e1 : (lit == x) = false := by simp; exact h1
    by_cases h2 : lit = -x
    · rw [if_pos (.inr h2)] at hh
      have e2 : (lit == -x) = true := by simp; exact h2
      have HH := Lib.hid hh
      have hwn : IntKind.i64.wrap (-x) = -x := IntWalk.i64_in _ ⟨by omega, by omega⟩
      clear hh ex hxk HM hxi h2 h1
      go_wp2_with fail
      go_ret
      exact ⟨by rw [← HH.out]; rfl, rfl⟩
    · rw [if_neg (by rintro (h | h); exact h1 h; exact h2 h)] at hh
      have e2 : (lit == -x) = false := by simp; exact h2
      have HH := Lib.hid hh
      have hwn : IntKind.i64.wrap (-x) = -x := IntWalk.i64_in _ ⟨by omega, by omega⟩
      clear hh ex hxk HM hxi h2 h1
      go_wp2_with fail
      go_roundg (gk - 1)
      case measure => omega
      case rel => exact ⟨k + 1, by omega, by go_num, rfl, HH⟩
  · obtain rfl : k = n := by omega
    have hdk : decide ((k : Int) < k) = false := by simp
    have hdk' : decide (k < k) = false := decide_eq_false (by omega)
    have hh := HM.out
    rw [List.drop_eq_nil_of_le (by rw [HN.out]; exact Nat.le_refl _), varK] at hh
    have HH := Lib.hid hh
    clear hh HM
    go_wp2_with fail
    go_ret
    exact ⟨by rw [← HH.out]; rfl, rfl⟩

/- (Trace seat) Walks: lost, residual, canonical of the package trace. No condition but the sizes. -/
open Go.ChangeShapes Go.WideShapes Go.ChangeAt Go.RowKit
set_option linter.unusedVariables false

set_option maxRecDepth 100000 in
set_option maxHeartbeats 2000000 in
theorem lost_any (b : Nat) (keep v : Int) (c : Claim) (kcv kkv vv : Value) (kid : Claim) (vs : List Int) (w : World) (hc : w.cell? ⟨b, 0, none⟩ = some (.int .i64 keep)) (hcv : w.cell? ⟨b, 7, none⟩ = some vv)
    (hvs : Ints (fun _ => True) w vv vs) (hvl : vs.length ≤ 100000) (hk : Clss (fun _ => True) w kcv kid.cls) (hsz : SzC kid) (hv : I64 v) :
    Calls Tryz.prog 81 #[.pointer (some ⟨b, 0, none⟩), .int .i64 v, .agg #[kcv, .int .i64 kid.rule, .int .i64 kid.lit, kkv, .int .i64 kid.count]] w (IntPost w (lostM v (keptM keep vs) (occM kid.cls))) := by
  obtain ⟨ka, kn, kc, rfl, HKN, _⟩ := hk.form'
  obtain ⟨va, vn, vc, rfl, HVN, _⟩ := hvs.form'
  obtain ⟨W1, hW1⟩ : ∃ W, w.alloc (.cells #[.slice ka kn kc, .int .i64 kid.rule, .int .i64 kid.lit, kkv, .int .i64 kid.count] 45) = W := ⟨_, rfl⟩
  have hb1 : Below w.heap.size w W1 := by rw [← hW1]; exact (Below.refl _ _).alloc (Nat.le_refl _) _
  have hlt := block_lt hc
  have c0 := below_c hb1 hlt hc
  have c7 := below_c hb1 hlt hcv
  have d0 : W1.cell? ⟨w.heap.size, 0, none⟩ = some (.slice ka kn kc) := by rw [← hW1, cell_of_row _ _ _ _ _ _ (new_at _ _)]; rfl
  have hoc := occur_any _ _ kid.cls W1 (hk.below hb1) hsz.1 hsz.2.1
  have HOC := Lib.hid hoc
  have HVS := Lib.hid (hvs.below hb1)
  have HB1 := Lib.hid hb1
  have HW1 := Lib.hid hW1
  have HV := Lib.hid hv
  clear hoc hvs hb1 hW1 hc hcv hk hsz hv
  go_enter Tryz.func81, Tryz.ntmps81
  go_wp2_with fail
  rw [HW1.out]
  refine HOC.out.mono ?_
  rintro e w2 ⟨ov, os, rfl, ho, hb2, hst, hmem⟩
  obtain rfl := occ_eq hst hmem
  have hl1 := Nat.lt_of_lt_of_le hlt HB1.out.size
  have e0 := below_c hb2 hl1 c0
  have e7 := below_c hb2 hl1 c7
  have hkp := kept_any _ b keep _ vs w2 e0 (HVS.out.below hb2) hvl
  obtain ⟨oa, on, oc, rfl, HON, hon⟩ := ho.form'
  have HOS := Lib.hid ho
  have HKP := Lib.hid hkp
  have HB2 := Lib.hid (HB1.out.trans (hb2.mono HB1.out.size))
  have hl2 := Nat.lt_of_lt_of_le hl1 hb2.size
  generalize hocc : occM kid.cls = O at *
  clear hkp ho hb2 hst hmem HOC HW1 hocc c0 c7 d0
  go_wp2_with fail
  refine HKP.out.mono ?_
  rintro e w3 ⟨pv, rfl, hp, hb3⟩
  obtain ⟨pa, pn, pc, rfl, HPN, hpn⟩ := hp.form'
  have HP := Lib.hid hp
  have HO3 := Lib.hid (HOS.out.below hb3)
  have HB3 := Lib.hid (HB2.out.trans (hb3.mono HB2.out.size))
  have hpl : pn ≤ 100000 := by rw [HPN.out]; exact Nat.le_trans (keptM_len _ _) hvl
  generalize keptM keep vs = P at *
  clear hp hb3 HKP HOS
  go_wp2_with fail
  go_loopg [8, 21] pn (fun gg u8 u21 wx => ∃ (k m : Nat), k + gg = pn ∧ u21 = .int .i64 k ∧ u8 = .int .i64 m ∧ m ≤ k ∧ wx = w3 ∧ Hid (m = lostM v (P.take k) O))
  case atStart => exact ⟨0, 0, by omega, rfl, rfl, Nat.le_refl _, rfl, Lib.hid rfl⟩
  case round =>
  obtain ⟨k, m, hkg, rfl, rfl, hmk, hww, HM⟩ := hrel
  subst hww
  by_cases hk : k < pn
  · obtain ⟨x, hxk⟩ : ∃ x, P[k]? = some x := ⟨_, List.getElem?_eq_getElem (by rw [← HPN.out]; exact hk)⟩
    obtain ⟨xb, xo, rfl, _, hxb, hcx, hxi⟩ := HP.out.at hxk
    have hdk : decide ((k : Int) < pn) = true := by simp; omega
    have hdk' : decide (k < pn) = true := decide_eq_true hk
    have HT : Hid (lostM v (P.take (k + 1)) O = m + if (decide (x ≠ v) && !O.contains x) = true then 1 else 0) := Lib.hid (by rw [List.take_add_one, hxk]; show lostM v (P.take k ++ [x]) O = _; rw [lostM_step, ← HM.out])
    have HCN := Lib.hid (contains_any _ _ O x _ HO3.out hxi)
    clear hxk hxi hxb
    by_cases hxv : x = v
    · have e1 : (x != v) = false := by simp; exact hxv
      have HF : Hid (m = lostM v (P.take (k + 1)) O) := Lib.hid (by rw [HT.out, hxv]; simp)
      clear hxv HT
      go_wp2_with fail
      go_roundg (gk - 1)
      case measure => omega
      case rel => exact ⟨k + 1, m, by omega, by go_num, rfl, by omega, rfl, HF⟩
    have e1 : (x != v) = true := by simp; exact hxv
    obtain ⟨E, hE⟩ : ∃ E, O.contains x = E := ⟨_, rfl⟩
    rw [hE] at HCN
    have HF : Hid (lostM v (P.take (k + 1)) O = m + if (!E) = true then 1 else 0) := Lib.hid (by rw [HT.out, hE]; simp [hxv])
    clear hE HT hxv
    go_wp2_with fail
    refine HCN.out.mono ?_
    rintro e w9 ⟨rfl, hw9⟩
    subst hw9
    rcases E with _ | _
    · go_wp2_with fail
      go_roundg (gk - 1)
      case measure => omega
      case rel => exact ⟨k + 1, m + 1, by omega, by go_num, by go_num, by omega, rfl, Lib.hid (by rw [HF.out]; rfl)⟩
    · go_wp2_with fail
      go_roundg (gk - 1)
      case measure => omega
      case rel => exact ⟨k + 1, m, by omega, by go_num, rfl, by omega, rfl, Lib.hid (by rw [HF.out]; rfl)⟩
  · obtain rfl : k = pn := by omega
    have hdk : decide ((k : Int) < k) = false := by simp
    have hdk' : decide (k < k) = false := decide_eq_false (by omega)
    have hh := HM.out
    rw [List.take_of_length_le (by rw [HPN.out]; exact Nat.le_refl _)] at hh
    have HH := Lib.hid hh
    clear hh HM
    go_wp2_with fail
    go_ret
    exact ⟨by rw [← HH.out]; rfl, HB3.out⟩

set_option maxRecDepth 100000 in
set_option maxHeartbeats 2000000 in
theorem residualk_any (b : Nat) (keep : Int) (cv kv qv vv : Value) (c : Claim) (ks : List Claim) (vs : List Int) (i : Nat) (lit : Int) (w : World) (hc : Ckr w b keep cv kv qv vv c ks vs) (hi : i < ks.length) (hi2 : i ≤ 10) (hlit : I64 lit) (hsz : SzC c) :
    Calls Tryz.prog 79 #[.pointer (some ⟨b, 0, none⟩), .int .i64 i, .int .i64 lit] w (BoolPost w (resB c ks i lit)) := by
  obtain ⟨⟨_, c1, _, _, _, _, c6, _⟩, hcl, hks, _⟩ := hc
  have hlt := block_lt c1
  obtain ⟨ca, cn, cc, rfl, _, _⟩ := hcl.form'
  obtain ⟨qa, qn, qc, rfl, HQN, _⟩ := hks.form
  obtain ⟨kid, hkid⟩ : ∃ k, ks[i]? = some k := ⟨_, List.getElem?_eq_getElem hi⟩
  obtain ⟨kb, ko, kcv, kkv, rfl, _, hkb, k0, _, _, _, _, ⟨⟨hkcl, _⟩, _⟩⟩ := hks.at hkid
  obtain ⟨ka, kn, kc, rfl, _, _⟩ := hkcl.form'
  have hres : resB c ks i lit = (kid.cls == resM c.cls lit) := by unfold resB; rw [List.getD_eq_getElem?_getD, hkid]; rfl
  rw [hres]
  have hiq : (i : Int) < qn := by rw [HQN.out]; omega
  have hra := residual_any _ _ c.cls lit w.drew (hcl.below (Below.refl _ _).drew) hlit (by have := hsz.1; omega) (fun x hx => by have := hsz.2.1 x hx; omega)
  have HRA := Lib.hid hra
  have HKC := Lib.hid hkcl
  have HI := Lib.hid hi
  clear hra hkcl hres hcl hks hsz hlit hkid hi
  go_enter Tryz.func79, Tryz.ntmps79
  go_wp2_with fail
  go_region_held3 (fun w' => w'.cell? ⟨b, 1, none⟩ = some (.slice ca cn cc) ∧ w'.cell? ⟨b, 6, none⟩ = some (.slice (some ⟨kb, ko, none⟩) qn qc) ∧ w'.cell? ⟨kb, ko + i * 5, none⟩ = some (.slice ka kn kc))
    (first | exact ⟨c1, c6, k0⟩ | exact ⟨u1, u6, u0⟩ | exact ⟨x1, x6, x0⟩ | go_keep)
    (first | (go_at_call 115; refine HRA.out.mono ?_; rintro e w5 ⟨rv, rfl, hrv, hb5⟩; have HRV := Lib.hid hrv; obtain ⟨ra, rn, rc, rfl, _, _⟩ := hrv.form'; have hbd : Below w.heap.size w w5 := ⟨hb5.os, hb5.tape, hb5.output, hb5.size, hb5.block⟩; have HBD := Lib.hid hbd; have u1 := below_c hbd hlt c1; have u6 := below_c hbd hlt c6; have u0 := below_c hbd hkb k0; have HKC5 := Lib.hid (HKC.out.below hbd); clear hrv hb5 hbd)
           | (go_at_call 33; refine (tequal_any _ _ _ _ w5 HKC5.out HRV.out).mono ?_; rintro e w6 ⟨rfl, nd, rfl⟩; have HB6 : Hid (Below w.heap.size w (w5.drewN nd)) := Lib.hid (below_drewN HBD.out nd); have x1 := below_c HB6.out hlt c1; have x6 := below_c HB6.out hlt c6; have x0 := below_c HB6.out hkb k0))
  try go_wp2_with fail
  go_ret
  exact ⟨rfl, HB6.out⟩

set_option maxRecDepth 100000 in
set_option maxHeartbeats 2000000 in
theorem canonical_trace (F : Nat → Prop) (v : Value) (cs : List (List Int)) (w : World) (hx : Clss F w v cs) (hl : cs.length ≤ 4000) (hll : ∀ c ∈ cs, c.length ≤ 4000) :
    Calls Tryz.prog 34 #[v] w (BoolPost w (canB cs)) := by
  obtain ⟨a, n, c, rfl, HN, hn⟩ := hx.form'
  obtain ⟨R, hR⟩ : ∃ R, canB cs = R := ⟨_, rfl⟩
  have HR : Hid (((cs.drop 0).all (fun c => c.all litOk) && (canM cs == cs)) = R) := Lib.hid hR
  rw [hR]
  have HX := Lib.hid hx
  have HCA := Lib.hid (canonical_any F _ cs w hx (by omega) (fun x hx => by have := hll x hx; omega))
  have hn4 : n ≤ 4000 := by rw [HN.out]; exact hl
  have HLL := Lib.hid hll
  clear hR hx hl hll
  go_enter Tryz.func34, Tryz.ntmps34
  go_wp2_with fail
  go_loopg [9] n (fun gg u9 wx => ∃ (k : Nat), k + gg = n ∧ u9 = .int .i64 k ∧ wx = w ∧ Hid (((cs.drop k).all (fun c => c.all litOk) && (canM cs == cs)) = R))
  case atStart => exact ⟨0, by omega, rfl, rfl, HR⟩
  case round =>
  obtain ⟨k, hkg, rfl, hww, HM⟩ := hrel
  subst hww
  by_cases hk : k < n
  case neg =>
    obtain rfl : k = n := by omega
    have hdk : decide ((k : Int) < k) = false := by simp
    have hdk' : decide (k < k) = false := decide_eq_false (by omega)
    have hh := HM.out
    rw [List.drop_eq_nil_of_le (by rw [HN.out]; exact Nat.le_refl _), List.all_nil, Bool.true_and] at hh
    have HH := Lib.hid hh
    clear hh HM
    go_wp2_with fail
    refine HCA.out.mono ?_
    rintro e w2 ⟨cv, rfl, hcv, hb2⟩
    have HEQ := Lib.hid (tequal_any _ _ _ _ w2 hcv (HX.out.below hb2))
    have HB2 := Lib.hid hb2
    obtain ⟨_, _, _, rfl, _, _⟩ := hcv.form'
    clear hcv hb2
    go_wp2_with fail
    refine HEQ.out.mono ?_
    rintro e w3 ⟨rfl, nd, rfl⟩
    have HB3 := Lib.hid (below_drewN HB2.out nd)
    rw [HH.out]
    go_wp2_with fail
    go_ret
    exact ⟨rfl, HB3.out⟩
  obtain ⟨x, hxk, ex⟩ := drop_at (xs := cs) (k := k) (by rw [← HN.out]; exact hk)
  obtain ⟨xb, xo, u, rfl, _, hxb, hcx, hxi⟩ := HX.out.at hxk
  obtain ⟨ya, yn, yc, rfl, HYN, _⟩ := hxi.form'
  have hyn : yn ≤ 4000 := by rw [HYN.out]; exact HLL.out x (List.mem_of_getElem? hxk)
  have hdk : decide ((k : Int) < n) = true := by simp; omega
  have hdk' : decide (k < n) = true := decide_eq_true hk
  have hh := HM.out
  rw [ex, List.all_cons, Bool.and_assoc] at hh
  obtain ⟨T, hT⟩ : ∃ T, ((cs.drop (k + 1)).all (fun c => c.all litOk) && (canM cs == cs)) = T := ⟨_, rfl⟩
  rw [hT] at hh
  have HT := Lib.hid hT
  have HH : Hid ((((x.drop 0).all litOk) && T) = R) := Lib.hid hh
  have HXI := Lib.hid hxi
  obtain ⟨GK, hGK⟩ : ∃ G, G = gk := ⟨_, rfl⟩
  subst hGK
  obtain ⟨wo, hwo⟩ : ∃ W, W = wr := ⟨_, rfl⟩
  subst hwo
  clear hh hT HM hxi hxk ex
  go_wp2_with fail
  go_loopg [15] yn (fun gg u15 wx => ∃ (j : Nat), j + gg = yn ∧ u15 = .int .i64 j ∧ wx = wo ∧ Hid ((((x.drop j).all litOk) && T) = R))
  case atStart => exact ⟨0, by omega, rfl, rfl, HH⟩
  case round =>
  obtain ⟨j, hjg, rfl, hww, HM⟩ := hrel
  subst hww
  by_cases hj : j < yn
  case neg =>
    obtain rfl : j = yn := by omega
    have hdj : decide ((j : Int) < j) = false := by simp
    have hdj' : decide (j < j) = false := decide_eq_false (by omega)
    have hh := HM.out
    rw [List.drop_eq_nil_of_le (by rw [HYN.out]; exact Nat.le_refl _), List.all_nil, Bool.true_and] at hh
    have HF := Lib.hid (HT.out.trans hh)
    clear hh HM
    go_wp2_with fail
    go_roundg (GK - 1)
    case measure => omega
    case rel => exact ⟨k + 1, by omega, by go_num, rfl, HF⟩
  obtain ⟨y, hyk, ey⟩ := drop_at (xs := x) (k := j) (by rw [← HYN.out]; exact hj)
  obtain ⟨yb, yo, rfl, _, hyb, hcy, hyi⟩ := HXI.out.at hyk
  have hdj : decide ((j : Int) < yn) = true := by simp; omega
  have hdj' : decide (j < yn) = true := decide_eq_true hj
  have hh := HM.out
  rw [ey, List.all_cons, Bool.and_assoc] at hh
  have HY := Lib.hid hyi
  by_cases h0 : y = 0
  · have hl0 : litOk y = false := by rw [h0]; rfl
    rw [hl0, Bool.false_and] at hh
    have HF := Lib.hid hh
    have e0 : (y == 0) = true := by simp; exact h0
    clear hh HM hl0 h0 hyk ey hyi
    go_wp2_with fail
    go_ret
    exact ⟨by rw [← HF.out]; rfl, Below.refl _ _⟩
  have e0 : (y == 0) = false := by simp; exact h0
  by_cases h1 : 20000 < y
  · have hl0 : litOk y = false := by unfold litOk; rw [e0, decide_eq_true h1]; rfl
    rw [hl0, Bool.false_and] at hh
    have HF := Lib.hid hh
    have e1 : decide (20000 < y) = true := decide_eq_true h1
    clear hh HM hl0 h0 hyk ey hyi
    go_wp2_with fail
    go_ret
    exact ⟨by rw [← HF.out]; rfl, Below.refl _ _⟩
  have e1 : decide (20000 < y) = false := decide_eq_false h1
  by_cases h2 : y < -20000
  · have hl0 : litOk y = false := by unfold litOk; rw [e0, e1, decide_eq_true h2]; rfl
    rw [hl0, Bool.false_and] at hh
    have HF := Lib.hid hh
    have e2 : decide (y < -20000) = true := decide_eq_true h2
    clear hh HM hl0 h0 hyk ey hyi
    go_wp2_with fail
    go_ret
    exact ⟨by rw [← HF.out]; rfl, Below.refl _ _⟩
  have e2 : decide (y < -20000) = false := decide_eq_false h2
  have hl0 : litOk y = true := by unfold litOk; rw [e0, e1, e2]; rfl
  rw [hl0, Bool.true_and] at hh
  have HF := Lib.hid hh
  clear hh HM hl0 h0 hyk ey hyi h1 h2
  go_wp2_with fail
  go_roundg (gk - 1)
  case measure => omega
  case rel => exact ⟨j + 1, by omega, by go_num, rfl, HF⟩
end Go.Proofs.YtljaegmmfjllkaaGreatDoor
