/- Walks: the statement's own magnitude and literals. No condition. -/
import Derived.Test.YtihkknploioakaaGreatKg
namespace Go.Proofs.YtihkknploioakaaGreat
open Go.ChangeShapes Go.WideShapes Go.ChangeAt Go.RowKit
set_option linter.unusedVariables false

theorem lmagnitude_any (n : Int) (w : World) (h : I64 n) :
    Calls Tryz.prog 34 #[.int .i64 n] w fun e w' => e = .returned (.int .u64 (varM n)) ∧ w' = w := by
  obtain ⟨i1, i2⟩ := h
  by_cases h0 : n < 0
  · have HV : Hid (varM n = -n) := Lib.hid (by unfold varM; rw [if_pos h0])
    have hd : decide (n < 0) = true := decide_eq_true h0
    have hw : IntKind.u64.wrap (IntKind.u64.wrap (IntKind.i64.wrap (-(IntKind.i64.wrap (n + 1)))) + 1) = -n := by
      simp [IntKind.wrap, IntKind.bits, IntKind.signed]
      omega
    obtain ⟨r, hr⟩ : ∃ r, -n = r := ⟨_, rfl⟩
    have HW : Hid (IntKind.u64.wrap (IntKind.u64.wrap (IntKind.i64.wrap (-(IntKind.i64.wrap (n + 1)))) + 1) = -n) := Lib.hid hw
    go_enter Tryz.func34, Tryz.ntmps34
    go_wp2
    go_ret
    refine ⟨?_, rfl⟩
    rw [HV.out]
    first | rfl | go_num
  · have HV : Hid (varM n = n) := Lib.hid (by unfold varM; rw [if_neg h0])
    have hd : decide (n < 0) = false := decide_eq_false h0
    go_enter Tryz.func34, Tryz.ntmps34
    go_wp2
    go_ret
    refine ⟨?_, rfl⟩
    rw [HV.out]
    go_num

theorem cmpM_val (x y : Int) : cmpM x y = -1 ∨ cmpM x y = 0 ∨ cmpM x y = 1 := by
  unfold cmpM
  rcases Int.lt_trichotomy x y with h | h | h
  · rw [if_pos h]; exact .inl rfl
  · rw [if_neg (by omega), if_neg (by omega)]; exact .inr (.inl rfl)
  · rw [if_neg (by omega), if_pos h]; exact .inr (.inr rfl)
theorem lliterals_any (a b : Int) (w : World) (ha : I64 a) (hb : I64 b) :
    Calls Tryz.prog 66 #[.int .i64 a, .int .i64 b] w fun e w' => e = .returned (.int .i64 (litC a b)) ∧ w' = w := by
  have HA := Lib.hid ha
  have HB := Lib.hid hb
  have hma := fun w => lmagnitude_any a w ha
  have hmb := fun w => lmagnitude_any b w hb
  obtain ⟨R, hR⟩ : ∃ R, litC a b = R := ⟨_, rfl⟩
  have hneg := litC_neg (a := a) (b := b)
  have hpos := litC_neg (a := b) (b := a)
  have hz := litC_eq (a := a) (b := b)
  have hfl := litC_flip a b
  have h3 : litC a b = -1 ∨ litC a b = 0 ∨ litC a b = 1 := by
    unfold litC
    split
    · exact cmpM_val _ _
    · exact cmpM_val _ _
  rw [hfl] at hpos
  rw [hR] at hneg hpos hz h3 ⊢
  obtain ⟨x, hx⟩ : ∃ x, varM a = x := ⟨_, rfl⟩
  obtain ⟨y, hy⟩ : ∃ y, varM b = y := ⟨_, rfl⟩
  rw [hx] at hneg hpos hma
  rw [hy] at hneg hpos hmb
  have HMA := Lib.hid hma
  have HMB := Lib.hid hmb
  clear hma hmb hfl hR ha hb
  rcases h3 with rfl | rfl | rfl
  · have h1 := hneg.1 (by omega)
    clear hneg hpos hz hx hy
    rcases h1 with h1 | ⟨rfl, h1⟩
    · have hd : decide (x < y) = true := decide_eq_true h1
      go_enter Tryz.func66, Tryz.ntmps66
      go_wp2_with fail
      refine (HMA.out _).mono ?_
      rintro e w1 ⟨rfl, rfl⟩
      go_wp2_with fail
      refine (HMB.out _).mono ?_
      rintro e w1 ⟨rfl, rfl⟩
      go_wp2_with fail
      go_ret
      exact ⟨rfl, rfl⟩
    · have hd : decide (x < x) = false := by simp
      have hd1 : (x == x) = true := by simp
      have hd2 : decide (a < b) = true := decide_eq_true h1
      go_enter Tryz.func66, Tryz.ntmps66
      go_wp2_with fail
      refine (HMA.out _).mono ?_
      rintro e w1 ⟨rfl, rfl⟩
      go_wp2_with fail
      refine (HMB.out _).mono ?_
      rintro e w1 ⟨rfl, rfl⟩
      go_wp2_with fail
      go_ret
      exact ⟨rfl, rfl⟩
  · obtain rfl := hz.1 rfl
    have e : x = y := by omega
    subst e
    clear hneg hpos hz hx hy
    have hd : decide (x < x) = false := by simp
    have hd1 : (x == x) = true := by simp
    have hd2 : decide (a < a) = false := by simp
    go_enter Tryz.func66, Tryz.ntmps66
    go_wp2_with fail
    refine (HMA.out _).mono ?_
    rintro e w1 ⟨rfl, rfl⟩
    go_wp2_with fail
    refine (HMB.out _).mono ?_
    rintro e w1 ⟨rfl, rfl⟩
    go_wp2_with fail
    go_ret
    exact ⟨rfl, rfl⟩
  · have h1 := hpos.1 (by omega)
    clear hneg hpos hz hx hy
    rcases h1 with h1 | ⟨rfl, h1⟩
    · have hd : decide (x < y) = false := decide_eq_false (by omega)
      have hd1 : (x == y) = false := by simp; omega
      have hd2 : decide (y < x) = true := decide_eq_true h1
      go_enter Tryz.func66, Tryz.ntmps66
      go_wp2_with fail
      refine (HMA.out _).mono ?_
      rintro e w1 ⟨rfl, rfl⟩
      go_wp2_with fail
      refine (HMB.out _).mono ?_
      rintro e w1 ⟨rfl, rfl⟩
      go_wp2_with fail
      go_ret
      exact ⟨rfl, rfl⟩
    · have hd : decide (y < y) = false := by simp
      have hd1 : (y == y) = true := by simp
      have hd2 : decide (a < b) = false := decide_eq_false (by omega)
      have hd3 : decide (b < a) = true := decide_eq_true h1
      go_enter Tryz.func66, Tryz.ntmps66
      go_wp2_with fail
      refine (HMA.out _).mono ?_
      rintro e w1 ⟨rfl, rfl⟩
      go_wp2_with fail
      refine (HMB.out _).mono ?_
      rintro e w1 ⟨rfl, rfl⟩
      go_wp2_with fail
      go_ret
      exact ⟨rfl, rfl⟩

set_option maxHeartbeats 2000000 in
theorem lcmpf_any {F G : Nat → Prop} (v u : Value) (xs ys : List Int) (w : World) (hx : Ints F w v xs) (hy : Ints G w u ys) :
    Calls Tryz.prog 87 #[v, u, .func (.func 66) #[] #[]] w fun e w' => e = .returned (.int .i64 (clsC xs ys)) ∧ w' = w := by
  obtain ⟨a, n, c, rfl, HN, hn⟩ := hx.form'
  obtain ⟨b, m, d, rfl, HM, hm⟩ := hy.form'
  obtain ⟨R, hR⟩ : ∃ R, clsC xs ys = R := ⟨_, rfl⟩
  have HR : Hid (R = clsC (xs.drop 0) (ys.drop 0)) := Lib.hid hR.symm
  rw [hR]
  have HX := Lib.hid hx
  have HY := Lib.hid hy
  clear hR hx hy
  go_enter Tryz.func87, Tryz.ntmps87
  go_wp2
  go_loopg [13] n (fun g u13 wx => ∃ (k : Nat), k + g = n ∧ u13 = .int .i64 k ∧ w = wx ∧ k ≤ m ∧ Hid (R = clsC (xs.drop k) (ys.drop k)))
  case atStart => exact ⟨0, by omega, rfl, rfl, by omega, HR⟩
  case round =>
  obtain ⟨k, hkg, rfl, rfl, hkm, hinv⟩ := hrel
  by_cases hk : k < n
  case neg =>
    have ex : xs.drop k = [] := List.drop_eq_nil_of_le (by have := HN.out; omega)
    have hkn : n = k := by omega
    by_cases hm2 : k < m
    · obtain ⟨y, hyy, ey⟩ := drop_at (xs := ys) (k := k) (by have := HM.out; omega)
      have HF : Hid (R = -1) := Lib.hid (by rw [hinv.out, ex, ey]; rfl)
      have hd : decide ((n : Int) < m) = true := by simp; omega
      have hd0 : n < m := by omega
      clear hinv ex ey hyy
      go_wp2
      go_ret
      exact ⟨by rw [HF.out]; rfl, rfl⟩
    · have HF : Hid (R = 0) := Lib.hid (by rw [hinv.out, ex, show ys.drop k = [] from List.drop_eq_nil_of_le (by have := HM.out; omega)]; rfl)
      have hd : decide ((n : Int) < m) = false := by simp; omega
      have hd0 : m ≤ n := by omega
      clear hinv ex
      go_wp2
      go_ret
      exact ⟨by rw [HF.out]; rfl, rfl⟩
  obtain ⟨x, hxx, ex⟩ := drop_at (xs := xs) (k := k) (by have := HN.out; omega)
  have hxs := HX.out
  obtain ⟨xb, xo, rfl, _, hxb, hxc, hx64⟩ := hxs.at hxx
  by_cases hm2 : k < m
  case neg =>
    have HF : Hid (R = 1) := Lib.hid (by rw [hinv.out, ex, show ys.drop k = [] from List.drop_eq_nil_of_le (by have := HM.out; omega)]; rfl)
    have hd : m ≤ k := by omega
    clear hinv ex hxx hxs hm2
    go_wp2
    go_ret
    exact ⟨by rw [HF.out]; rfl, rfl⟩
  obtain ⟨y, hyy, ey⟩ := drop_at (xs := ys) (k := k) (by have := HM.out; omega)
  have hys := HY.out
  obtain ⟨yb, yo, rfl, _, hyb, hyc, hy64⟩ := hys.at hyy
  obtain ⟨C, hC⟩ : ∃ C, litC x y = C := ⟨_, rfl⟩
  have hcc := fun w => lliterals_any x y w hx64 hy64
  have HE : Hid (R = if C ≠ 0 then C else clsC (xs.drop (k + 1)) (ys.drop (k + 1))) := Lib.hid (by rw [hinv.out, ex, ey, ← hC]; rfl)
  rw [hC] at hcc
  have HCC := Lib.hid hcc
  clear hinv ex ey hxx hyy hxs hys hC hcc
  by_cases h0 : C = 0
  · have HF : Hid (R = clsC (xs.drop (k + 1)) (ys.drop (k + 1))) := Lib.hid (by rw [HE.out, if_neg (by omega)])
    have hd : (C != 0) = false := by simp [h0]
    clear h0 HE
    go_wp2_with fail
    refine (HCC.out _).mono ?_
    rintro e w1 ⟨rfl, rfl⟩
    go_wp2_with fail
    go_roundg (gk - 1)
    case measure => omega
    case rel => exact ⟨k + 1, by omega, by go_num, rfl, by omega, HF⟩
  · have HF : Hid (R = C) := Lib.hid (by rw [HE.out, if_pos h0])
    have hd : (C != 0) = true := by simp [h0]
    clear h0 HE
    go_wp2_with fail
    refine (HCC.out _).mono ?_
    rintro e w1 ⟨rfl, rfl⟩
    go_wp2_with fail
    go_ret
    exact ⟨by rw [HF.out]; rfl, rfl⟩

theorem lcompare_any {F G : Nat → Prop} (v u : Value) (xs ys : List Int) (w : World) (hx : Ints F w v xs) (hy : Ints G w u ys) :
    Calls Tryz.prog 68 #[v, u] w fun e w' => e = .returned (.int .i64 (clsC xs ys)) ∧ w' = w := by
  have H := Lib.hid (lcmpf_any v u xs ys w hx hy)
  clear hx hy
  go_enter Tryz.func68, Tryz.ntmps68
  go_wp2_with fail
  refine H.out.mono ?_
  rintro e w1 ⟨rfl, rfl⟩
  go_wp2_with fail
  go_ret
  exact ⟨rfl, rfl⟩


theorem lcanon1_any {F G : Nat → Prop} (v u : Value) (xs ys : List Int) (w : World) (hx : Ints F w v xs) (hy : Ints G w u ys) :
    Calls Tryz.prog 70 #[v, u] w (QuietPost w (.bool (xs == ys))) := by
  have hc := lcompare_any v u xs ys w hx hy
  obtain ⟨C, hC⟩ : ∃ C, clsC xs ys = C := ⟨_, rfl⟩
  have hz := clsC_eq (a := xs) (b := ys)
  rw [hC] at hc hz
  have HC := Lib.hid hc
  have HZ : Hid ((xs == ys) = decide (C = 0)) := Lib.hid (by
    by_cases e : xs = ys
    · rw [decide_eq_true (hz.2 e)]; simp [e]
    · rw [decide_eq_false (fun h => e (hz.1 h))]; simp [e])
  clear hx hy hc hC hz
  by_cases h0 : C = 0
  · have hd : (C == 0) = true := by simp [h0]
    have hd2 : decide (C = 0) = true := decide_eq_true h0
    rw [HZ.out, hd2]
    clear h0 hd2 HZ
    go_enter Tryz.func70, Tryz.ntmps70
    go_wp2_with fail
    refine HC.out.mono ?_
    rintro e w1 ⟨rfl, rfl⟩
    go_wp2_with fail
    go_ret
    exact ⟨rfl, 0, rfl⟩
  · have hd : (C == 0) = false := by simp [h0]
    have hd2 : decide (C = 0) = false := decide_eq_false h0
    rw [HZ.out, hd2]
    clear h0 hd2 HZ
    go_enter Tryz.func70, Tryz.ntmps70
    go_wp2_with fail
    refine HC.out.mono ?_
    rintro e w1 ⟨rfl, rfl⟩
    go_wp2_with fail
    go_ret
    exact ⟨rfl, 0, rfl⟩
end Go.Proofs.YtihkknploioakaaGreat
