/- Walks: cmp.Compare of uint64, cnf.magnitude; plain: what cnf.Check computes. No condition. -/
import Derived.Test.YteadlkecngfcoaaGreatSd
import Derived.BigQuiet
import Derived.Deep.QuietTactic
namespace Go.Proofs.YteadlkecngfcoaaGreat
open Go.ChangeShapes Go.WideShapes Go.ChangeAt Go.RowKit
set_option linter.unusedVariables false

theorem compare64_any (x y : Int) (w : World) : Calls Tryz.prog 72 #[.int .u64 x, .int .u64 y] w fun e w' => e = .returned (.int .i64 (cmpM x y)) ∧ w' = w := by
  rcases Int.lt_trichotomy x y with h | h | h
  · have hd : decide (x < y) = true := decide_eq_true h
    rw [show cmpM x y = -1 by unfold cmpM; rw [if_pos h]]
    go_enter Tryz.func72, Tryz.ntmps72
    go_wp2_with fail
    refine (nan64_any _ _).mono ?_
    rintro e w1 ⟨rfl, rfl⟩
    go_wp2_with fail
    refine (nan64_any _ _).mono ?_
    rintro e w2 ⟨rfl, rfl⟩
    go_wp2_with fail
    go_ret
    exact ⟨rfl, rfl⟩
  · subst h
    have hd : decide (x < x) = false := by simp
    rw [show cmpM x x = 0 by unfold cmpM; rw [if_neg (by omega), if_neg (by omega)]]
    go_enter Tryz.func72, Tryz.ntmps72
    go_wp2_with fail
    refine (nan64_any _ _).mono ?_
    rintro e w1 ⟨rfl, rfl⟩
    go_wp2_with fail
    refine (nan64_any _ _).mono ?_
    rintro e w2 ⟨rfl, rfl⟩
    go_wp2_with fail
    go_ret
    exact ⟨rfl, rfl⟩
  · have hd : decide (x < y) = false := decide_eq_false (by omega)
    have hd2 : decide (y < x) = true := decide_eq_true h
    rw [show cmpM x y = 1 by unfold cmpM; rw [if_neg (by omega), if_pos h]]
    go_enter Tryz.func72, Tryz.ntmps72
    go_wp2_with fail
    refine (nan64_any _ _).mono ?_
    rintro e w1 ⟨rfl, rfl⟩
    go_wp2_with fail
    refine (nan64_any _ _).mono ?_
    rintro e w2 ⟨rfl, rfl⟩
    go_wp2_with fail
    go_ret
    exact ⟨rfl, rfl⟩

theorem magnitude_any (n : Int) (w : World) (h : I64 n) :
    Calls Tryz.prog 65 #[.int .i64 n] w fun e w' => e = .returned (.int .u64 (varM n)) ∧ w' = w := by
  obtain ⟨i1, i2⟩ := h
  by_cases h0 : n < 0
  · have HV : Hid (varM n = -n) := Lib.hid (by unfold varM; rw [if_pos h0])
    have hd : decide (n < 0) = true := decide_eq_true h0
    go_enter Tryz.func65, Tryz.ntmps65
    go_wp2
    go_ret
    refine ⟨?_, rfl⟩
    rw [HV.out]
    have hw : IntKind.u64.wrap (-IntKind.u64.wrap n) = -n := by
      simp [IntKind.wrap, IntKind.bits, IntKind.signed]
      omega
    go_num
  · have HV : Hid (varM n = n) := Lib.hid (by unfold varM; rw [if_neg h0])
    have hd : decide (n < 0) = false := decide_eq_false h0
    go_enter Tryz.func65, Tryz.ntmps65
    go_wp2
    go_ret
    refine ⟨?_, rfl⟩
    rw [HV.out]
    go_num
/-- a call that only reads -/
def QuietPost (W : World) (v : Value) (e : Ending) (w' : World) : Prop := e = .returned v ∧ ∃ n, w' = W.drewN n
theorem below_drewN {B : Nat} {w w' : World} (h : Below B w w') (n : Nat) : Below B w (w'.drewN n) := ⟨h.os, h.tape, h.output, h.size, h.block⟩
theorem quiet_add_same {P : Program} {f : FuncId} {args : Array Value} {w : World} {a n : Nat} {v : Value}
    (h : Calls P f args (w.drewN (a + n)) fun e w' => e = .returned v ∧ w' = w.drewN (a + n)) :
    Calls P f args (w.drewN (a + n)) fun e w'' => e = .returned v ∧ ∃ m, w'' = w.drewN (a + m) :=
  h.mono fun _ _ ⟨he, hm⟩ => ⟨he, n, hm⟩
theorem quiet_add {P : Program} {f : FuncId} {args : Array Value} {w : World} {a n : Nat} {v : Value}
    (h : Calls P f args (w.drewN (a + n)) (QuietPost (w.drewN (a + n)) v)) :
    Calls P f args (w.drewN (a + n)) fun e w'' => e = .returned v ∧ ∃ m, w'' = w.drewN (a + m) :=
  h.mono fun _ _ ⟨he, m, hm⟩ => ⟨he, n + m, by rw [hm, World.drewN_drewN, Nat.add_assoc]⟩
theorem Ints.drewN {F : Nat → Prop} {w : World} {v : Value} {xs : List Int} (h : Ints F w v xs) (n : Nat) : Ints F (w.drewN n) v xs := h.move (w' := w.drewN n) fun _ _ _ => rfl
theorem Clss.drewN {F : Nat → Prop} {w : World} {v : Value} {xs : List (List Int)} (h : Clss F w v xs) (n : Nat) : Clss F (w.drewN n) v xs := Rows1.move (w' := w.drewN n) (fun _ _ _ _ _ h hm => h.move hm) h fun _ _ _ => rfl
/-- opposed -/
def oppM : List Int → Bool
  | a :: b :: r => (decide (b ≠ 0) && decide (b = -a) && decide (b ≠ a)) || oppM (b :: r)
  | _ => false
theorem oppM_cons {xs : List Int} {k : Nat} {a b : Int} (ha : xs[k]? = some a) (hb : xs[k + 1]? = some b) : oppM (xs.drop k) = ((decide (b ≠ 0) && decide (b = -a) && decide (b ≠ a)) || oppM (xs.drop (k + 1))) := by
  obtain ⟨h1, e1⟩ := List.getElem?_eq_some_iff.1 ha
  obtain ⟨h2, e2⟩ := List.getElem?_eq_some_iff.1 hb
  rw [List.drop_eq_getElem_cons h1, List.drop_eq_getElem_cons h2, e1, e2, oppM]
theorem oppM_end {xs : List Int} {k : Nat} (h : xs.length ≤ k + 1) : oppM (xs.drop k) = false := by
  have : (xs.drop k).length ≤ 1 := by rw [List.length_drop]; omega
  match hd : xs.drop k, this with
  | [], _ => rfl
  | [a], _ => rfl
/-- literals -/
def litC (a b : Int) : Int := if cmpM (varM a) (varM b) ≠ 0 then cmpM (varM a) (varM b) else cmpM a b
/-- clauses -/
def clsC : List Int → List Int → Int
  | [], [] => 0
  | [], _ :: _ => -1
  | _ :: _, [] => 1
  | a :: r, b :: s => if litC a b ≠ 0 then litC a b else clsC r s
def srtM : List Int → Bool
  | a :: b :: r => decide (litC a b < 0) && srtM (b :: r)
  | _ => true
theorem srtM_cons {xs : List Int} {k : Nat} {a b : Int} (ha : xs[k]? = some a) (hb : xs[k + 1]? = some b) : srtM (xs.drop k) = (decide (litC a b < 0) && srtM (xs.drop (k + 1))) := by
  obtain ⟨h1, e1⟩ := List.getElem?_eq_some_iff.1 ha
  obtain ⟨h2, e2⟩ := List.getElem?_eq_some_iff.1 hb
  rw [List.drop_eq_getElem_cons h1, List.drop_eq_getElem_cons h2, e1, e2, srtM]
theorem srtM_end {xs : List Int} {k : Nat} (h : xs.length ≤ k + 1) : srtM (xs.drop k) = true := by
  have : (xs.drop k).length ≤ 1 := by rw [List.length_drop]; omega
  match hd : xs.drop k, this with
  | [], _ => rfl
  | [a], _ => rfl
/-- isCanonical -/
def canGo : Option (List Int) → List (List Int) → Bool
  | _, [] => true
  | none, x :: r => !oppM x && (srtM x && canGo (some x) r)
  | some q, x :: r => !(decide (0 ≤ clsC q x) || oppM x) && (srtM x && canGo (some x) r)
def outB (V : Nat) (x : Int) : Bool := decide (x = 0) || decide ((V : Int) < varM x)
/-- Check's code -/
def checkM (vars keep : Int) (cs : List (List Int)) : Int :=
  if vars < 0 ∨ keep < 0 ∨ vars < keep then 1 else if 20000 < vars ∨ 60000 < cs.length then 4
  else if (cs.any fun c => c.any (outB vars.toNat)) = true then 3 else if canGo none cs = false then 10 else 0

/- Walks: cnf.opposed, literals, CompareFunc, clauses: at every int. No condition. -/
open Go.ChangeShapes Go.WideShapes Go.ChangeAt Go.RowKit
set_option linter.unusedVariables false

theorem opp_wrap {x y : Int} (hx : I64 x) (hy : I64 y) : (y = -x ∧ y ≠ x) ↔ (y = IntKind.i64.wrap (-x) ∧ y ≠ x) := by
  obtain ⟨h1, h2⟩ := hx
  obtain ⟨h3, h4⟩ := hy
  simp only [IntKind.wrap, IntKind.bits, IntKind.signed]
  simp
  omega

set_option maxHeartbeats 2000000 in
theorem opposed_any (F : Nat → Prop) (v : Value) (xs : List Int) (w : World) (hx : Ints F w v xs) :
    Calls Tryz.prog 32 #[v] w (QuietPost w (.bool (oppM xs))) := by
  obtain ⟨a, n, c, rfl, HN, hn⟩ := hx.form'
  obtain ⟨R, hR⟩ : ∃ R, oppM xs = R := ⟨_, rfl⟩
  have HR : Hid (R = oppM (xs.drop 0)) := Lib.hid hR.symm
  rw [hR]
  have HX := Lib.hid hx
  clear hR hx
  go_enter Tryz.func32, Tryz.ntmps32
  go_wp2
  go_loopg [3] n (fun g u3 wx => ∃ (k i nq : Nat), k + g = n ∧ k + 1 = i ∧ u3 = .int .i64 i ∧ wx = w.drewN nq ∧ Hid (R = oppM (xs.drop k)))
  case atStart => exact ⟨0, 1, 0, by omega, rfl, rfl, rfl, HR⟩
  case round =>
  obtain ⟨k, i, nq, hkg, hki, rfl, rfl, hinv⟩ := hrel
  by_cases hk : i < n
  case neg =>
    have HF : Hid (R = false) := Lib.hid (by rw [hinv.out, oppM_end (by have := HN.out; omega)])
    have hk2 : n ≤ i := by omega
    clear hinv hk
    go_wp2
    go_ret
    exact ⟨by rw [HF.out]; rfl, nq, rfl⟩
  obtain ⟨x, hxx⟩ : ∃ y, xs[k]? = some y := ⟨_, List.getElem?_eq_getElem (by have := HN.out; omega)⟩
  obtain ⟨y, hyy⟩ : ∃ y, xs[k + 1]? = some y := ⟨_, List.getElem?_eq_getElem (by have := HN.out; omega)⟩
  have HE : Hid (R = ((decide (y ≠ 0) && decide (y = -x) && decide (y ≠ x)) || oppM (xs.drop i))) := Lib.hid (by rw [hinv.out, oppM_cons hxx hyy, hki])
  have hxs := HX.out
  obtain ⟨xb, xo, rfl, _, hxb, hxc, hx0⟩ := hxs.at hxx
  obtain ⟨yb, yo, hyo, _, hyb, hyc, hy0⟩ := hxs.at hyy
  injection hyo with hyo
  injection hyo with h1 h2
  subst h1 h2
  rw [hki] at hyc
  obtain ⟨xm, hxm⟩ : ∃ z, IntKind.i64.wrap (-x) = z := ⟨_, rfl⟩
  have hopp : (y = -x ∧ y ≠ x) ↔ (y = xm ∧ y ≠ x) := by rw [← hxm]; exact opp_wrap hx0 hy0
  have hw1 : IntKind.i64.wrap ((i : Int) - 1) = (k : Int) := by rw [IntWalk.i64_in _ ⟨by omega, by omega⟩]; omega
  have hw2 : ((i : Int) - 1) = (k : Int) := by omega
  have hi0 : (0 : Int) ≤ i := by omega
  have hk0 : (0 : Int) ≤ k := by omega
  have hk1 : (k : Int) < n := by omega
  have hi1 : (i : Int) < n := by omega
  have hk3 : k < n := by omega
  have HKI := Lib.hid hki
  by_cases h0 : y = 0
  · have HF : Hid (R = oppM (xs.drop i)) := Lib.hid (by rw [HE.out, decide_eq_false (p := y ≠ 0) (by omega)]; simp)
    have hd : (y != 0) = false := by simp [h0]
    clear hinv hxx hyy HE hxs h0 hki
    go_upto_region 4 with fail
    go_quiet (fail)
    go_wp2
    go_roundg (gk - 1)
    case measure => omega
    case rel => exact ⟨i, i + 1, _, by have := HKI.out; omega, rfl, by go_num, rfl, HF⟩
  by_cases h1 : y = xm
  · have hd0 : (y != 0) = true := by simp [h0]
    have hd1 : (y == xm) = true := by simp [h1]
    have HO := Lib.hid hopp
    by_cases h2 : y = x
    · have HF : Hid (R = oppM (xs.drop i)) := Lib.hid (by rw [HE.out, decide_eq_false (p := y ≠ x) (by simp [h2])]; simp)
      have hd2 : (y != x) = false := by simp [h2]
      clear hinv hxx hyy HE hxs h0 h1 h2 hki hopp
      go_upto_region 4 with fail
      go_quiet (fail)
      go_wp2
      go_roundg (gk - 1)
      case measure => omega
      case rel => exact ⟨i, i + 1, _, by have := HKI.out; omega, rfl, by go_num, rfl, HF⟩
    · have HF : Hid (R = true) := Lib.hid (by rw [HE.out, decide_eq_true h0, decide_eq_true (HO.out.2 ⟨h1, h2⟩).1, decide_eq_true h2]; simp)
      have hd2 : (y != x) = true := by simp [h2]
      clear hinv hxx hyy HE hxs h0 h1 h2 hki hopp
      go_upto_region 4 with fail
      go_quiet (fail)
      go_wp2
      go_ret
      exact ⟨by rw [HF.out]; rfl, _, rfl⟩
  · have HF : Hid (R = oppM (xs.drop i)) := Lib.hid (by
      rw [HE.out]
      by_cases h2 : y = x
      · rw [decide_eq_false (p := y ≠ x) (by simp [h2])]; simp
      · rw [decide_eq_false (p := y = -x) (fun h3 => h1 (hopp.1 ⟨h3, h2⟩).1)]; simp)
    have hd : (y != 0) = true := by simp [h0]
    have hd1 : (y == xm) = false := by simp [h1]
    clear hinv hxx hyy HE hxs h0 h1 hki hopp
    go_upto_region 4 with fail
    go_quiet (fail)
    go_wp2
    go_roundg (gk - 1)
    case measure => omega
    case rel => exact ⟨i, i + 1, _, by have := HKI.out; omega, rfl, by go_num, rfl, HF⟩

theorem literals_any (a b : Int) (w : World) (ha : I64 a) (hb : I64 b) :
    Calls Tryz.prog 52 #[.int .i64 a, .int .i64 b] w fun e w' => e = .returned (.int .i64 (litC a b)) ∧ w' = w := by
  obtain ⟨R, hR⟩ : ∃ R, litC a b = R := ⟨_, rfl⟩
  rw [hR]
  have HR : Hid (R = if cmpM (varM a) (varM b) ≠ 0 then cmpM (varM a) (varM b) else cmpM a b) := Lib.hid hR.symm
  obtain ⟨C, hC⟩ : ∃ C, cmpM (varM a) (varM b) = C := ⟨_, rfl⟩
  have hcc := fun w => compare64_any (varM a) (varM b) w
  rw [hC] at HR hcc
  have HCC := Lib.hid hcc
  have HA := Lib.hid ha
  have HB := Lib.hid hb
  clear hR hC hcc ha hb
  by_cases h0 : C = 0
  · have HF : Hid (R = cmpM a b) := Lib.hid (by rw [HR.out, if_neg (by omega)])
    have hd : (C != 0) = false := by simp [h0]
    clear h0
    go_enter Tryz.func52, Tryz.ntmps52
    go_wp2_with fail
    refine (magnitude_any _ _ HA.out).mono ?_
    rintro e w1 ⟨rfl, rfl⟩
    go_wp2_with fail
    refine (magnitude_any _ _ HB.out).mono ?_
    rintro e w1 ⟨rfl, rfl⟩
    go_wp2_with fail
    refine (HCC.out _).mono ?_
    rintro e w1 ⟨rfl, rfl⟩
    go_wp2_with fail
    refine (compare_any _ _ _).mono ?_
    rintro e w1 ⟨rfl, rfl⟩
    go_wp2_with fail
    go_ret
    exact ⟨by rw [HF.out]; rfl, rfl⟩
  · have HF : Hid (R = C) := Lib.hid (by rw [HR.out, if_pos h0])
    have hd : (C != 0) = true := by simp [h0]
    clear h0
    go_enter Tryz.func52, Tryz.ntmps52
    go_wp2_with fail
    refine (magnitude_any _ _ HA.out).mono ?_
    rintro e w1 ⟨rfl, rfl⟩
    go_wp2_with fail
    refine (magnitude_any _ _ HB.out).mono ?_
    rintro e w1 ⟨rfl, rfl⟩
    go_wp2_with fail
    refine (HCC.out _).mono ?_
    rintro e w1 ⟨rfl, rfl⟩
    go_wp2_with fail
    go_ret
    exact ⟨by rw [HF.out]; rfl, rfl⟩

set_option maxHeartbeats 2000000 in
theorem cmpf_any {F G : Nat → Prop} (v u : Value) (xs ys : List Int) (w : World) (hx : Ints F w v xs) (hy : Ints G w u ys) :
    Calls Tryz.prog 71 #[v, u, .func (.func 52) #[] #[]] w fun e w' => e = .returned (.int .i64 (clsC xs ys)) ∧ w' = w := by
  obtain ⟨a, n, c, rfl, HN, hn⟩ := hx.form'
  obtain ⟨b, m, d, rfl, HM, hm⟩ := hy.form'
  obtain ⟨R, hR⟩ : ∃ R, clsC xs ys = R := ⟨_, rfl⟩
  have HR : Hid (R = clsC (xs.drop 0) (ys.drop 0)) := Lib.hid hR.symm
  rw [hR]
  have HX := Lib.hid hx
  have HY := Lib.hid hy
  clear hR hx hy
  go_enter Tryz.func71, Tryz.ntmps71
  go_wp2
  go_loopg [13] n (fun g u13 wx => ∃ (k : Nat), k + g = n ∧ u13 = .int .i64 k ∧ w = wx ∧ k ≤ m ∧ Hid (R = clsC (xs.drop k) (ys.drop k)))
  case atStart => exact ⟨0, by omega, rfl, rfl, by omega, HR⟩
  case round =>
  obtain ⟨k, hkg, rfl, rfl, hkm, hinv⟩ := hrel
  by_cases hk : k < n
  case neg =>
    have ex : xs.drop k = [] := List.drop_eq_nil_of_le (by have := HN.out; omega)
    have hkn : n = k := by omega
    by_cases hm2 : k < m
    · obtain ⟨y, hyy, ey⟩ := drop_at (xs := ys) (k := k) (by have := HM.out; omega)
      have HF : Hid (R = -1) := Lib.hid (by rw [hinv.out, ex, ey]; rfl)
      have hd : decide ((n : Int) < m) = true := by simp; omega
      have hd0 : n < m := by omega
      clear hinv ex ey hyy
      go_wp2
      go_ret
      exact ⟨by rw [HF.out]; rfl, rfl⟩
    · have HF : Hid (R = 0) := Lib.hid (by rw [hinv.out, ex, show ys.drop k = [] from List.drop_eq_nil_of_le (by have := HM.out; omega)]; rfl)
      have hd : decide ((n : Int) < m) = false := by simp; omega
      have hd0 : m ≤ n := by omega
      clear hinv ex
      go_wp2
      go_ret
      exact ⟨by rw [HF.out]; rfl, rfl⟩
  obtain ⟨x, hxx, ex⟩ := drop_at (xs := xs) (k := k) (by have := HN.out; omega)
  have hxs := HX.out
  obtain ⟨xb, xo, rfl, _, hxb, hxc, hx64⟩ := hxs.at hxx
  by_cases hm2 : k < m
  case neg =>
    have HF : Hid (R = 1) := Lib.hid (by rw [hinv.out, ex, show ys.drop k = [] from List.drop_eq_nil_of_le (by have := HM.out; omega)]; rfl)
    have hd : m ≤ k := by omega
    clear hinv ex hxx hxs hm2
    go_wp2
    go_ret
    exact ⟨by rw [HF.out]; rfl, rfl⟩
  obtain ⟨y, hyy, ey⟩ := drop_at (xs := ys) (k := k) (by have := HM.out; omega)
  have hys := HY.out
  obtain ⟨yb, yo, rfl, _, hyb, hyc, hy64⟩ := hys.at hyy
  obtain ⟨C, hC⟩ : ∃ C, litC x y = C := ⟨_, rfl⟩
  have hcc := fun w => literals_any x y w hx64 hy64
  have HE : Hid (R = if C ≠ 0 then C else clsC (xs.drop (k + 1)) (ys.drop (k + 1))) := Lib.hid (by rw [hinv.out, ex, ey, ← hC]; rfl)
  rw [hC] at hcc
  have HCC := Lib.hid hcc
  clear hinv ex ey hxx hyy hxs hys hC hcc
  by_cases h0 : C = 0
  · have HF : Hid (R = clsC (xs.drop (k + 1)) (ys.drop (k + 1))) := Lib.hid (by rw [HE.out, if_neg (by omega)])
    have hd : (C != 0) = false := by simp [h0]
    clear h0 HE
    go_wp2_with fail
    refine (HCC.out _).mono ?_
    rintro e w1 ⟨rfl, rfl⟩
    go_wp2_with fail
    go_roundg (gk - 1)
    case measure => omega
    case rel => exact ⟨k + 1, by omega, by go_num, rfl, by omega, HF⟩
  · have HF : Hid (R = C) := Lib.hid (by rw [HE.out, if_pos h0])
    have hd : (C != 0) = true := by simp [h0]
    clear h0 HE
    go_wp2_with fail
    refine (HCC.out _).mono ?_
    rintro e w1 ⟨rfl, rfl⟩
    go_wp2_with fail
    go_ret
    exact ⟨by rw [HF.out]; rfl, rfl⟩

theorem clauses_any {F G : Nat → Prop} (v u : Value) (xs ys : List Int) (w : World) (hx : Ints F w v xs) (hy : Ints G w u ys) :
    Calls Tryz.prog 53 #[v, u] w fun e w' => e = .returned (.int .i64 (clsC xs ys)) ∧ w' = w := by
  have H := Lib.hid (cmpf_any v u xs ys w hx hy)
  clear hx hy
  go_enter Tryz.func53, Tryz.ntmps53
  go_wp2_with fail
  refine H.out.mono ?_
  rintro e w1 ⟨rfl, rfl⟩
  go_wp2_with fail
  go_ret
  exact ⟨rfl, rfl⟩

/- Walks: slices.Clone of ints as a slice that the call owns; slices.Equal of ints. No condition but the length. -/
open Go.ChangeShapes Go.WideShapes Go.ChangeAt Go.RowKit
set_option linter.unusedVariables false

def OwnPost (W : World) (xs : List Int) (e : Ending) (w' : World) : Prop := ∃ v, e = .returned v ∧ w'.ownsRow W.heap.size 3 1 v xs.length (xs.map (.int .i64)) ∧ Below W.heap.size W w'
set_option maxRecDepth 100000 in
set_option maxHeartbeats 1000000 in
theorem clone_own (F : Nat → Prop) (v : Value) (xs : List Int) (w : World) (hx : Ints F w v xs) (hl : xs.length ≤ 16777216) :
    Calls Tryz.prog 42 #[v] w (OwnPost w xs) := by
  obtain ⟨a, n, c, rfl, HN, hn⟩ := hx.form'
  have hu := Tryz.underlying22
  have hinfo : (Tryz.prog.info? 3).map (fun i => (i.zero, i.size, i.bytes)) = some (some (.int .i64 0), 1, 8) := by kernel_rfl
  have HI := Lib.hid hinfo
  have HX := Lib.hid hx
  have hnil := fun (w : World) => Lib.run_eql_slice_nil w 22 3 a n c 0 0 hu
  have hn2 : n ≤ 16777216 := by rw [HN.out]; exact hl
  clear hinfo hx
  rcases a with _ | ad
  · simp only [Option.isNone_none] at hnil
    have h0 : xs = [] := by
      rcases xs with _ | ⟨u, r⟩
      · rfl
      · obtain ⟨_, _, he, _⟩ := HX.out.at (k := 0) (x := u) rfl
        cases he
    subst h0
    go_enter Tryz.func42, Tryz.ntmps42
    go_wp2
    go_ret
    exact ⟨_, rfl, World.ownsRow_nil _ _ _ _, Below.refl _ _⟩
  · simp only [Option.isNone_some] at hnil
    have hown : (w.alloc (.cells #[] 3)).ownsRow w.heap.size 3 1 (.slice (some ⟨w.heap.size, 0, none⟩) 0 0) 0 [] := by
      simpa using own_new (base := w.heap.size) (w := w) #[] 3 (Nat.le_refl _) (by simp)
    have hb0 : Below w.heap.size w (w.alloc (.cells #[] 3)) := (Below.refl _ _).alloc (Nat.le_refl _) _
    have HS := Lib.hid (HX.out.below hb0).1
    have HB0 := Lib.hid hb0
    clear hb0
    go_enter Tryz.func42, Tryz.ntmps42
    go_wp2_with (at_builtin; go_loud (refine wpList_pushAll rfl _ _ 22 rfl 3 (.int .i64 0) 8 Tryz.underlying22 HI.out rfl w.heap.size (.slice (some ⟨w.heap.size, 0, none⟩) 0 0) 0 [] _ F (some ad) n c _ rfl rfl hown HS.out (ints_oneCell .i64 _) (by omega) (by omega) (by simp) ?_); intro v' w' hown' hg' _; have HO := Lib.hid hown'; have HG := Lib.hid hg'; clear hown' hg' hown)
    go_ret
    have ho := HO.out
    rw [List.nil_append, Nat.zero_add] at ho
    exact ⟨_, rfl, by rw [← HN.out]; exact ho, HB0.out.grown HG.out (by simp) fun k hk => by simp [Value.ownBlock] at hk; omega⟩


set_option maxHeartbeats 2000000 in
theorem equal_any {F G : Nat → Prop} (v u : Value) (xs ys : List Int) (w : World) (hx : Ints F w v xs) (hy : Ints G w u ys) :
    Calls Tryz.prog 28 #[v, u] w (QuietPost w (.bool (xs == ys))) := by
  obtain ⟨a, n, c, rfl, HN, hn⟩ := hx.form'
  obtain ⟨b, m, d, rfl, HM, hm⟩ := hy.form'
  obtain ⟨R, hR⟩ : ∃ R, (xs == ys) = R := ⟨_, rfl⟩
  rw [hR]
  by_cases hnm : n = m
  case neg =>
    have hne : ((n : Int) != (m : Int)) = true := by rw [bne_iff_ne]; omega
    have HR : Hid (R = false) := Lib.hid (by
      rw [← hR, beq_eq_false_iff_ne]
      intro e
      exact hnm (by rw [HN.out, HM.out, e]))
    clear hR hnm
    go_enter Tryz.func28, Tryz.ntmps28
    go_wp2
    go_ret
    exact ⟨by rw [HR.out]; rfl, 0, rfl⟩
  subst hnm
  have hne : ((n : Int) != (n : Int)) = false := by simp
  have HR : Hid (R = (xs.drop 0 == ys.drop 0)) := Lib.hid hR.symm
  clear hR
  go_enter Tryz.func28, Tryz.ntmps28
  go_wp2
  go_loopg [13] n (fun g u13 wx => ∃ (k nq : Nat), k + g = n ∧ u13 = .int .i64 k ∧ wx = w.drewN nq ∧ Hid (R = (xs.drop k == ys.drop k)))
  case atStart => exact ⟨0, 0, by omega, rfl, rfl, HR⟩
  case round =>
  obtain ⟨k, nq, hkg, rfl, rfl, hinv⟩ := hrel
  by_cases hk : k < n
  · obtain ⟨x, hxx⟩ : ∃ y, xs[k]? = some y := ⟨_, List.getElem?_eq_getElem (by have := HN.out; omega)⟩
    obtain ⟨y, hyy⟩ : ∃ y, ys[k]? = some y := ⟨_, List.getElem?_eq_getElem (by have := HM.out; omega)⟩
    obtain ⟨xb, xo, rfl, _, _, hxc, _⟩ := hx.at hxx
    obtain ⟨yb, yo, rfl, _, _, hyc, _⟩ := hy.at hyy
    have ex : xs.drop k = x :: xs.drop (k + 1) := by
      obtain ⟨hlt, he⟩ := List.getElem?_eq_some_iff.1 hxx
      rw [List.drop_eq_getElem_cons hlt, he]
    have ey : ys.drop k = y :: ys.drop (k + 1) := by
      obtain ⟨hlt, he⟩ := List.getElem?_eq_some_iff.1 hyy
      rw [List.drop_eq_getElem_cons hlt, he]
    have hk0 : (0 : Int) ≤ k := by omega
    have hk1 : (k : Int) < n := by omega
    by_cases hxy : x = y
    · have HF : Hid (R = (xs.drop (k + 1) == ys.drop (k + 1))) := Lib.hid (by rw [hinv.out, ex, ey, hxy]; simp)
      have hne2 : (x != y) = false := by simp [hxy]
      clear hinv ex ey hxx hyy hxy
      go_upto_region 6 with fail
      go_quiet (fail)
      go_wp2
      go_roundg (gk - 1)
      case measure => omega
      case rel => exact ⟨k + 1, _, by omega, by go_num, rfl, HF⟩
    · have HF : Hid (R = false) := Lib.hid (by rw [hinv.out, ex, ey]; simp [hxy])
      have hne2 : (x != y) = true := by simp [hxy]
      clear hinv ex ey hxx hyy hxy
      go_upto_region 6 with fail
      go_quiet (fail)
      go_wp2
      go_ret
      exact ⟨by rw [HF.out]; rfl, _, by rw [World.drewN_drewN]⟩
  · have HF : Hid (R = true) := Lib.hid (by rw [hinv.out, List.drop_eq_nil_of_le (by have := HN.out; omega), List.drop_eq_nil_of_le (by have := HM.out; omega)]; rfl)
    clear hinv
    go_wp2
    go_ret
    exact ⟨by rw [HF.out]; rfl, nq, rfl⟩

end Go.Proofs.YteadlkecngfcoaaGreat
