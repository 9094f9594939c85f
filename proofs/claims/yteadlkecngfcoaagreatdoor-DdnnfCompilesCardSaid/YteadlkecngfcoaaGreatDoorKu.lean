/- Walk: cnf.isCanonical. -/
import Derived.Test.YteadlkecngfcoaaGreatDoorKf
import Derived.Test.YteadlkecngfcoaaGreatDoorKp
import Derived.Test.YteadlkecngfcoaaGreatDoorKz
namespace Go.Proofs.YteadlkecngfcoaaGreatDoor
open Go.ChangeShapes Go.WideShapes Go.ChangeAt Go.RowKit
set_option linter.unusedVariables false

theorem canGo_at {cs : List (List Int)} {k : Nat} {x : List Int} {p : Option (List Int)} (e : cs.drop k = x :: cs.drop (k + 1)) :
    canGo p (cs.drop k) = if ((match p with | none => false | some q => decide (0 ≤ clsC q x)) || oppM x) = true then false else srtM x && canGo (some x) (cs.drop (k + 1)) := by
  rw [e]
  rcases p with _ | q
  · rw [canGo]
    cases oppM x <;> simp
  · rw [canGo]
    cases (decide (0 ≤ clsC q x) || oppM x) <;> simp

set_option maxHeartbeats 4000000 in
theorem canon_any (F : Nat → Prop) (v : Value) (cs : List (List Int)) (w : World) (hc : Clss F w v cs) :
    Calls Tryz.prog 18 #[v] w (QuietPost w (.bool (canGo none cs))) := by
  obtain ⟨a, n, c, rfl, HN, hn⟩ := hc.form'
  obtain ⟨R, hR⟩ : ∃ R, canGo none cs = R := ⟨_, rfl⟩
  have HR : Hid (R = canGo none (cs.drop 0)) := Lib.hid hR.symm
  rw [hR]
  have HC := Lib.hid hc
  clear hR hc
  go_enter Tryz.func18, Tryz.ntmps18
  go_wp2
  go_loopg [8] n (fun g u8 wx => ∃ (k nq : Nat) (p : Option (List Int)), k + g = n ∧ u8 = .int .i64 k ∧ wx = w.drewN nq ∧ Hid (p = if k = 0 then none else cs[k-1]?) ∧ Hid (R = canGo p (cs.drop k)))
  case atStart => exact ⟨0, 0, none, by omega, rfl, rfl, Lib.hid rfl, HR⟩
  case round =>
  obtain ⟨k, nq, p, hkg, rfl, rfl, HP, hinv⟩ := hrel
  obtain ⟨GK, hGK⟩ : ∃ G, G = gk := ⟨_, rfl⟩
  subst hGK
  by_cases hk : k < n
  case neg =>
    have HF : Hid (R = true) := Lib.hid (by rw [hinv.out, List.drop_eq_nil_of_le (by have := HN.out; omega)]; cases p <;> rfl)
    have hk2 : n ≤ k := by omega
    clear hinv hk HP
    go_wp2
    go_ret
    exact ⟨by rw [HF.out]; rfl, nq, rfl⟩
  obtain ⟨x, hxx, e⟩ := drop_at (xs := cs) (k := k) (by have := HN.out; omega)
  have hcs := HC.out
  obtain ⟨b, o, u, rfl, _, hb, hcc, hu⟩ := hcs.at hxx
  obtain ⟨ua, un, uc, rfl, HU, hun⟩ := hu.form'
  have HUI := Lib.hid hu
  obtain ⟨T, hT⟩ : ∃ T, ((match p with | none => false | some q => decide (0 ≤ clsC q x)) || oppM x) = T := ⟨_, rfl⟩
  obtain ⟨S, hS⟩ : ∃ S, canGo (some x) (cs.drop (k + 1)) = S := ⟨_, rfl⟩
  have HE : Hid (R = if T = true then false else srtM (x.drop 0) && S) := Lib.hid (by rw [hinv.out, canGo_at e, hT, hS]; rfl)
  have HT := Lib.hid hT
  have HS := Lib.hid hS
  have HXX := Lib.hid hxx
  have HCS := Lib.hid hcs
  clear hT hS hinv e hxx hcs hu
  go_upto_region 4 with fail
  go_cut [28] (fun u28 wx => u28 = .bool T ∧ ∃ nq, wx = w.drewN nq)
  case first =>
    by_cases hk0 : k = 0
    · have HTT : Hid (T = oppM x) := Lib.hid (by rw [← HT.out, HP.out, if_pos hk0]; simp)
      have hd : decide ((0 : Int) < k) = false := by simp; omega
      have hd1 : decide (0 < k) = false := by simp; omega
      clear HT HP hk0
      go_wp2_with fail
      refine (opposed_any F _ x _ (HUI.out.drewN nq)).mono ?_
      rintro e w1 ⟨rfl, n1, rfl⟩
      go_wp2
      go_meet
      exact ⟨by rw [HTT.out], _, rfl⟩
    · obtain ⟨k', hk'⟩ : ∃ k', k' + 1 = k := ⟨k - 1, by omega⟩
      obtain ⟨q, hq⟩ : ∃ q, cs[k']? = some q := ⟨_, List.getElem?_eq_getElem (by have := HN.out; omega)⟩
      have hcs := HCS.out
      obtain ⟨qb, qo, qv, hqo, _, hqb, hqc, hqi⟩ := hcs.at hq
      injection hqo with hqo
      injection hqo with h1 h2
      subst h1 h2
      obtain ⟨qa, qn, qcap, rfl, HQ, hqn⟩ := hqi.form'
      have HTT : Hid (T = (decide (0 ≤ clsC q x) || oppM x)) := Lib.hid (by rw [← HT.out, HP.out, if_neg hk0, show k - 1 = k' by omega, hq])
      have hd : decide ((0 : Int) < k) = true := by simp; omega
      have hd1 : decide (0 < k) = true := by simp; omega
      have hw1 : IntKind.i64.wrap ((k : Int) - 1) = (k' : Int) := by rw [IntWalk.i64_in _ ⟨by omega, by omega⟩]; omega
      have hw0 : wrap64 ((k : Int) - 1) = (k' : Int) := by rw [IntWalk.wrap64_in _ ⟨by omega, by omega⟩]; omega
      have hw2 : ((k : Int) - 1) = (k' : Int) := by omega
      have hk3 : k' < n := by omega
      have HQI := Lib.hid hqi
      clear HT HP hk0 hq hcs hqi hk'
      go_wp2_with fail
      refine (clauses_any _ _ q x _ (HQI.out.drewN nq) (HUI.out.drewN nq)).mono ?_
      rintro e w1 ⟨rfl, rfl⟩
      by_cases hC : 0 ≤ clsC q x
      · have HT2 : Hid (T = true) := Lib.hid (by rw [HTT.out, decide_eq_true hC]; rfl)
        have hd2 : decide (0 ≤ clsC q x) = true := decide_eq_true hC
        clear hC
        go_wp2
        go_meet
        exact ⟨by rw [HT2.out], nq, rfl⟩
      · have HT2 : Hid (T = oppM x) := Lib.hid (by rw [HTT.out, decide_eq_false hC]; rfl)
        have hd2 : decide (0 ≤ clsC q x) = false := decide_eq_false hC
        clear hC
        go_wp2_with fail
        refine (opposed_any F _ x _ (HUI.out.drewN nq)).mono ?_
        rintro e w1 ⟨rfl, n1, rfl⟩
        go_wp2
        go_meet
        exact ⟨by rw [HT2.out], _, rfl⟩
  case rest =>
  obtain ⟨rfl, nq2, rfl⟩ := hcut
  rcases bool2 T with rfl | rfl
  · have HF : Hid (R = false) := Lib.hid (by rw [HE.out, if_pos rfl])
    go_wp2
    go_ret
    exact ⟨by rw [HF.out]; rfl, nq2, rfl⟩
  have HF0 : Hid (R = (srtM (x.drop 0) && S)) := Lib.hid (by rw [HE.out, if_neg (by simp)])
  clear HE HT
  go_wp2
  go_loopg [5] un (fun g u5 wx => ∃ (j i nq : Nat), j + g = un ∧ j + 1 = i ∧ u5 = .int .i64 i ∧ wx = w.drewN nq ∧ Hid (R = (srtM (x.drop j) && S)))
  case atStart => exact ⟨0, 1, nq2, by omega, rfl, rfl, rfl, HF0⟩
  case round =>
  obtain ⟨j, i, nq3, hjg, hji, rfl, rfl, hinv⟩ := hrel
  by_cases hj : i < un
  case neg =>
    have HF : Hid (R = canGo (some x) (cs.drop (k + 1))) := Lib.hid (by rw [hinv.out, srtM_end (by have := HU.out; omega), HS.out]; rfl)
    have hk2 : un ≤ i := by omega
    have HPP : Hid (some x = if k + 1 = 0 then none else cs[k + 1 - 1]?) := Lib.hid (by rw [if_neg (by omega), Nat.add_sub_cancel, HXX.out])
    clear hinv hj
    go_wp2
    go_roundg (GK - 1)
    case measure => omega
    case rel => exact ⟨k + 1, nq3, some x, by omega, by go_num, rfl, HPP, HF⟩
  obtain ⟨y, hyy⟩ : ∃ y, x[j]? = some y := ⟨_, List.getElem?_eq_getElem (by have := HU.out; omega)⟩
  obtain ⟨z, hzz⟩ : ∃ y, x[j + 1]? = some y := ⟨_, List.getElem?_eq_getElem (by have := HU.out; omega)⟩
  have hui := HUI.out
  obtain ⟨yb, yo, rfl, _, hyb, hyc, hy64⟩ := hui.at hyy
  obtain ⟨zb, zo, hzo, _, hzb, hzc, hz64⟩ := hui.at hzz
  injection hzo with hzo
  injection hzo with h1 h2
  subst h1 h2
  rw [hji] at hzc
  have hw1 : IntKind.i64.wrap ((i : Int) - 1) = (j : Int) := by rw [IntWalk.i64_in _ ⟨by omega, by omega⟩]; omega
  have hw2 : ((i : Int) - 1) = (j : Int) := by omega
  have hi0 : (0 : Int) ≤ i := by omega
  have hk0 : (0 : Int) ≤ j := by omega
  have hk1 : (j : Int) < un := by omega
  have hi1 : (i : Int) < un := by omega
  have hk3 : j < un := by omega
  obtain ⟨C, hC⟩ : ∃ C, litC y z = C := ⟨_, rfl⟩
  have hcc := fun w => literals_any y z w hy64 hz64
  have HE : Hid (R = ((decide (C < 0) && srtM (x.drop i)) && S)) := Lib.hid (by rw [hinv.out, srtM_cons hyy hzz, hC, hji])
  rw [hC] at hcc
  have HCC := Lib.hid hcc
  have HJI := Lib.hid hji
  clear hC hcc hinv hyy hzz hui hji hy64 hz64
  by_cases h0 : C < 0
  · have HF : Hid (R = (srtM (x.drop i) && S)) := Lib.hid (by rw [HE.out, decide_eq_true h0]; simp)
    have hd : decide (0 ≤ C) = false := by simp; omega
    clear h0 HE
    go_upto_region 9 with fail
    go_quiet ((go_at_call 31; exact quiet_add_same (HCC.out _)))
    go_wp2
    go_roundg (gk - 1)
    case measure => omega
    case rel => exact ⟨i, i + 1, _, by have := HJI.out; omega, rfl, by go_num, rfl, HF⟩
  · have HF : Hid (R = false) := Lib.hid (by rw [HE.out, decide_eq_false h0]; simp)
    have hd : decide (0 ≤ C) = true := by simp; omega
    clear h0 HE
    go_upto_region 9 with fail
    go_quiet ((go_at_call 31; exact quiet_add_same (HCC.out _)))
    go_wp2
    try rw [Exit.noGoto_ret]
    go_ret
    exact ⟨by rw [HF.out]; rfl, _, rfl⟩

/- Walks: cnf.outside and its closures, cnf.Check. -/
open Go.ChangeShapes Go.WideShapes Go.ChangeAt Go.RowKit
set_option linter.unusedVariables false

theorem out1_any (V g : Nat) (x : Int) (w : World) (hg : w.cell? ⟨g, 0, none⟩ = some (.int .i64 V)) (hV : V ≤ 1000000) (hx : I64 x) :
    Calls Tryz.prog 27 #[.int .i64 x, .pointer (some ⟨g, 0, none⟩)] w (QuietPost w (.bool (outB V x))) := by
  obtain ⟨R, hR⟩ : ∃ R, outB V x = R := ⟨_, rfl⟩
  rw [hR]
  have HR := Lib.hid hR
  have HX := Lib.hid hx
  clear hR hx
  by_cases h0 : x = 0
  · have HF : Hid (R = true) := Lib.hid (by rw [← HR.out, outB, decide_eq_true h0]; rfl)
    have hd : (x == 0) = true := by simp [h0]
    clear h0
    go_enter Tryz.func27, Tryz.ntmps27
    go_wp2
    go_quiet (fail)
    go_wp2
    go_ret
    exact ⟨by rw [HF.out]; rfl, _, rfl⟩
  have hd : (x == 0) = false := by simp [h0]
  have hv : 0 ≤ varM x := by unfold varM; split <;> omega
  have HM := fun w => Lib.hid (magnitude_any x w HX.out)
  generalize hvm : varM x = m at *
  have hw : IntKind.u64.wrap (V : Int) = (V : Int) := by simp [IntKind.wrap, IntKind.bits, IntKind.signed]; omega
  have HF : Hid (R = decide ((V : Int) < m)) := Lib.hid (by rw [← HR.out, outB, decide_eq_false h0, hvm]; rfl)
  have HVM := Lib.hid hvm
  clear h0 hvm
  go_enter Tryz.func27, Tryz.ntmps27
  go_wp2
  go_quiet ((go_at_call 28; exact Calls.quiet_of_same (HM _).out))
  go_wp2
  go_ret
  exact ⟨by rw [HF.out]; rfl, _, rfl⟩
def outGo (V : Nat) : List Int → Nat → Int
  | [], _ => -1
  | x :: r, i => if outB V x = true then i else outGo V r (i + 1)
theorem outGo_any (V : Nat) : ∀ (xs : List Int) (i : Nat), decide (0 ≤ outGo V xs i) = xs.any (outB V)
  | [], i => by simp [outGo]
  | x :: r, i => by
    rw [outGo, List.any_cons]
    by_cases h : outB V x = true
    · rw [if_pos h, h]; simp
    · rw [if_neg h, outGo_any V r]; simp [h]
set_option maxHeartbeats 1000000 in
theorem indexf1_any (F : Nat → Prop) (V g : Nat) (v : Value) (xs : List Int) (w : World) (hx : Ints F w v xs) (hg : w.cell? ⟨g, 0, none⟩ = some (.int .i64 V)) (hV : V ≤ 1000000) :
    Calls Tryz.prog 43 #[v, .func (.func 27) #[] #[.pointer (some ⟨g, 0, none⟩)]] w (QuietPost w (.int .i64 (outGo V xs 0))) := by
  obtain ⟨a, n, c, rfl, HN, hn⟩ := hx.form'
  obtain ⟨R, hR⟩ : ∃ R, outGo V xs 0 = R := ⟨_, rfl⟩
  have HR : Hid (R = outGo V (xs.drop 0) 0) := Lib.hid hR.symm
  rw [hR]
  have HX := Lib.hid hx
  have HG := Lib.hid hg
  clear hR hx hg
  go_enter Tryz.func43, Tryz.ntmps43
  go_wp2
  go_loopg [4, 8] n (fun g u4 u8 wx => ∃ k nq : Nat, k + g = n ∧ u8 = .int .i64 k ∧ u4 = .int .i64 0 ∧ wx = w.drewN nq ∧ Hid (R = outGo V (xs.drop k) k))
  case atStart => exact ⟨0, 0, by omega, rfl, rfl, rfl, HR⟩
  case round =>
    obtain ⟨k, nq, hk, rfl, rfl, rfl, hinv⟩ := hrel
    by_cases hlt : k < n
    · obtain ⟨y, hy, e⟩ := drop_at (xs := xs) (k := k) (by have := HN.out; omega)
      have hxs := HX.out
      obtain ⟨b, off, rfl, _, hb, hc, hyi⟩ := hxs.at hy
      have HI : Hid (R = if outB V y = true then (k : Int) else outGo V (xs.drop (k + 1)) (k + 1)) := Lib.hid (by rw [hinv.out, e]; rfl)
      obtain ⟨B, hB⟩ : ∃ B, outB V y = B := ⟨_, rfl⟩
      have hoc := fun nq => out1_any V g y (w.drewN nq) HG.out hV hyi
      rw [hB] at HI hoc
      have HOC := Lib.hid hoc
      clear hinv e hy hB hoc hxs hyi
      rcases bool2 B with rfl | rfl
      · have HF : Hid (R = k) := Lib.hid (by rw [HI.out, if_pos rfl])
        go_wp2_with fail
        refine (HOC.out _).mono ?_
        rintro e w' ⟨rfl, n1, rfl⟩
        go_wp2_with fail
        go_ret
        exact ⟨by rw [HF.out]; rfl, _, rfl⟩
      · have HF : Hid (R = outGo V (xs.drop (k + 1)) (k + 1)) := Lib.hid (by rw [HI.out, if_neg (by simp)])
        go_wp2_with fail
        refine (HOC.out _).mono ?_
        rintro e w' ⟨rfl, n1, rfl⟩
        go_wp2_with fail
        go_roundg (gk - 1)
        case measure => omega
        case rel => exact ⟨k + 1, _, by omega, by go_num, rfl, rfl, HF⟩
    · have HF : Hid (R = -1) := Lib.hid (by rw [hinv.out, List.drop_eq_nil_of_le (by have := HN.out; omega)]; rfl)
      clear hinv
      go_wp2
      go_ret
      exact ⟨by rw [HF.out]; rfl, nq, rfl⟩
theorem containsf1_any (F : Nat → Prop) (V g : Nat) (v : Value) (xs : List Int) (w : World) (hx : Ints F w v xs) (hg : w.cell? ⟨g, 0, none⟩ = some (.int .i64 V)) (hV : V ≤ 1000000) :
    Calls Tryz.prog 26 #[v, .func (.func 27) #[] #[.pointer (some ⟨g, 0, none⟩)]] w (QuietPost w (.bool (xs.any (outB V)))) := by
  have hc := outGo_any V xs 0
  have hI := indexf1_any F V g v xs w hx hg hV
  obtain ⟨R, hR⟩ : ∃ R, outGo V xs 0 = R := ⟨_, rfl⟩
  rw [hR] at hc hI
  rw [← hc]
  have HI := Lib.hid hI
  clear hc hR hI hx hg
  go_enter Tryz.func26, Tryz.ntmps26
  go_wp2_with fail
  refine HI.out.mono ?_
  rintro e w' ⟨rfl, n1, rfl⟩
  go_wp2_with fail
  go_ret
  exact ⟨rfl, _, rfl⟩
theorem out2_any (F : Nat → Prop) (V g : Nat) (v : Value) (xs : List Int) (w : World) (hx : Ints F w v xs) (hg : w.cell? ⟨g, 0, none⟩ = some (.int .i64 V)) (hV : V ≤ 1000000) :
    Calls Tryz.prog 25 #[v, .pointer (some ⟨g, 0, none⟩)] w (QuietPost w (.bool (xs.any (outB V)))) := by
  have HI := Lib.hid (containsf1_any F V g v xs w hx hg hV)
  clear hx hg
  go_enter Tryz.func25, Tryz.ntmps25
  go_wp2_with fail
  refine HI.out.mono ?_
  rintro e w' ⟨rfl, n1, rfl⟩
  go_wp2_with fail
  go_ret
  exact ⟨rfl, _, rfl⟩
def outsGo (V : Nat) : List (List Int) → Nat → Int
  | [], _ => -1
  | x :: r, i => if x.any (outB V) = true then i else outsGo V r (i + 1)
theorem outsGo_any (V : Nat) : ∀ (xs : List (List Int)) (i : Nat), decide (0 ≤ outsGo V xs i) = xs.any fun x => x.any (outB V)
  | [], i => by simp [outsGo]
  | x :: r, i => by
    rw [outsGo, List.any_cons]
    by_cases h : x.any (outB V) = true
    · rw [if_pos h, h]; simp
    · rw [if_neg h, outsGo_any V r]; simp [h]
set_option maxHeartbeats 1000000 in
theorem indexf2_any (F : Nat → Prop) (V g : Nat) (v : Value) (xs : List (List Int)) (w : World) (hx : Clss F w v xs) (hg : w.cell? ⟨g, 0, none⟩ = some (.int .i64 V)) (hV : V ≤ 1000000) :
    Calls Tryz.prog 42 #[v, .func (.func 25) #[] #[.pointer (some ⟨g, 0, none⟩)]] w (QuietPost w (.int .i64 (outsGo V xs 0))) := by
  obtain ⟨a, n, c, rfl, HN, hn⟩ := hx.form'
  obtain ⟨R, hR⟩ : ∃ R, outsGo V xs 0 = R := ⟨_, rfl⟩
  have HR : Hid (R = outsGo V (xs.drop 0) 0) := Lib.hid hR.symm
  rw [hR]
  have HX := Lib.hid hx
  have HG := Lib.hid hg
  clear hR hx hg
  go_enter Tryz.func42, Tryz.ntmps42
  go_wp2
  go_loopg [4, 8] n (fun g u4 u8 wx => ∃ k nq : Nat, k + g = n ∧ u8 = .int .i64 k ∧ u4 = .int .i64 0 ∧ wx = w.drewN nq ∧ Hid (R = outsGo V (xs.drop k) k))
  case atStart => exact ⟨0, 0, by omega, rfl, rfl, rfl, HR⟩
  case round =>
    obtain ⟨k, nq, hk, rfl, rfl, rfl, hinv⟩ := hrel
    by_cases hlt : k < n
    · obtain ⟨y, hy, e⟩ := drop_at (xs := xs) (k := k) (by have := HN.out; omega)
      have hxs := HX.out
      obtain ⟨b, off, yv, rfl, _, hb, hc, hyi⟩ := hxs.at hy
      obtain ⟨ya, yn, yc, rfl, HYN, hyn⟩ := hyi.form'
      have HI : Hid (R = if y.any (outB V) = true then (k : Int) else outsGo V (xs.drop (k + 1)) (k + 1)) := Lib.hid (by rw [hinv.out, e]; rfl)
      obtain ⟨B, hB⟩ : ∃ B, y.any (outB V) = B := ⟨_, rfl⟩
      have hoc := fun nq => out2_any _ V g _ y (w.drewN nq) (hyi.drewN nq) HG.out hV
      rw [hB] at HI hoc
      have HOC := Lib.hid hoc
      clear hinv e hy hB hoc hxs hyi
      rcases bool2 B with rfl | rfl
      · have HF : Hid (R = k) := Lib.hid (by rw [HI.out, if_pos rfl])
        go_wp2_with fail
        refine (HOC.out _).mono ?_
        rintro e w' ⟨rfl, n1, rfl⟩
        go_wp2_with fail
        go_ret
        exact ⟨by rw [HF.out]; rfl, _, rfl⟩
      · have HF : Hid (R = outsGo V (xs.drop (k + 1)) (k + 1)) := Lib.hid (by rw [HI.out, if_neg (by simp)])
        go_wp2_with fail
        refine (HOC.out _).mono ?_
        rintro e w' ⟨rfl, n1, rfl⟩
        go_wp2_with fail
        go_roundg (gk - 1)
        case measure => omega
        case rel => exact ⟨k + 1, _, by omega, by go_num, rfl, rfl, HF⟩
    · have HF : Hid (R = -1) := Lib.hid (by rw [hinv.out, List.drop_eq_nil_of_le (by have := HN.out; omega)]; rfl)
      clear hinv
      go_wp2
      go_ret
      exact ⟨by rw [HF.out]; rfl, nq, rfl⟩
theorem containsf2_any (F : Nat → Prop) (V g : Nat) (v : Value) (xs : List (List Int)) (w : World) (hx : Clss F w v xs) (hg : w.cell? ⟨g, 0, none⟩ = some (.int .i64 V)) (hV : V ≤ 1000000) :
    Calls Tryz.prog 24 #[v, .func (.func 25) #[] #[.pointer (some ⟨g, 0, none⟩)]] w (QuietPost w (.bool (xs.any fun x => x.any (outB V)))) := by
  have hc := outsGo_any V xs 0
  have hI := indexf2_any F V g v xs w hx hg hV
  obtain ⟨R, hR⟩ : ∃ R, outsGo V xs 0 = R := ⟨_, rfl⟩
  rw [hR] at hc hI
  rw [← hc]
  have HI := Lib.hid hI
  clear hc hR hI hx hg
  go_enter Tryz.func24, Tryz.ntmps24
  go_wp2_with fail
  refine HI.out.mono ?_
  rintro e w' ⟨rfl, n1, rfl⟩
  go_wp2_with fail
  go_ret
  exact ⟨rfl, _, rfl⟩
theorem outside_any (F : Nat → Prop) (V : Nat) (v : Value) (xs : List (List Int)) (w : World) (hx : Clss F w v xs) (hV : V ≤ 1000000) :
    Calls Tryz.prog 17 #[v, .int .i64 (V : Int)] w (BoolPost w (xs.any fun x => x.any (outB V))) := by
  have hb : Below w.heap.size w (w.alloc (.cells #[.int .i64 (V : Int)] 3)) := (Below.refl _ _).alloc (Nat.le_refl _) _
  have HB := Lib.hid hb
  obtain ⟨a, n, c, rfl, HN, hn⟩ := hx.form'
  have HI := Lib.hid (containsf2_any F V w.heap.size (.slice a n c) xs _ (hx.below hb) (by simp) hV)
  clear hx hb
  go_enter Tryz.func17, Tryz.ntmps17
  go_wp2_with fail
  refine HI.out.mono ?_
  rintro e w' ⟨rfl, n1, rfl⟩
  go_wp2_with fail
  go_ret
  exact ⟨rfl, below_drewN HB.out _⟩

/- Walk: cnf.Check. -/
open Go.ChangeShapes Go.WideShapes Go.ChangeAt Go.RowKit
set_option linter.unusedVariables false

def CodePost (W : World) (c : Int) (e : Ending) (w' : World) : Prop := e = .returned (.int .i64 c) ∧ Below W.heap.size W w'
set_option maxHeartbeats 2000000 in
theorem check_any (F : Nat → Prop) (vars keep : Int) (cv : Value) (cs : List (List Int)) (w : World) (hx : Clss F w cv cs) (hv : I64 vars) (hk : I64 keep) :
    Calls Tryz.prog 6 #[.agg #[.int .i64 vars, .int .i64 keep, cv]] w (CodePost w (checkM vars keep cs)) := by
  obtain ⟨a, n, c, rfl, HN, hn⟩ := hx.form'
  have hb : Below w.heap.size w (w.alloc (.cells #[.int .i64 vars, .int .i64 keep, .slice a n c] 24)) := (Below.refl _ _).alloc (Nat.le_refl _) _
  have HB := Lib.hid hb
  have HX := Lib.hid (hx.below hb)
  obtain ⟨R, hR⟩ : ∃ R, checkM vars keep cs = R := ⟨_, rfl⟩
  have HR : Hid (R = if vars < 0 ∨ keep < 0 ∨ vars < keep then 1 else if 20000 < vars ∨ 60000 < cs.length then 4 else if (cs.any fun c => c.any (outB vars.toNat)) = true then 3 else if canGo none cs = false then 10 else 0) := Lib.hid hR.symm
  rw [hR]
  clear hR hb hx
  by_cases h1 : vars < 0
  · have HF : Hid (R = 1) := Lib.hid (by rw [HR.out, if_pos (.inl h1)])
    have hd : decide (vars < 0) = true := decide_eq_true h1
    clear h1
    go_enter Tryz.func6, Tryz.ntmps6
    go_wp2_with fail
    go_ret
    exact ⟨by rw [HF.out]; rfl, HB.out⟩
  have hd1 : decide (vars < 0) = false := decide_eq_false h1
  by_cases h2 : keep < 0
  · have HF : Hid (R = 1) := Lib.hid (by rw [HR.out, if_pos (.inr (.inl h2))])
    have hd : decide (keep < 0) = true := decide_eq_true h2
    clear h1 h2
    go_enter Tryz.func6, Tryz.ntmps6
    go_wp2_with fail
    go_ret
    exact ⟨by rw [HF.out]; rfl, HB.out⟩
  have hd2 : decide (keep < 0) = false := decide_eq_false h2
  by_cases h3 : vars < keep
  · have HF : Hid (R = 1) := Lib.hid (by rw [HR.out, if_pos (.inr (.inr h3))])
    have hd : decide (vars < keep) = true := decide_eq_true h3
    clear h1 h2 h3
    go_enter Tryz.func6, Tryz.ntmps6
    go_wp2_with fail
    go_ret
    exact ⟨by rw [HF.out]; rfl, HB.out⟩
  have hd3 : decide (vars < keep) = false := decide_eq_false h3
  have HR2 : Hid (R = if 20000 < vars ∨ 60000 < cs.length then 4 else if (cs.any fun c => c.any (outB vars.toNat)) = true then 3 else if canGo none cs = false then 10 else 0) := Lib.hid (by rw [HR.out, if_neg (by omega)])
  clear HR
  by_cases h4 : 20000 < vars
  · have HF : Hid (R = 4) := Lib.hid (by rw [HR2.out, if_pos (.inl h4)])
    have hd : decide (20000 < vars) = true := decide_eq_true h4
    clear h1 h2 h3 h4
    go_enter Tryz.func6, Tryz.ntmps6
    go_wp2_with fail
    go_ret
    exact ⟨by rw [HF.out]; rfl, HB.out⟩
  have hd4 : decide (20000 < vars) = false := decide_eq_false h4
  by_cases h5 : 60000 < n
  · have HF : Hid (R = 4) := Lib.hid (by rw [HR2.out, if_pos (.inr (by rw [← HN.out]; exact h5))])
    have hd : decide ((60000 : Int) < n) = true := by simp; omega
    have hd' : decide (60000 < n) = true := by simp; omega
    clear h1 h2 h3 h4 h5
    go_enter Tryz.func6, Tryz.ntmps6
    go_wp2_with fail
    go_ret
    exact ⟨by rw [HF.out]; rfl, HB.out⟩
  have hd5 : decide ((60000 : Int) < n) = false := by simp; omega
  have hd5' : decide (60000 < n) = false := by simp; omega
  obtain ⟨V, rfl⟩ := Int.eq_ofNat_of_zero_le (show 0 ≤ vars by omega)
  have HR3 : Hid (R = if (cs.any fun c => c.any (outB V)) = true then 3 else if canGo none cs = false then 10 else 0) := Lib.hid (by rw [HR2.out, if_neg (by have := HN.out; omega)]; rfl)
  have hout := outside_any F V (.slice a n c) cs _ HX.out (by omega)
  obtain ⟨O, hO⟩ : ∃ O, (cs.any fun c => c.any (outB V)) = O := ⟨_, rfl⟩
  rw [hO] at HR3 hout
  have HOUT := Lib.hid hout
  clear h1 h2 h3 h4 h5 hO hout HR2
  go_enter Tryz.func6, Tryz.ntmps6
  go_wp2_with fail
  refine HOUT.out.mono ?_
  rintro e w1 ⟨rfl, hb1⟩
  have HB1 : Hid (Below w.heap.size w w1) := Lib.hid (HB.out.trans (hb1.mono (by simp)))
  have c0 := below_c hb1 (show w.heap.size < _ by simp) (o := 0) (v := .int .i64 V) (by simp)
  have c2 := below_c hb1 (show w.heap.size < _ by simp) (o := 2) (v := .slice a n c) (by simp)
  have HX1 := Lib.hid (HX.out.below hb1)
  clear hb1 HX HOUT
  rcases bool2 O with rfl | rfl
  · have HF : Hid (R = 3) := Lib.hid (by rw [HR3.out, if_pos rfl])
    go_wp2_with fail
    go_ret
    exact ⟨by rw [HF.out]; rfl, HB1.out⟩
  have hcan := canon_any F (.slice a n c) cs w1 HX1.out
  have HR4 : Hid (R = if canGo none cs = false then 10 else 0) := Lib.hid (by rw [HR3.out, if_neg (by simp)])
  obtain ⟨O, hO⟩ : ∃ O, canGo none cs = O := ⟨_, rfl⟩
  rw [hO] at HR4 hcan
  have HCAN := Lib.hid hcan
  clear hO hcan HR3
  rcases bool2 O with rfl | rfl
  · have HF : Hid (R = 0) := Lib.hid (by rw [HR4.out, if_neg (by simp)])
    go_wp2_with fail
    refine HCAN.out.mono ?_
    rintro e w2 ⟨rfl, n2, rfl⟩
    go_wp2_with fail
    go_ret
    exact ⟨by rw [HF.out]; rfl, below_drewN HB1.out _⟩
  · have HF : Hid (R = 10) := Lib.hid (by rw [HR4.out, if_pos rfl])
    go_wp2_with fail
    refine HCAN.out.mono ?_
    rintro e w2 ⟨rfl, n2, rfl⟩
    go_wp2_with fail
    go_ret
    exact ⟨by rw [HF.out]; rfl, below_drewN HB1.out _⟩
end Go.Proofs.YteadlkecngfcoaaGreatDoor
