/- Walk: cnf.isCanonical. -/
import Derived.Test.YtihkknploioakaaGreatKo
import Derived.Test.YtihkknploioakaaGreatKp
namespace Go.Proofs.YtihkknploioakaaGreat
open Go.ChangeShapes Go.WideShapes Go.ChangeAt Go.RowKit
set_option linter.unusedVariables false

theorem canGo_at {cs : List (List Int)} {k : Nat} {x : List Int} {p : Option (List Int)} (e : cs.drop k = x :: cs.drop (k + 1)) :
    canGo p (cs.drop k) = if ((match p with | none => false | some q => decide (0 ≤ clsC q x)) || oppM x) = true then false else srtM x && canGo (some x) (cs.drop (k + 1)) := by
  rw [e]
  rcases p with _ | q
  · rw [canGo]
    cases oppM x <;> simp
  · rw [canGo]
    cases (decide (0 ≤ clsC q x) || oppM x) <;> simp

set_option maxHeartbeats 4000000 in
theorem canon_any (F : Nat → Prop) (v : Value) (cs : List (List Int)) (w : World) (hc : Clss F w v cs) :
    Calls Tryz.prog 72 #[v] w (QuietPost w (.bool (canGo none cs))) := by
  obtain ⟨a, n, c, rfl, HN, hn⟩ := hc.form'
  obtain ⟨R, hR⟩ : ∃ R, canGo none cs = R := ⟨_, rfl⟩
  have HR : Hid (R = canGo none (cs.drop 0)) := Lib.hid hR.symm
  rw [hR]
  have HC := Lib.hid hc
  clear hR hc
  go_enter Tryz.func72, Tryz.ntmps72
  go_wp2
  go_loopg [8] n (fun g u8 wx => ∃ (k nq : Nat) (p : Option (List Int)), k + g = n ∧ u8 = .int .i64 k ∧ wx = w.drewN nq ∧ Hid (p = if k = 0 then none else cs[k-1]?) ∧ Hid (R = canGo p (cs.drop k)))
  case atStart => exact ⟨0, 0, none, by omega, rfl, rfl, Lib.hid rfl, HR⟩
  case round =>
  obtain ⟨k, nq, p, hkg, rfl, rfl, HP, hinv⟩ := hrel
  obtain ⟨GK, hGK⟩ : ∃ G, G = gk := ⟨_, rfl⟩
  subst hGK
  by_cases hk : k < n
  case neg =>
    have HF : Hid (R = true) := Lib.hid (by rw [hinv.out, List.drop_eq_nil_of_le (by have := HN.out; omega)]; cases p <;> rfl)
    have hk2 : n ≤ k := by omega
    clear hinv hk HP
    go_wp2
    go_ret
    exact ⟨by rw [HF.out]; rfl, nq, rfl⟩
  obtain ⟨x, hxx, e⟩ := drop_at (xs := cs) (k := k) (by have := HN.out; omega)
  have hcs := HC.out
  obtain ⟨b, o, u, rfl, _, hb, hcc, hu⟩ := hcs.at hxx
  obtain ⟨ua, un, uc, rfl, HU, hun⟩ := hu.form'
  have HUI := Lib.hid hu
  obtain ⟨T, hT⟩ : ∃ T, ((match p with | none => false | some q => decide (0 ≤ clsC q x)) || oppM x) = T := ⟨_, rfl⟩
  obtain ⟨S, hS⟩ : ∃ S, canGo (some x) (cs.drop (k + 1)) = S := ⟨_, rfl⟩
  have HE : Hid (R = if T = true then false else srtM (x.drop 0) && S) := Lib.hid (by rw [hinv.out, canGo_at e, hT, hS]; rfl)
  have HT := Lib.hid hT
  have HS := Lib.hid hS
  have HXX := Lib.hid hxx
  have HCS := Lib.hid hcs
  clear hT hS hinv e hxx hcs hu
  go_upto_region 4 with fail
  go_cut [28] (fun u28 wx => u28 = .bool T ∧ ∃ nq, wx = w.drewN nq)
  case first =>
    by_cases hk0 : k = 0
    · have HTT : Hid (T = oppM x) := Lib.hid (by rw [← HT.out, HP.out, if_pos hk0]; simp)
      have hd : decide ((0 : Int) < k) = false := by simp; omega
      have hd1 : decide (0 < k) = false := by simp; omega
      clear HT HP hk0
      go_wp2_with fail
      refine (opposed_any F _ x _ (HUI.out.drewN nq)).mono ?_
      rintro e w1 ⟨rfl, n1, rfl⟩
      go_wp2
      go_meet
      exact ⟨by rw [HTT.out], _, rfl⟩
    · obtain ⟨k', hk'⟩ : ∃ k', k' + 1 = k := ⟨k - 1, by omega⟩
      obtain ⟨q, hq⟩ : ∃ q, cs[k']? = some q := ⟨_, List.getElem?_eq_getElem (by have := HN.out; omega)⟩
      have hcs := HCS.out
      obtain ⟨qb, qo, qv, hqo, _, hqb, hqc, hqi⟩ := hcs.at hq
      injection hqo with hqo
      injection hqo with h1 h2
      subst h1 h2
      obtain ⟨qa, qn, qcap, rfl, HQ, hqn⟩ := hqi.form'
      have HTT : Hid (T = (decide (0 ≤ clsC q x) || oppM x)) := Lib.hid (by rw [← HT.out, HP.out, if_neg hk0, show k - 1 = k' by omega, hq])
      have hd : decide ((0 : Int) < k) = true := by simp; omega
      have hd1 : decide (0 < k) = true := by simp; omega
      have hw1 : IntKind.i64.wrap ((k : Int) - 1) = (k' : Int) := by rw [IntWalk.i64_in _ ⟨by omega, by omega⟩]; omega
      have hw0 : wrap64 ((k : Int) - 1) = (k' : Int) := by rw [IntWalk.wrap64_in _ ⟨by omega, by omega⟩]; omega
      have hw2 : ((k : Int) - 1) = (k' : Int) := by omega
      have hk3 : k' < n := by omega
      have HQI := Lib.hid hqi
      clear HT HP hk0 hq hcs hqi hk'
      go_wp2_with fail
      refine (clauses_any _ _ q x _ (HQI.out.drewN nq) (HUI.out.drewN nq)).mono ?_
      rintro e w1 ⟨rfl, rfl⟩
      by_cases hC : 0 ≤ clsC q x
      · have HT2 : Hid (T = true) := Lib.hid (by rw [HTT.out, decide_eq_true hC]; rfl)
        have hd2 : decide (0 ≤ clsC q x) = true := decide_eq_true hC
        clear hC
        go_wp2
        go_meet
        exact ⟨by rw [HT2.out], nq, rfl⟩
      · have HT2 : Hid (T = oppM x) := Lib.hid (by rw [HTT.out, decide_eq_false hC]; rfl)
        have hd2 : decide (0 ≤ clsC q x) = false := decide_eq_false hC
        clear hC
        go_wp2_with fail
        refine (opposed_any F _ x _ (HUI.out.drewN nq)).mono ?_
        rintro e w1 ⟨rfl, n1, rfl⟩
        go_wp2
        go_meet
        exact ⟨by rw [HT2.out], _, rfl⟩
  case rest =>
  obtain ⟨rfl, nq2, rfl⟩ := hcut
  rcases bool2 T with rfl | rfl
  · have HF : Hid (R = false) := Lib.hid (by rw [HE.out, if_pos rfl])
    go_wp2
    go_ret
    exact ⟨by rw [HF.out]; rfl, nq2, rfl⟩
  have HF0 : Hid (R = (srtM (x.drop 0) && S)) := Lib.hid (by rw [HE.out, if_neg (by simp)])
  clear HE HT
  go_wp2
  go_loopg [5] un (fun g u5 wx => ∃ (j i nq : Nat), j + g = un ∧ j + 1 = i ∧ u5 = .int .i64 i ∧ wx = w.drewN nq ∧ Hid (R = (srtM (x.drop j) && S)))
  case atStart => exact ⟨0, 1, nq2, by omega, rfl, rfl, rfl, HF0⟩
  case round =>
  obtain ⟨j, i, nq3, hjg, hji, rfl, rfl, hinv⟩ := hrel
  by_cases hj : i < un
  case neg =>
    have HF : Hid (R = canGo (some x) (cs.drop (k + 1))) := Lib.hid (by rw [hinv.out, srtM_end (by have := HU.out; omega), HS.out]; rfl)
    have hk2 : un ≤ i := by omega
    have HPP : Hid (some x = if k + 1 = 0 then none else cs[k + 1 - 1]?) := Lib.hid (by rw [if_neg (by omega), Nat.add_sub_cancel, HXX.out])
    clear hinv hj
    go_wp2
    go_roundg (GK - 1)
    case measure => omega
    case rel => exact ⟨k + 1, nq3, some x, by omega, by go_num, rfl, HPP, HF⟩
  obtain ⟨y, hyy⟩ : ∃ y, x[j]? = some y := ⟨_, List.getElem?_eq_getElem (by have := HU.out; omega)⟩
  obtain ⟨z, hzz⟩ : ∃ y, x[j + 1]? = some y := ⟨_, List.getElem?_eq_getElem (by have := HU.out; omega)⟩
  have hui := HUI.out
  obtain ⟨yb, yo, rfl, _, hyb, hyc, hy64⟩ := hui.at hyy
  obtain ⟨zb, zo, hzo, _, hzb, hzc, hz64⟩ := hui.at hzz
  injection hzo with hzo
  injection hzo with h1 h2
  subst h1 h2
  rw [hji] at hzc
  have hw1 : IntKind.i64.wrap ((i : Int) - 1) = (j : Int) := by rw [IntWalk.i64_in _ ⟨by omega, by omega⟩]; omega
  have hw2 : ((i : Int) - 1) = (j : Int) := by omega
  have hi0 : (0 : Int) ≤ i := by omega
  have hk0 : (0 : Int) ≤ j := by omega
  have hk1 : (j : Int) < un := by omega
  have hi1 : (i : Int) < un := by omega
  have hk3 : j < un := by omega
  obtain ⟨C, hC⟩ : ∃ C, litC y z = C := ⟨_, rfl⟩
  have hcc := fun w => literals_any y z w hy64 hz64
  have HE : Hid (R = ((decide (C < 0) && srtM (x.drop i)) && S)) := Lib.hid (by rw [hinv.out, srtM_cons hyy hzz, hC, hji])
  rw [hC] at hcc
  have HCC := Lib.hid hcc
  have HJI := Lib.hid hji
  clear hC hcc hinv hyy hzz hui hji hy64 hz64
  by_cases h0 : C < 0
  · have HF : Hid (R = (srtM (x.drop i) && S)) := Lib.hid (by rw [HE.out, decide_eq_true h0]; simp)
    have hd : decide (0 ≤ C) = false := by simp; omega
    clear h0 HE
    go_upto_region 9 with fail
    go_quiet ((go_at_call 92; exact quiet_add_same (HCC.out _)))
    go_wp2
    go_roundg (gk - 1)
    case measure => omega
    case rel => exact ⟨i, i + 1, _, by have := HJI.out; omega, rfl, by go_num, rfl, HF⟩
  · have HF : Hid (R = false) := Lib.hid (by rw [HE.out, decide_eq_false h0]; simp)
    have hd : decide (0 ≤ C) = true := by simp; omega
    clear h0 HE
    go_upto_region 9 with fail
    go_quiet ((go_at_call 92; exact quiet_add_same (HCC.out _)))
    go_wp2
    try rw [Exit.noGoto_ret]
    go_ret
    exact ⟨by rw [HF.out]; rfl, _, rfl⟩
end Go.Proofs.YtihkknploioakaaGreat
