/- Walks: the statement's clause, before, valid. -/
import Derived.Test.YtjbhglmmakkkgaaSv
import Derived.Test.YtjbhglmmakkkgaaSw2
namespace Go.Proofs.Ytjbhglmmakkkgaa
open Go.ChangeShapes Go.WideShapes Go.ChangeAt Go.RowKit
set_option linter.unusedVariables false

theorem clauseGo_at {V : Nat} {xs : List Int} {k : Nat} {x : Int} {p : Option Int} (e : xs.drop k = x :: xs.drop (k + 1)) :
    clauseGo V p (xs.drop k) = if litB V x = false then false else if (p.any fun q => decide (varM x ≤ varM q)) = true then false else clauseGo V (some x) (xs.drop (k + 1)) := by
  rw [e]
  rcases p with _ | q
  · rw [clauseGo]
    cases litB V x <;> simp
  · rw [clauseGo]
    by_cases h : varM q < varM x
    · have h2 : ¬ varM x ≤ varM q := by omega
      cases litB V x <;> simp [h, h2]
    · have h2 : varM x ≤ varM q := by omega
      cases litB V x <;> simp [h, h2]

set_option maxHeartbeats 4000000 in
theorem clause_any (F : Nat → Prop) (V : Nat) (v : Value) (xs : List Int) (w : World) (hx : Ints F w v xs) (hV : V ≤ 1000000) :
    Calls Try.prog 37 #[.int .i64 (V : Int), v] w (QuietPost w (.bool (clauseGo V none xs))) := by
  obtain ⟨a, n, c, rfl, HN, hn⟩ := hx.form'
  obtain ⟨R, hR⟩ : ∃ R, clauseGo V none xs = R := ⟨_, rfl⟩
  have HR : Hid (R = clauseGo V none (xs.drop 0)) := Lib.hid hR.symm
  rw [hR]
  have HX := Lib.hid hx
  clear hR hx
  go_enter Try.func37, Try.ntmps37
  go_wp2
  go_loopg [9] n (fun g u9 wx => ∃ (k nq : Nat) (p : Option Int), k + g = n ∧ u9 = .int .i64 k ∧ wx = w.drewN nq ∧ Hid (p = if k = 0 then none else xs[k-1]?) ∧ Hid (∀ q, p = some q → LitOk V q) ∧ Hid (R = clauseGo V p (xs.drop k)))
  case atStart => exact ⟨0, 0, none, by omega, rfl, rfl, Lib.hid rfl, Lib.hid (fun q h => by cases h), HR⟩
  case round =>
  obtain ⟨k, nq, p, hkg, rfl, rfl, HP, HPL, hinv⟩ := hrel
  by_cases hk : k < n
  case neg =>
    have HF : Hid (R = true) := Lib.hid (by rw [hinv.out, List.drop_eq_nil_of_le (by have := HN.out; omega)]; cases p <;> rfl)
    have hk2 : n ≤ k := by omega
    clear hinv hk HP
    go_wp2
    go_ret
    exact ⟨by rw [HF.out]; rfl, nq, rfl⟩
  obtain ⟨x, hxx, e⟩ := drop_at (xs := xs) (k := k) (by have := HN.out; omega)
  have hxs := HX.out
  obtain ⟨b, o, rfl, _, hb, hcc, hx64⟩ := hxs.at hxx
  obtain ⟨B, hB⟩ : ∃ B, litB V x = B := ⟨_, rfl⟩
  have hlit := fun w => literal_any V x w ⟨by omega, by omega⟩ hx64
  have HE : Hid (R = if B = false then false else if (p.any fun q => decide (varM x ≤ varM q)) = true then false else clauseGo V (some x) (xs.drop (k + 1))) := Lib.hid (by rw [hinv.out, clauseGo_at e, hB])
  have HLO : Hid (B = true → LitOk V x) := Lib.hid (fun h => litB_iff.1 (hB.trans h))
  rw [hB] at hlit
  have HLIT := Lib.hid hlit
  have hPN : Hid (some x = if k + 1 = 0 then none else xs[k + 1 - 1]?) := Lib.hid (by rw [if_neg (by omega), Nat.add_sub_cancel, hxx])
  clear hB hlit hinv e hx64
  rcases bool2 B with rfl | rfl
  case inr =>
    have HF : Hid (R = false) := Lib.hid (by rw [HE.out, if_pos rfl])
    clear hxx hxs
    go_upto_region 4 with fail
    go_quiet ((go_at_call 16; exact quiet_add_same (HLIT.out _)))
    go_wp2
    go_ret
    exact ⟨by rw [HF.out]; rfl, _, rfl⟩
  have HXO := Lib.hid (HLO.out rfl)
  have HE2 : Hid (R = if (p.any fun q => decide (varM x ≤ varM q)) = true then false else clauseGo V (some x) (xs.drop (k + 1))) := Lib.hid (by rw [HE.out, if_neg (by simp)])
  have HPL2 : Hid (∀ q, some x = some q → LitOk V q) := Lib.hid (fun q h => by injection h with h; exact h ▸ HXO.out)
  clear HE HLO
  by_cases hk0 : k = 0
  · have HF : Hid (R = clauseGo V (some x) (xs.drop (k + 1))) := Lib.hid (by rw [HE2.out, HP.out, if_pos hk0]; simp)
    have hd : decide ((0 : Int) < k) = false := by simp; omega
    have hd1 : decide (0 < k) = false := by simp; omega
    clear hk0 hxx hxs HE2 HP
    go_upto_region 4 with fail
    go_quiet ((go_at_call 16; exact quiet_add_same (HLIT.out _)))
    go_wp2
    go_roundg (gk - 1)
    case measure => omega
    case rel => exact ⟨k + 1, _, some x, by omega, by go_num, rfl, hPN, HPL2, HF⟩
  obtain ⟨k', hk'⟩ : ∃ k', k' + 1 = k := ⟨k - 1, by omega⟩
  obtain ⟨q, hq⟩ : ∃ q, xs[k']? = some q := ⟨_, List.getElem?_eq_getElem (by have := HN.out; omega)⟩
  obtain ⟨qb, qo, hqo, _, hqb, hqc, hq64⟩ := hxs.at hq
  injection hqo with hqo
  injection hqo with h1 h2
  subst h1 h2
  have hpq : p = some q := by rw [HP.out, if_neg hk0, show k - 1 = k' by omega, hq]
  have HQO := Lib.hid (HPL.out q hpq)
  have hvx := fun w => variable_any x w (by obtain ⟨_, h2, h3⟩ := HXO.out; omega)
  have hvq := fun w => variable_any q w (by obtain ⟨_, h2, h3⟩ := HQO.out; omega)
  have HE3 : Hid (R = if varM x ≤ varM q then false else clauseGo V (some x) (xs.drop (k + 1))) := Lib.hid (by rw [HE2.out, hpq]; simp)
  obtain ⟨mx, hmx⟩ : ∃ m, varM x = m := ⟨_, rfl⟩
  obtain ⟨mq, hmq⟩ : ∃ m, varM q = m := ⟨_, rfl⟩
  rw [hmx] at hvx HE3
  rw [hmq] at hvq HE3
  have HVX := Lib.hid hvx
  have HVQ := Lib.hid hvq
  have hd : decide ((0 : Int) < k) = true := by simp; omega
  have hd1 : decide (0 < k) = true := by simp; omega
  have hw1 : IntKind.i64.wrap ((k : Int) - 1) = (k' : Int) := by rw [IntWalk.i64_in _ ⟨by omega, by omega⟩]; omega
  have hw2 : ((k : Int) - 1) = (k' : Int) := by omega
  have hk3 : (k' : Int) < n := by omega
  have hk4 : (0 : Int) ≤ k' := by omega
  have hk5 : k' < n := by omega
  clear hvx hvq hmx hmq hpq hq hxs hxx hk' hk0 HE2 HP HPL hq64
  by_cases hle : mx ≤ mq
  · have HF : Hid (R = false) := Lib.hid (by rw [HE3.out, if_pos hle])
    have hd2 : decide (mx ≤ mq) = true := decide_eq_true hle
    clear hle HE3
    go_upto_region 4 with fail
    go_quiet ((first | (go_at_call 16; exact quiet_add_same (HLIT.out _)) | (go_at_call 27; first | exact quiet_add_same (HVX.out _) | exact quiet_add_same (HVQ.out _))))
    go_wp2
    go_ret
    exact ⟨by rw [HF.out]; rfl, _, rfl⟩
  · have HF : Hid (R = clauseGo V (some x) (xs.drop (k + 1))) := Lib.hid (by rw [HE3.out, if_neg hle])
    have hd2 : decide (mx ≤ mq) = false := decide_eq_false hle
    clear hle HE3
    go_upto_region 4 with fail
    go_quiet ((first | (go_at_call 16; exact quiet_add_same (HLIT.out _)) | (go_at_call 27; first | exact quiet_add_same (HVX.out _) | exact quiet_add_same (HVQ.out _))))
    go_wp2
    go_roundg (gk - 1)
    case measure => omega
    case rel => exact ⟨k + 1, _, some x, by omega, by go_num, rfl, hPN, HPL2, HF⟩

set_option maxHeartbeats 4000000 in
theorem before_any {F G : Nat → Prop} (v u : Value) (xs ys : List Int) (w : World) (hx : Ints F w v xs) (hy : Ints G w u ys) (hxb : ∀ x ∈ xs, -1000000 ≤ x ∧ x ≤ 1000000) (hyb : ∀ x ∈ ys, -1000000 ≤ x ∧ x ≤ 1000000) :
    Calls Try.prog 38 #[v, u] w (QuietPost w (.bool (beforeM xs ys))) := by
  obtain ⟨a, n, c, rfl, HN, hn⟩ := hx.form'
  obtain ⟨b, m, d, rfl, HM, hm⟩ := hy.form'
  obtain ⟨R, hR⟩ : ∃ R, beforeM xs ys = R := ⟨_, rfl⟩
  have HR : Hid (R = beforeM (xs.drop 0) (ys.drop 0)) := Lib.hid hR.symm
  rw [hR]
  have HX := Lib.hid hx
  have HY := Lib.hid hy
  have HXB := Lib.hid hxb
  have HYB := Lib.hid hyb
  clear hR hx hy hxb hyb
  go_enter Try.func38, Try.ntmps38
  go_wp2
  go_loopg [8] n (fun g u8 wx => ∃ (k nq : Nat), k + g = n ∧ u8 = .int .i64 k ∧ wx = w.drewN nq ∧ k ≤ m ∧ Hid (R = beforeM (xs.drop k) (ys.drop k)))
  case atStart => exact ⟨0, 0, by omega, rfl, rfl, by omega, HR⟩
  case round =>
  obtain ⟨k, nq, hkg, rfl, rfl, hkm, hinv⟩ := hrel
  by_cases hk : k < n
  case neg =>
    have ex : xs.drop k = [] := List.drop_eq_nil_of_le (by have := HN.out; omega)
    have hkn : n = k := by omega
    by_cases hm2 : k < m
    · obtain ⟨y, hyy, ey⟩ := drop_at (xs := ys) (k := k) (by have := HM.out; omega)
      have HF : Hid (R = true) := Lib.hid (by rw [hinv.out, ex, ey]; rfl)
      have hd : decide ((n : Int) < m) = true := by simp; omega
      have hd0 : n < m := by omega
      clear hinv ex ey hyy
      go_wp2
      go_ret
      exact ⟨by rw [HF.out]; rfl, _, rfl⟩
    · have HF : Hid (R = false) := Lib.hid (by rw [hinv.out, ex, show ys.drop k = [] from List.drop_eq_nil_of_le (by have := HM.out; omega)]; rfl)
      have hd : decide ((n : Int) < m) = false := by simp; omega
      have hd0 : m ≤ n := by omega
      clear hinv ex
      go_wp2
      go_ret
      exact ⟨by rw [HF.out]; rfl, _, rfl⟩
  obtain ⟨x, hxx, ex⟩ := drop_at (xs := xs) (k := k) (by have := HN.out; omega)
  have hxs := HX.out
  obtain ⟨xb, xo, rfl, _, hxb, hxc, hx64⟩ := hxs.at hxx
  by_cases hm2 : k < m
  case neg =>
    have HF : Hid (R = false) := Lib.hid (by rw [hinv.out, ex, show ys.drop k = [] from List.drop_eq_nil_of_le (by have := HM.out; omega)]; rfl)
    have hd : m ≤ k := by omega
    clear hinv ex hxx hxs hm2
    go_wp2
    go_ret
    exact ⟨by rw [HF.out]; rfl, _, rfl⟩
  obtain ⟨y, hyy, ey⟩ := drop_at (xs := ys) (k := k) (by have := HM.out; omega)
  have hys := HY.out
  obtain ⟨yb, yo, rfl, _, hyb, hyc, hy64⟩ := hys.at hyy
  have HE : Hid (R = if x = y then beforeM (xs.drop (k + 1)) (ys.drop (k + 1)) else if varM x ≠ varM y then decide (varM x < varM y) else decide (x < y)) := Lib.hid (by rw [hinv.out, ex, ey, beforeM])
  have hvx := fun w => variable_any x w (by have := HXB.out x (List.mem_of_getElem? hxx); omega)
  have hvy := fun w => variable_any y w (by have := HYB.out y (List.mem_of_getElem? hyy); omega)
  obtain ⟨mx, hmx⟩ : ∃ m, varM x = m := ⟨_, rfl⟩
  obtain ⟨my, hmy⟩ : ∃ m, varM y = m := ⟨_, rfl⟩
  rw [hmx] at hvx HE
  rw [hmy] at hvy HE
  have HVX := Lib.hid hvx
  have HVY := Lib.hid hvy
  have hk0 : (0 : Int) ≤ k := by omega
  have hk1 : (k : Int) < n := by omega
  have hk2 : (k : Int) < m := by omega
  have hnk : decide ((m : Int) ≤ k) = false := by simp; omega
  have hnk2 : decide (m ≤ k) = false := by simp; omega
  clear hinv ex ey hxx hyy hxs hys hvx hvy hmx hmy
  by_cases hxy : x = y
  · have HF : Hid (R = beforeM (xs.drop (k + 1)) (ys.drop (k + 1))) := Lib.hid (by rw [HE.out, if_pos hxy])
    have hd : (x != y) = false := by simp [hxy]
    clear hxy HE
    go_upto_region 6 with fail
    go_quiet (fail)
    go_wp2
    go_roundg (gk - 1)
    case measure => omega
    case rel => exact ⟨k + 1, _, by omega, by go_num, rfl, by omega, HF⟩
  have hd : (x != y) = true := by simp [hxy]
  by_cases hv : mx = my
  · have HF : Hid (R = decide (x < y)) := Lib.hid (by rw [HE.out, if_neg hxy, if_neg (by simp [hv])])
    have hd2 : (mx != my) = false := by simp [hv]
    clear hxy hv HE
    go_upto_region 6 with fail
    go_quiet (fail)
    go_upto_region 7 with fail
    go_quiet ((go_at_call 27; first | exact quiet_add_same (HVX.out _) | exact quiet_add_same (HVY.out _)))
    go_upto_region 9 with fail
    go_quiet (fail)
    go_wp2
    go_ret
    exact ⟨by rw [HF.out]; rfl, _, by rw [World.drewN_drewN, World.drewN_drewN, World.drewN_drewN]⟩
  · have HF : Hid (R = decide (mx < my)) := Lib.hid (by rw [HE.out, if_neg hxy, if_pos hv])
    have hd2 : (mx != my) = true := by simp [hv]
    clear hxy hv HE
    go_upto_region 6 with fail
    go_quiet (fail)
    go_upto_region 7 with fail
    go_quiet ((go_at_call 27; first | exact quiet_add_same (HVX.out _) | exact quiet_add_same (HVY.out _)))
    go_upto_region 8 with fail
    go_quiet ((go_at_call 27; first | exact quiet_add_same (HVX.out _) | exact quiet_add_same (HVY.out _)))
    go_wp2
    go_ret
    exact ⟨by rw [HF.out]; rfl, _, by rw [World.drewN_drewN, World.drewN_drewN, World.drewN_drewN]⟩
end Go.Proofs.Ytjbhglmmakkkgaa
