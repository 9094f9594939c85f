/- Walks: with, slices.Equal of ints, models. -/
import Derived.Test.YtljljagkccmogaaMb
import Derived.Test.YtljljagkccmogaaCw2
import Derived.Test.YtljljagkccmogaaDh
namespace Go.Proofs.Ytljljagkccmogaa
open Go.ChangeShapes Go.WideShapes Go.ChangeAt Go.RowKit
set_option linter.unusedVariables false

/-- the number of models that agree with literals of different variables -/
def withN (V : Nat) (ps : List Part) (lits : List Int) : Nat := Cn V (fun a => evalM ps (chGo lits a)) / 2 ^ lits.length
theorem with_count {V : Nat} {ps : List Part} {lits : List Int} (h : (checkedM ⟨V, ps⟩).1 = 0) (hl : LitsOk V lits) :
    (checkedM (condM ⟨V, ps⟩ lits)).1 = 0 ∧ CountOk (condM ⟨V, ps⟩ lits) (checkedM (condM ⟨V, ps⟩ lits)).2 ∧ countM (condM ⟨V, ps⟩ lits) (checkedM (condM ⟨V, ps⟩ lits)).2 = Cn V (fun a => evalM ps (chGo lits a)) := by
  have hc := condM_checked ⟨V, ps⟩ lits h
  obtain ⟨h1, h2⟩ := count_ok hc
  refine ⟨hc, h1, ?_⟩
  rw [h2]
  have hs := (sh_of_checkedM _ h).1
  simp only [condM, Int.toNat_natCast] at hs ⊢
  exact Cn_ext _ _ _ fun a ha => eval_cond (fixed_by lits hl ha) hs

set_option maxRecDepth 100000 in
set_option maxHeartbeats 4000000 in
theorem with_any {F G : Nat → Prop} (V : Nat) (pv lv : Value) (ps : List Part) (lits : List Int) (w : World) (hp : Parts F w pv ps) (hl : Ints G w lv lits) (h0 : (checkedM ⟨V, ps⟩).1 = 0) (hlo : LitsOk V lits)
    (hks : ∀ p ∈ ps, p.kids.length ≤ 16384) (hll : lits.length ≤ 60) :
    Calls Try.prog 34 #[.agg #[.int .i64 V, pv], lv] w fun e w' => e = .returned (.int .i64 (withN V ps lits : Nat)) ∧ Below w.heap.size w w' := by
  obtain ⟨pa, pn, pc, rfl, HPN⟩ : ∃ a n c, pv = .slice a n c ∧ Hid (n = ps.length) := by
    obtain ⟨a, c, h1, h2⟩ := hp.form
    exact ⟨a, _, c, h1, rfl⟩
  obtain ⟨la, ln, lc, rfl, HLN, hln⟩ := hl.form'
  have hln2 : ln ≤ 60 := by rw [HLN.out]; exact hll
  obtain ⟨hsh, _, hV40, _, hpl⟩ := sh_of_checkedM _ h0
  have hV : V ≤ 40 := by simp only at hV40; omega
  simp only [Int.toNat_natCast] at hsh
  have hbel : Below w.heap.size w (w.alloc (.cells #[.int .i64 V, .slice pa pn pc] 24)) := (Below.refl _ _).alloc (Nat.le_refl _) _
  have hcd := conditioned_any V _ _ ps lits _ (hp.below hbel) (hl.below hbel) hV hsh hlo hpl hks
  obtain ⟨hc1, hc2, hc3⟩ := with_count h0 hlo
  obtain ⟨R, hR⟩ : ∃ R, withN V ps lits = R := ⟨_, rfl⟩
  have HR : Hid (R = countM (condM ⟨V, ps⟩ lits) (checkedM (condM ⟨V, ps⟩ lits)).2 / 2 ^ ln) := Lib.hid (by rw [← hR, hc3, HLN.out]; rfl)
  have hcv : (condM ⟨V, ps⟩ lits).vars = V := rfl
  obtain ⟨C, hC⟩ : ∃ C, condM ⟨V, ps⟩ lits = C := ⟨_, rfl⟩
  rw [hC] at hcd hc1 hc2 HR hcv
  rw [hR]
  obtain ⟨cv, cp⟩ := C
  simp only at hcv
  subst hcv
  have hqk : ∀ (F : Nat → Prop) (qv : Value) (wx : World), Parts F wx qv cp → Calls Try.prog 31 #[.agg #[.int .i64 V, qv]] wx (CheckedPost wx V qv (checkedM ⟨V, cp⟩)) := fun F qv wx h => checked_any F V qv cp wx h (by unfold I64; omega)
  obtain ⟨M, hM⟩ : ∃ M, checkedM ⟨(V : Int), cp⟩ = M := ⟨_, rfl⟩
  rw [hM] at hqk hc1 hc2 HR
  obtain ⟨c, ms⟩ := M
  simp only at hc1 hc2 HR
  subst hc1
  have HCD := Lib.hid hcd
  have HQK := Lib.hid hqk
  have HC2 := Lib.hid hc2
  have HB := Lib.hid hbel
  clear hbel hcd hqk hc2 hM hC hR hc3 hsh hlo hks h0 hp hl hV40 hpl
  go_enter Try.func34, Try.ntmps34
  go_wp2_with fail
  refine HCD.out.mono ?_
  rintro e w1 ⟨qv, rfl, hqp, hb1⟩
  have HB1 : Hid (Below w.heap.size w w1) := Lib.hid (HB.out.trans (hb1.mono (by simp)))
  have HQP := Lib.hid hqp
  clear hqp hb1
  go_wp2_with fail
  refine (HQK.out _ qv w1 HQP.out).mono ?_
  rintro e w2 ⟨fv, rfl, hb2, _, hf⟩
  have HB2 : Hid (Below w.heap.size w w2) := Lib.hid (HB1.out.trans (hb2.mono HB1.out.size))
  have HP2 := Lib.hid (HQP.out.below hb2)
  obtain ⟨b, mv, rfl, hbb, k0, k1, k2, kn⟩ := hf rfl
  obtain ⟨o1, o2, o3, o4, o5, o6, o7⟩ := HC2.out
  have HO6 := Lib.hid o6
  have HO7 := Lib.hid o7
  have HO1 := Lib.hid o1
  have hle : countM ⟨(V : Int), cp⟩ ms ≤ 1099511627776 := o7.2
  have HKN := Lib.hid kn
  clear o6 o7 o1 hf kn hb2
  go_wp2_with fail
  refine (count_any (V : Int) _ mv cp ms b _ HP2.out HKN.out k0 k1 k2 o4 o5 HO1.out o2 HO6.out HO7.out o3).mono ?_
  rintro e w3 ⟨rfl, hb3⟩
  have HB3 : Hid (Below w.heap.size w w3) := Lib.hid (HB2.out.trans (hb3.mono HB2.out.size))
  clear hb3 k0 k1 k2
  generalize countM ⟨(V : Int), cp⟩ ms = q at *
  go_wp2_with fail
  go_ret
  refine ⟨?_, HB3.out⟩
  show Ending.returned (.int .i64 ((q : Int) / 2 ^ ln)) = _
  rw [HR.out]
  simp

/-- a call that only reads -/
def QuietPost (W : World) (v : Value) (e : Ending) (w' : World) : Prop := e = .returned v ∧ ∃ n, w' = W.drewN n

set_option maxHeartbeats 2000000 in
theorem equal_any {F G : Nat → Prop} (v u : Value) (xs ys : List Int) (w : World) (hx : Ints F w v xs) (hy : Ints G w u ys) :
    Calls Try.prog 19 #[v, u] w (QuietPost w (.bool (xs == ys))) := by
  obtain ⟨a, n, c, rfl, HN, hn⟩ := hx.form'
  obtain ⟨b, m, d, rfl, HM, hm⟩ := hy.form'
  obtain ⟨R, hR⟩ : ∃ R, (xs == ys) = R := ⟨_, rfl⟩
  rw [hR]
  by_cases hnm : n = m
  case neg =>
    have hne : ((n : Int) != (m : Int)) = true := by rw [bne_iff_ne]; omega
    have HR : Hid (R = false) := Lib.hid (by
      rw [← hR, beq_eq_false_iff_ne]
      intro e
      exact hnm (by rw [HN.out, HM.out, e]))
    clear hR hnm
    go_enter Try.func19, Try.ntmps19
    go_wp2
    go_ret
    exact ⟨by rw [HR.out]; rfl, 0, rfl⟩
  subst hnm
  have hne : ((n : Int) != (n : Int)) = false := by simp
  have HR : Hid (R = (xs.drop 0 == ys.drop 0)) := Lib.hid hR.symm
  clear hR
  go_enter Try.func19, Try.ntmps19
  go_wp2
  go_loopg [13] n (fun g u13 wx => ∃ (k nq : Nat), k + g = n ∧ u13 = .int .i64 k ∧ wx = w.drewN nq ∧ Hid (R = (xs.drop k == ys.drop k)))
  case atStart => exact ⟨0, 0, by omega, rfl, rfl, HR⟩
  case round =>
  obtain ⟨k, nq, hkg, rfl, rfl, hinv⟩ := hrel
  by_cases hk : k < n
  · obtain ⟨x, hxx⟩ : ∃ y, xs[k]? = some y := ⟨_, List.getElem?_eq_getElem (by have := HN.out; omega)⟩
    obtain ⟨y, hyy⟩ : ∃ y, ys[k]? = some y := ⟨_, List.getElem?_eq_getElem (by have := HM.out; omega)⟩
    obtain ⟨xb, xo, rfl, _, _, hxc, _⟩ := hx.at hxx
    obtain ⟨yb, yo, rfl, _, _, hyc, _⟩ := hy.at hyy
    have ex : xs.drop k = x :: xs.drop (k + 1) := by
      obtain ⟨hlt, he⟩ := List.getElem?_eq_some_iff.1 hxx
      rw [List.drop_eq_getElem_cons hlt, he]
    have ey : ys.drop k = y :: ys.drop (k + 1) := by
      obtain ⟨hlt, he⟩ := List.getElem?_eq_some_iff.1 hyy
      rw [List.drop_eq_getElem_cons hlt, he]
    have hk0 : (0 : Int) ≤ k := by omega
    have hk1 : (k : Int) < n := by omega
    by_cases hxy : x = y
    · have HF : Hid (R = (xs.drop (k + 1) == ys.drop (k + 1))) := Lib.hid (by rw [hinv.out, ex, ey, hxy]; simp)
      have hne2 : (x != y) = false := by simp [hxy]
      clear hinv ex ey hxx hyy hxy
      go_upto_region 6 with fail
      go_quiet (fail)
      go_wp2
      go_roundg (gk - 1)
      case measure => omega
      case rel => exact ⟨k + 1, _, by omega, by go_num, rfl, HF⟩
    · have HF : Hid (R = false) := Lib.hid (by rw [hinv.out, ex, ey]; simp [hxy])
      have hne2 : (x != y) = true := by simp [hxy]
      clear hinv ex ey hxx hyy hxy
      go_upto_region 6 with fail
      go_quiet (fail)
      go_wp2
      go_ret
      exact ⟨by rw [HF.out]; rfl, _, by rw [World.drewN_drewN]⟩
  · have HF : Hid (R = true) := Lib.hid (by rw [hinv.out, List.drop_eq_nil_of_le (by have := HN.out; omega), List.drop_eq_nil_of_le (by have := HM.out; omega)]; rfl)
    clear hinv
    go_wp2
    go_ret
    exact ⟨by rw [HF.out]; rfl, nq, rfl⟩
end Go.Proofs.Ytljljagkccmogaa
