/- (Trace seat) Walks: try, both, decide of the checker. No condition but the sizes and ranges. -/
import Derived.Test.YtihkknploioakaaVe
namespace Go.Proofs.Ytihkknploioakaa
open Go.ChangeShapes Go.WideShapes Go.ChangeAt Go.RowKit
set_option linter.unusedVariables false

theorem two_kids {ks : List Claim} (h : ks.length = 2) : ∃ a b, ks = [a, b] := by
  match ks, h with
  | [a, b], _ => exact ⟨a, b, rfl⟩
set_option maxRecDepth 100000 in
set_option maxHeartbeats 4000000 in
theorem try_any (b : Nat) (keep : Int) (cv kv qv vv : Value) (c : Claim) (ks : List Claim) (vs : List Int) (w : World) (hc : Ckr w b keep cv kv qv vv c ks vs) (hr : RuleOk c ks vs) :
    Calls Try.prog 29 #[.pointer (some ⟨b, 0, none⟩)] w (BoolPost w (tryM keep c ks vs)) := by
  obtain ⟨hsc, hsk, hrv, hvl, hkl⟩ := hr
  have hlt := hc.lt
  obtain ⟨⟨c0, c1, _, c3, _, c5, c6, c7⟩, hcl, hks, hvs, hil, _, _⟩ := id hc
  have HVA := Lib.hid (variable_any b c.lit vv vs w c3 c7 hvs hrv)
  obtain ⟨R, hR⟩ : ∃ R, tryM keep c ks vs = R := ⟨_, rfl⟩
  have hR2 := hR
  unfold tryM at hR2
  obtain ⟨V, hV⟩ : ∃ V, varK c.lit vs = V := ⟨_, rfl⟩
  rw [hV] at hR2 HVA
  rw [hR]
  obtain ⟨ca, cn, cc, rfl, _, _⟩ := hcl.form'
  obtain ⟨qa, qn, qc, rfl, HQN, hqn⟩ := hks.form
  obtain ⟨va, vn, vc, rfl, _, _⟩ := hvs.form'
  have HC := Lib.hid hc
  have HVS := Lib.hid hvs
  clear hR hV hc
  by_cases h0 : V = 0
  · subst h0
    rw [if_pos (.inl rfl)] at hR2
    subst hR2
    clear hcl hks hsc hsk hrv hvs
    go_enter Try.func29, Try.ntmps29
    go_wp2_with fail
    refine HVA.out.mono ?_
    rintro e w2 ⟨rfl, hw2⟩
    subst hw2
    go_wp2_with fail
    go_ret
    exact ⟨rfl, Below.refl _ _⟩
  have e0 : (V == 0) = false := by simp; exact h0
  by_cases h1 : ks.length = 1
  case neg =>
    rw [if_pos (.inr (.inl h1))] at hR2
    subst hR2
    have e1 : ((qn : Int) != 1) = true := by simp; have := HQN.out; omega
    clear hcl hks hsc hsk hrv h1 hvs
    go_enter Try.func29, Try.ntmps29
    go_wp2_with fail
    refine HVA.out.mono ?_
    rintro e w2 ⟨rfl, hw2⟩
    subst hw2
    go_wp2_with fail
    go_ret
    exact ⟨rfl, Below.refl _ _⟩
  have e1 : ((qn : Int) != 1) = false := by simp; have := HQN.out; omega
  have HKP := Lib.hid (kept_any _ b keep _ vs w c0 hvs hvl)
  obtain ⟨L, hL⟩ : ∃ L, (keptM keep vs).length = L := ⟨_, rfl⟩
  have hLl : L ≤ 100000 := by rw [← hL]; exact Nat.le_trans (keptM_len _ _) hvl
  rw [hL] at hR2
  have HL := Lib.hid hL
  clear hL
  by_cases h2 : 0 < L
  · rw [if_pos (.inr (.inr (.inl h2)))] at hR2
    subst hR2
    have e2 : decide (0 < (L : Int)) = true := decide_eq_true (by omega)
    have e2' : decide (0 < L) = true := decide_eq_true h2
    clear hcl hks hsc hsk hrv h1 hvs h2
    go_enter Try.func29, Try.ntmps29
    go_wp2_with fail
    refine HVA.out.mono ?_
    rintro e w2 ⟨rfl, hw2⟩
    subst hw2
    go_wp2_with fail
    refine HKP.out.mono ?_
    rintro e w3 ⟨pv, rfl, hp, hb3⟩
    obtain ⟨pa, pc, rfl, _⟩ := hp.form
    have HB3 := Lib.hid hb3
    rw [HL.out]
    clear hp hb3
    go_wp2_with fail
    go_ret
    exact ⟨rfl, HB3.out⟩
  have e2 : decide (0 < (L : Int)) = false := decide_eq_false (by omega)
  have e2' : decide (0 < L) = false := decide_eq_false h2
  obtain ⟨kid, hkid⟩ : ∃ k, ks[0]? = some k := ⟨_, List.getElem?_eq_getElem (by omega)⟩
  have hkg : ks.getD 0 clNil = kid := by rw [List.getD_eq_getElem?_getD, hkid]; rfl
  rw [hkg] at hR2
  obtain ⟨kb, ko, kcv, kkv, rfl, _, hkb, _, _, _, _, k4, _⟩ := hks.at hkid
  rw [show ko + 0 * 5 = ko by omega] at k4
  obtain ⟨X, hX⟩ : ∃ X, resB c ks 0 c.lit = X := ⟨_, rfl⟩
  rw [hX] at hR2
  have hiq : (0 : Int) < qn := by have := HQN.out; omega
  have hiq' : 0 < qn := by have := HQN.out; omega
  have hres : ∀ (W : World), Below w.heap.size w W → Calls Try.prog 44 #[.pointer (some ⟨b, 0, none⟩), .int .i64 0, .int .i64 c.lit] W (BoolPost W (resB c ks 0 c.lit)) := fun (W : World) (hb : Below w.heap.size w W) => residualk_any b keep _ _ _ _ c ks vs 0 c.lit W (HC.out.below hb) (by omega) (by omega) hil hsc
  rw [hX] at hres
  have HRES := Lib.hid hres
  have H1 := Lib.hid h1
  have H2 := Lib.hid h2
  clear hres hX hkg hkid hcl hks hsc hsk hrv h1 HC HQN hvs h2
  rcases X with _ | _
  · rw [if_pos (.inr (.inr (.inr rfl)))] at hR2
    subst hR2
    go_enter Try.func29, Try.ntmps29
    go_wp2_with fail
    refine HVA.out.mono ?_
    rintro e w2 ⟨rfl, hw2⟩
    subst hw2
    go_wp2_with fail
    refine HKP.out.mono ?_
    rintro e w3 ⟨pv, rfl, hp, hb3⟩
    obtain ⟨pa, pc, rfl, _⟩ := hp.form
    have HB3 := Lib.hid hb3
    have y3 := below_c hb3 hlt c3
    have y6 := below_c hb3 hlt c6
    rw [HL.out]
    clear hp hb3
    go_wp2_with fail
    refine (HRES.out _ HB3.out).mono ?_
    rintro e w4 ⟨rfl, hb4⟩
    have HB4 := Lib.hid (HB3.out.trans (hb4.mono HB3.out.size))
    clear hb4
    go_wp2_with fail
    go_ret
    exact ⟨rfl, HB4.out⟩
  · rw [if_neg (by rintro (h | h | h | h); exact h0 h; exact h H1.out; exact H2.out h; cases h)] at hR2
    have HR2 := Lib.hid hR2
    clear hR2
    go_enter Try.func29, Try.ntmps29
    go_wp2_with fail
    refine HVA.out.mono ?_
    rintro e w2 ⟨rfl, hw2⟩
    subst hw2
    go_wp2_with fail
    refine HKP.out.mono ?_
    rintro e w3 ⟨pv, rfl, hp, hb3⟩
    obtain ⟨pa, pc, rfl, _⟩ := hp.form
    have HB3 := Lib.hid hb3
    have y3 := below_c hb3 hlt c3
    have y6 := below_c hb3 hlt c6
    rw [HL.out]
    clear hp hb3
    go_wp2_with fail
    refine (HRES.out _ HB3.out).mono ?_
    rintro e w4 ⟨rfl, hb4⟩
    have HB4 := Lib.hid (HB3.out.trans (hb4.mono HB3.out.size))
    have z5 := below_c HB4.out hlt c5
    have z6 := below_c HB4.out hlt c6
    have z4 := below_c HB4.out hkb k4
    clear hb4
    by_cases q1 : kid.count = 1
    · have q1' : (kid.count == 1) = true := by simp; exact q1
      have hF := HR2.out
      rw [q1', Bool.true_and] at hF
      have HF := Lib.hid hF
      clear hF HR2 q1
      go_wp2_with fail
      go_ret
      exact ⟨by rw [← HF.out]; rfl, HB4.out⟩
    · have q1' : (kid.count == 1) = false := by simp; exact q1
      have hF := HR2.out
      rw [q1', Bool.false_and] at hF
      have HF := Lib.hid hF
      clear hF HR2 q1
      go_wp2_with fail
      go_ret
      exact ⟨by rw [← HF.out]; rfl, HB4.out⟩

set_option maxRecDepth 100000 in
set_option maxHeartbeats 4000000 in
theorem both_any (b : Nat) (keep : Int) (cv kv qv vv : Value) (c : Claim) (ks : List Claim) (vs : List Int) (w : World) (hc : Ckr w b keep cv kv qv vv c ks vs) (hr : RuleOk c ks vs) :
    Calls Try.prog 30 #[.pointer (some ⟨b, 0, none⟩)] w (BoolPost w (bothM c ks vs)) := by
  obtain ⟨hsc, hsk, hrv, hvl, hkl⟩ := hr
  have hlt := hc.lt
  obtain ⟨⟨c0, c1, _, c3, _, c5, c6, c7⟩, hcl, hks, hvs, hil, _, _⟩ := id hc
  have HVA := Lib.hid (variable_any b c.lit vv vs w c3 c7 hvs hrv)
  obtain ⟨R, hR⟩ : ∃ R, bothM c ks vs = R := ⟨_, rfl⟩
  have hR2 := hR
  unfold bothM at hR2
  have hvr := varK_range (lit := c.lit) hrv
  obtain ⟨V, hV⟩ : ∃ V, varK c.lit vs = V := ⟨_, rfl⟩
  rw [hV] at hR2 HVA hvr
  rw [hR]
  obtain ⟨ca, cn, cc, rfl, _, _⟩ := hcl.form'
  obtain ⟨qa, qn, qc, rfl, HQN, hqn⟩ := hks.form
  obtain ⟨va, vn, vc, rfl, _, _⟩ := hvs.form'
  have HC := Lib.hid hc
  obtain ⟨hv0, hv1⟩ := hvr
  have hwn : IntKind.i64.wrap (-V) = -V := IntWalk.i64_in _ ⟨by omega, by omega⟩
  clear hR hV hc
  by_cases h0 : V = 0
  · subst h0
    rw [if_pos (.inl rfl)] at hR2
    subst hR2
    clear hcl hks hsc hsk hrv hvs
    go_enter Try.func30, Try.ntmps30
    go_wp2_with fail
    refine HVA.out.mono ?_
    rintro e w2 ⟨rfl, hw2⟩
    subst hw2
    go_wp2_with fail
    go_ret
    exact ⟨rfl, Below.refl _ _⟩
  have e0 : (V == 0) = false := by simp; exact h0
  by_cases h1 : c.lit = V
  case neg =>
    rw [if_pos (.inr (.inl h1))] at hR2
    subst hR2
    have e1 : (c.lit != V) = true := by simp; exact h1
    clear hcl hks hsc hsk hrv h1 hvs
    go_enter Try.func30, Try.ntmps30
    go_wp2_with fail
    refine HVA.out.mono ?_
    rintro e w2 ⟨rfl, hw2⟩
    subst hw2
    go_wp2_with fail
    go_ret
    exact ⟨rfl, Below.refl _ _⟩
  have e1 : (c.lit != V) = false := by simp; exact h1
  by_cases h2 : ks.length = 2
  case neg =>
    rw [if_pos (.inr (.inr (.inl h2)))] at hR2
    subst hR2
    have e2 : ((qn : Int) != 2) = true := by simp; have := HQN.out; omega
    clear hcl hks hsc hsk hrv h1 hvs h2
    go_enter Try.func30, Try.ntmps30
    go_wp2_with fail
    refine HVA.out.mono ?_
    rintro e w2 ⟨rfl, hw2⟩
    subst hw2
    go_wp2_with fail
    go_ret
    exact ⟨rfl, Below.refl _ _⟩
  have e2 : ((qn : Int) != 2) = false := by simp; have := HQN.out; omega
  obtain ⟨k0, k1, rfl⟩ := two_kids h2
  obtain ⟨kb, ko, _, _, rfl, _, hkb, _, _, _, _, k4, _⟩ := hks.at (k := 0) (c := k0) rfl
  obtain ⟨kb', ko', _, _, he, _, _, _, _, _, _, j4, _⟩ := hks.at (k := 1) (c := k1) rfl
  injection he with he
  injection he with he1 he2
  subst he1 he2
  rw [show ko + 0 * 5 = ko by omega] at k4
  rw [show ko + 1 * 5 = ko + 5 by omega] at j4
  obtain ⟨X, hX⟩ : ∃ X, resB c [k0, k1] 0 (-V) = X := ⟨_, rfl⟩
  obtain ⟨Y, hY⟩ : ∃ Y, resB c [k0, k1] 1 V = Y := ⟨_, rfl⟩
  rw [hX, hY] at hR2
  have hR3 : R = (if X = false ∨ Y = false then false else (k0.count == 0) && ((k1.count == 0) && (c.count == 0))) := by
    rw [← hR2]
    by_cases hx : X = false ∨ Y = false
    · rw [if_pos hx, if_pos (.inr (.inr (.inr hx)))]
    · rw [if_neg hx, if_neg (by rintro (h | h | h | h); exact h0 h; exact h h1; exact h rfl; exact hx h)]
      rfl
  have HR3 := Lib.hid hR3
  have hiq : (1 : Int) < qn := by have := HQN.out; simp at this; omega
  have hiq' : 1 < qn := by omega
  have hres0 : ∀ (W : World), Below w.heap.size w W → Calls Try.prog 44 #[.pointer (some ⟨b, 0, none⟩), .int .i64 0, .int .i64 (-V)] W (BoolPost W (resB c [k0, k1] 0 (-V))) := fun (W : World) (hb : Below w.heap.size w W) => residualk_any b keep _ _ _ _ c _ vs 0 (-V) W (HC.out.below hb) (by simp) (by omega) ⟨by omega, by omega⟩ hsc
  have hres1 : ∀ (W : World), Below w.heap.size w W → Calls Try.prog 44 #[.pointer (some ⟨b, 0, none⟩), .int .i64 1, .int .i64 V] W (BoolPost W (resB c [k0, k1] 1 V)) := fun (W : World) (hb : Below w.heap.size w W) => residualk_any b keep _ _ _ _ c _ vs 1 V W (HC.out.below hb) (by simp) (by omega) ⟨by omega, by omega⟩ hsc
  rw [hX] at hres0
  rw [hY] at hres1
  have HRES0 := Lib.hid hres0
  have HRES1 := Lib.hid hres1
  clear hres0 hres1 hX hY hcl hks hsc hsk hrv h1 HC HQN hvs h2 hR2 hR3
  go_enter Try.func30, Try.ntmps30
  go_wp2_with fail
  refine HVA.out.mono ?_
  rintro e w2 ⟨rfl, hw2⟩
  subst hw2
  go_wp2_with fail
  refine (HRES0.out _ (Below.refl _ _)).mono ?_
  rintro e w3 ⟨rfl, hb3⟩
  have HB3 := Lib.hid hb3
  clear hb3
  rcases X with _ | _
  · have hF : R = false := by rw [HR3.out, if_pos (.inl rfl)]
    subst hF
    go_wp2_with fail
    go_ret
    exact ⟨rfl, HB3.out⟩
  go_wp2_with fail
  refine (HRES1.out _ HB3.out).mono ?_
  rintro e w4 ⟨rfl, hb4⟩
  have HB4 := Lib.hid (HB3.out.trans (hb4.mono HB3.out.size))
  have z5 := below_c HB4.out hlt c5
  have z6 := below_c HB4.out hlt c6
  have z4 := below_c HB4.out hkb k4
  have y4 := below_c HB4.out hkb j4
  clear hb4
  rcases Y with _ | _
  · have hF : R = false := by rw [HR3.out, if_pos (.inr rfl)]
    subst hF
    go_wp2_with fail
    go_ret
    exact ⟨rfl, HB4.out⟩
  have hF : R = ((k0.count == 0) && ((k1.count == 0) && (c.count == 0))) := by rw [HR3.out, if_neg (by simp)]
  by_cases q1 : k0.count = 0
  case neg =>
    have q1' : (k0.count == 0) = false := by simp; exact q1
    rw [q1', Bool.false_and] at hF
    subst hF
    clear q1
    go_wp2_with fail
    go_ret
    exact ⟨rfl, HB4.out⟩
  have q1' : (k0.count == 0) = true := by simp; exact q1
  rw [q1', Bool.true_and] at hF
  by_cases q2 : k1.count = 0
  case neg =>
    have q2' : (k1.count == 0) = false := by simp; exact q2
    rw [q2', Bool.false_and] at hF
    subst hF
    clear q1 q2
    go_wp2_with fail
    go_ret
    exact ⟨rfl, HB4.out⟩
  have q2' : (k1.count == 0) = true := by simp; exact q2
  rw [q2', Bool.true_and] at hF
  have HF := Lib.hid hF
  clear q1 q2 hF HR3
  go_wp2_with fail
  go_ret
  exact ⟨by rw [HF.out]; rfl, HB4.out⟩
end Go.Proofs.Ytihkknploioakaa
