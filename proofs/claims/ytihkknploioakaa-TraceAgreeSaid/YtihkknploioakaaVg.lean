/- (Trace seat) Walk: decide of the checker. No condition but the sizes and ranges. -/
import Derived.Test.YtihkknploioakaaVf
namespace Go.Proofs.Ytihkknploioakaa
open Go.ChangeShapes Go.WideShapes Go.ChangeAt Go.RowKit
set_option linter.unusedVariables false

theorem dblM_le : ∀ (t : Nat) (n : Int), n ≤ 2199023255552 → dblM t n ≤ 2199023255552
  | 0, n, h => h
  | t + 1, n, h => by
    rw [dblM]
    split
    · omega
    · exact dblM_le t _ (by omega)
theorem dblM_ge : ∀ (t : Nat) (n : Int), 0 ≤ n → -1 ≤ dblM t n
  | 0, n, h => by rw [dblM]; omega
  | t + 1, n, h => by
    rw [dblM]
    split
    · omega
    · exact dblM_ge t _ (by omega)
set_option maxRecDepth 100000 in
set_option maxHeartbeats 4000000 in
theorem decide_any (b : Nat) (keep : Int) (cv kv qv vv : Value) (c : Claim) (ks : List Claim) (vs : List Int) (w : World) (hc : Ckr w b keep cv kv qv vv c ks vs) (hr : RuleOk c ks vs) :
    Calls Try.prog 27 #[.pointer (some ⟨b, 0, none⟩)] w (BoolPost w (decM keep c ks vs)) := by
  obtain ⟨hsc, hsk, hrv, hvl, hkl⟩ := hr
  have hlt := hc.lt
  obtain ⟨⟨c0, c1, _, c3, _, c5, c6, c7⟩, hcl, hks, hvs, hil, _, hik⟩ := id hc
  have HVA := Lib.hid (variable_any b c.lit vv vs w c3 c7 hvs hrv)
  obtain ⟨R, hR⟩ : ∃ R, decM keep c ks vs = R := ⟨_, rfl⟩
  have hR2 := hR
  unfold decM at hR2
  have hvr := varK_range (lit := c.lit) hrv
  obtain ⟨V, hV⟩ : ∃ V, varK c.lit vs = V := ⟨_, rfl⟩
  rw [hV] at hR2 HVA hvr
  rw [hR]
  obtain ⟨ca, cn, cc, rfl, _, _⟩ := hcl.form'
  obtain ⟨qa, qn, qc, rfl, HQN, hqn⟩ := hks.form
  obtain ⟨va, vn, vc, rfl, _, _⟩ := hvs.form'
  have HC := Lib.hid hc
  obtain ⟨hv0, hv1⟩ := hvr
  have hwn : IntKind.i64.wrap (-V) = -V := IntWalk.i64_in _ ⟨by omega, by omega⟩
  clear hR hV hc
  by_cases h0 : V = 0
  · subst h0
    rw [if_pos (.inl rfl)] at hR2
    subst hR2
    clear hcl hks hsc hsk hrv hvs
    go_enter Try.func27, Try.ntmps27
    go_wp2_with fail
    refine HVA.out.mono ?_
    rintro e w2 ⟨rfl, hw2⟩
    subst hw2
    go_wp2_with fail
    go_ret
    exact ⟨rfl, Below.refl _ _⟩
  have e0 : (V == 0) = false := by simp; exact h0
  by_cases h1 : c.lit = V
  case neg =>
    rw [if_pos (.inr (.inl h1))] at hR2
    subst hR2
    have e1 : (c.lit != V) = true := by simp; exact h1
    clear hcl hks hsc hsk hrv h1 hvs
    go_enter Try.func27, Try.ntmps27
    go_wp2_with fail
    refine HVA.out.mono ?_
    rintro e w2 ⟨rfl, hw2⟩
    subst hw2
    go_wp2_with fail
    go_ret
    exact ⟨rfl, Below.refl _ _⟩
  have e1 : (c.lit != V) = false := by simp; exact h1
  by_cases h3 : keep < V
  · rw [if_pos (.inr (.inr (.inl h3)))] at hR2
    subst hR2
    have e3 : decide (keep < V) = true := decide_eq_true h3
    clear hcl hks hsc hsk hrv h1 hvs h3
    go_enter Try.func27, Try.ntmps27
    go_wp2_with fail
    refine HVA.out.mono ?_
    rintro e w2 ⟨rfl, hw2⟩
    subst hw2
    go_wp2_with fail
    go_ret
    exact ⟨rfl, Below.refl _ _⟩
  have e3 : decide (keep < V) = false := decide_eq_false h3
  by_cases h2 : ks.length = 2
  case neg =>
    rw [if_pos (.inr (.inr (.inr (.inl h2))))] at hR2
    subst hR2
    have e2 : ((qn : Int) != 2) = true := by simp; have := HQN.out; omega
    clear hcl hks hsc hsk hrv h1 hvs h2 h3
    go_enter Try.func27, Try.ntmps27
    go_wp2_with fail
    refine HVA.out.mono ?_
    rintro e w2 ⟨rfl, hw2⟩
    subst hw2
    go_wp2_with fail
    go_ret
    exact ⟨rfl, Below.refl _ _⟩
  have e2 : ((qn : Int) != 2) = false := by simp; have := HQN.out; omega
  obtain ⟨k0, k1, rfl⟩ := two_kids h2
  have hm0 := hsk k0 (by simp)
  have hm1 := hsk k1 (by simp)
  obtain ⟨kb, ko, kcv, kkv, rfl, _, hkb, x0, x1, x2, x3, x4, ⟨⟨hkcl, _, _, hkki, _⟩, _⟩⟩ := hks.at (k := 0) (c := k0) rfl
  obtain ⟨kb', ko', jcv, jkv, he, _, _, y0, y1, y2, y3, y4, ⟨⟨hjcl, _, _, hjki, _⟩, _⟩⟩ := hks.at (k := 1) (c := k1) rfl
  injection he with he
  injection he with he1 he2
  subst he1 he2
  rw [show ko + 0 * 5 = ko by omega] at x0 x1 x2 x3 x4
  rw [show ko + 1 * 5 = ko + 5 by omega] at y0 y1 y2 y3 y4
  rw [show ko + 5 + 1 = ko + 6 by omega] at y1
  rw [show ko + 5 + 2 = ko + 7 by omega] at y2
  rw [show ko + 5 + 3 = ko + 8 by omega] at y3
  rw [show ko + 5 + 4 = ko + 9 by omega] at y4
  obtain ⟨ka, kn, kc, rfl, _, _⟩ := hkcl.form'
  obtain ⟨kka, kkn, kkc, rfl, _, _⟩ := hkki.form'
  obtain ⟨ja, jn, jc, rfl, _, _⟩ := hjcl.form'
  obtain ⟨jja, jjn, jjc, rfl, _, _⟩ := hjki.form'
  obtain ⟨X, hX⟩ : ∃ X, resB c [k0, k1] 0 (-V) = X := ⟨_, rfl⟩
  obtain ⟨Y, hY⟩ : ∃ Y, resB c [k0, k1] 1 V = Y := ⟨_, rfl⟩
  rw [hX, hY] at hR2
  obtain ⟨L0, hL0⟩ : ∃ L, lostM V (keptM keep vs) (occM k0.cls) = L := ⟨_, rfl⟩
  obtain ⟨L1, hL1⟩ : ∃ L, lostM V (keptM keep vs) (occM k1.cls) = L := ⟨_, rfl⟩
  have hll0 : L0 ≤ 100000 := by rw [← hL0]; exact Nat.le_trans (lostM_le _ _ _) (Nat.le_trans (keptM_len _ _) hvl)
  have hll1 : L1 ≤ 100000 := by rw [← hL1]; exact Nat.le_trans (lostM_le _ _ _) (Nat.le_trans (keptM_len _ _) hvl)
  have hR3 : R = (if X = false ∨ Y = false then false else decide (0 ≤ dblM L0 k0.count) && (decide (0 ≤ dblM L1 k1.count) && (c.count == dblM L0 k0.count + dblM L1 k1.count))) := by
    rw [← hR2]
    by_cases hx : X = false ∨ Y = false
    · rw [if_pos hx, if_pos (.inr (.inr (.inr (.inr hx))))]
    · rw [if_neg hx, if_neg (by rintro (h | h | h | h | h); exact h0 h; exact h h1; exact h3 h; exact h rfl; exact hx h), ← hL0, ← hL1]
      rfl
  have HR3 := Lib.hid hR3
  have hiq : (1 : Int) < qn := by have := HQN.out; simp at this; omega
  have hiq' : 1 < qn := by omega
  have hiq0 : (0 : Int) < qn := by omega
  have hiq0' : 0 < qn := by omega
  have hres0 : ∀ (W : World), Below w.heap.size w W → Calls Try.prog 44 #[.pointer (some ⟨b, 0, none⟩), .int .i64 0, .int .i64 (-V)] W (BoolPost W (resB c [k0, k1] 0 (-V))) := fun (W : World) (hb : Below w.heap.size w W) => residualk_any b keep _ _ _ _ c _ vs 0 (-V) W (HC.out.below hb) (by simp) (by omega) ⟨by omega, by omega⟩ hsc
  have hres1 : ∀ (W : World), Below w.heap.size w W → Calls Try.prog 44 #[.pointer (some ⟨b, 0, none⟩), .int .i64 1, .int .i64 V] W (BoolPost W (resB c [k0, k1] 1 V)) := fun (W : World) (hb : Below w.heap.size w W) => residualk_any b keep _ _ _ _ c _ vs 1 V W (HC.out.below hb) (by simp) (by omega) ⟨by omega, by omega⟩ hsc
  have HKC := Lib.hid hkcl
  have HJC := Lib.hid hjcl
  have hlost0 := fun (W : World) (hb : Below w.heap.size w W) => lost_any b keep V c (.slice ka kn kc) (.slice kka kkn kkc) _ k0 vs W (below_c hb hlt c0) (below_c hb hlt c7) ((HC.out.below hb).2.2.2.1) hvl (HKC.out.below hb) hm0.1 ⟨by omega, by omega⟩
  have hlost1 := fun (W : World) (hb : Below w.heap.size w W) => lost_any b keep V c (.slice ja jn jc) (.slice jja jjn jjc) _ k1 vs W (below_c hb hlt c0) (below_c hb hlt c7) ((HC.out.below hb).2.2.2.1) hvl (HJC.out.below hb) hm1.1 ⟨by omega, by omega⟩
  rw [hX] at hres0
  rw [hY] at hres1
  rw [hL0] at hlost0
  rw [hL1] at hlost1
  have HRES0 := Lib.hid hres0
  have HRES1 := Lib.hid hres1
  have HLOST0 := Lib.hid hlost0
  have HLOST1 := Lib.hid hlost1
  obtain ⟨_, n00, n01⟩ := hm0
  obtain ⟨_, n10, n11⟩ := hm1
  have HN0 := Lib.hid (And.intro n00 n01)
  have HN1 := Lib.hid (And.intro n10 n11)
  have hdl0 := dblM_le L0 k0.count (by omega)
  have hdg0 := dblM_ge L0 k0.count n00
  have hdl1 := dblM_le L1 k1.count (by omega)
  have hdg1 := dblM_ge L1 k1.count n10
  have hd0 := fun W => doubled_any k0.count L0 W n00 n01 hll0
  have hd1 := fun W => doubled_any k1.count L1 W n10 n11 hll1
  generalize dblM L0 k0.count = D0 at *
  generalize dblM L1 k1.count = D1 at *
  have HD0 := Lib.hid hd0
  have HD1 := Lib.hid hd1
  clear hd0 hd1 hlost0 hlost1 hL0 hL1 hkcl hkki hjcl hjki hres0 hres1 hX hY hcl hks hsc hsk hrv h1 HQN hvs h2 h3 hR2 hR3 HKC HJC n00 n01 n10 n11 hll0 hll1
  go_enter Try.func27, Try.ntmps27
  go_wp2_with fail
  refine HVA.out.mono ?_
  rintro e w2 ⟨rfl, hw2⟩
  subst hw2
  go_wp2_with fail
  refine (HRES0.out _ (Below.refl _ _)).mono ?_
  rintro e w3 ⟨rfl, hb3⟩
  have HB3 := Lib.hid hb3
  clear hb3
  rcases X with _ | _
  · have hF : R = false := by rw [HR3.out, if_pos (.inl rfl)]
    subst hF
    go_wp2_with fail
    go_ret
    exact ⟨rfl, HB3.out⟩
  go_wp2_with fail
  refine (HRES1.out _ HB3.out).mono ?_
  rintro e w4 ⟨rfl, hb4⟩
  have HB4 := Lib.hid (HB3.out.trans (hb4.mono HB3.out.size))
  clear hb4
  rcases Y with _ | _
  · have hF : R = false := by rw [HR3.out, if_pos (.inr rfl)]
    subst hF
    go_wp2_with fail
    go_ret
    exact ⟨rfl, HB4.out⟩
  have hF : R = (decide (0 ≤ D0) && (decide (0 ≤ D1) && (c.count == D0 + D1))) := by rw [HR3.out, if_neg (by simp)]
  have HF := Lib.hid hF
  have HB5 : Hid (Below w2.heap.size w2 w4.drew) := Lib.hid HB4.out.drew
  have z6 := below_c HB4.out hlt c6
  have z0 := below_c HB4.out hkb x0
  have z1 := below_c HB4.out hkb x1
  have z2 := below_c HB4.out hkb x2
  have z3 := below_c HB4.out hkb x3
  have z4 := below_c HB4.out hkb x4
  have u0 := below_c HB4.out hkb y0
  have u1 := below_c HB4.out hkb y1
  have u2 := below_c HB4.out hkb y2
  have u3 := below_c HB4.out hkb y3
  have u4 := below_c HB4.out hkb y4
  clear hF HR3
  go_wp2_with fail
  go_region_held3 (fun w' => w'.cell? ⟨b, 6, none⟩ = some (.slice (some ⟨kb, ko, none⟩) qn qc) ∧ w'.cell? ⟨kb, ko, none⟩ = some (.slice ka kn kc) ∧ w'.cell? ⟨kb, ko + 1, none⟩ = some (.int .i64 k0.rule) ∧ w'.cell? ⟨kb, ko + 2, none⟩ = some (.int .i64 k0.lit) ∧ w'.cell? ⟨kb, ko + 3, none⟩ = some (.slice kka kkn kkc) ∧ w'.cell? ⟨kb, ko + 4, none⟩ = some (.int .i64 k0.count) ∧
      w'.cell? ⟨kb, ko + 5, none⟩ = some (.slice ja jn jc) ∧ w'.cell? ⟨kb, ko + 6, none⟩ = some (.int .i64 k1.rule) ∧ w'.cell? ⟨kb, ko + 7, none⟩ = some (.int .i64 k1.lit) ∧ w'.cell? ⟨kb, ko + 8, none⟩ = some (.slice jja jjn jjc) ∧ w'.cell? ⟨kb, ko + 9, none⟩ = some (.int .i64 k1.count))
    (first | exact ⟨z6, z0, z1, z2, z3, z4, u0, u1, u2, u3, u4⟩ | exact ⟨s6, s0, s1, s2, s3, s4, t0, t1, t2, t3, t4⟩ | go_keep)
    (first | (go_at_call 46; (first | (with_reducible refine (HLOST0.out _ HB5.out).mono ?_) | (with_reducible refine (HLOST1.out _ HB5.out).mono ?_)); rintro e w6 ⟨rfl, hb6⟩; have HB5 := Lib.hid (HB5.out.trans (hb6.mono HB5.out.size)); have s6 := below_c HB5.out hlt c6; have s0 := below_c HB5.out hkb x0; have s1 := below_c HB5.out hkb x1; have s2 := below_c HB5.out hkb x2; have s3 := below_c HB5.out hkb x3; have s4 := below_c HB5.out hkb x4; have t0 := below_c HB5.out hkb y0; have t1 := below_c HB5.out hkb y1; have t2 := below_c HB5.out hkb y2; have t3 := below_c HB5.out hkb y3; have t4 := below_c HB5.out hkb y4; clear hb6)
           | (go_at_call 45; (first | (with_reducible refine (HD0.out _).mono ?_) | (with_reducible refine (HD1.out _).mono ?_)); rintro e w7 ⟨rfl, hw7⟩; subst hw7))
  have s5 := below_c HB5.out hlt c5
  clear s6 s0 s1 s2 s3 s4 t0 t1 t2 t3 t4 z6 z0 z1 z2 z3 z4 u0 u1 u2 u3 u4 HD0 HD1 HLOST0 HLOST1 HRES0 HRES1 HB4 HB3
  by_cases q1 : 0 ≤ D0
  case neg =>
    have q1' : decide (0 ≤ D0) = false := decide_eq_false q1
    have hF := HF.out
    rw [q1', Bool.false_and] at hF
    subst hF
    clear q1
    go_wp2_with fail
    go_ret
    exact ⟨rfl, HB5.out⟩
  have q1' : decide (0 ≤ D0) = true := decide_eq_true q1
  by_cases q2 : 0 ≤ D1
  case neg =>
    have q2' : decide (0 ≤ D1) = false := decide_eq_false q2
    have hF := HF.out
    rw [q1', q2', Bool.true_and, Bool.false_and] at hF
    subst hF
    clear q2
    go_wp2_with fail
    go_ret
    exact ⟨rfl, HB5.out⟩
  have q2' : decide (0 ≤ D1) = true := decide_eq_true q2
  have hF := HF.out
  rw [q1', q2', Bool.true_and, Bool.true_and] at hF
  have HF2 := Lib.hid hF
  clear hF HF
  go_wp2_with fail
  go_ret
  exact ⟨by rw [HF2.out]; rfl, HB5.out⟩
end Go.Proofs.Ytihkknploioakaa
