/- Plain: the counts of a valid normal form are the numbers of its models. No program in sight. -/
import Derived.Test.YtljljagkccmogaaMa
import Derived.Test.YtljljagkccmogaaCp
import Derived.Test.YtljljagkccmogaaDc
import Derived.Test.YtljljagkccmogaaLb
namespace Go.Proofs.Ytljljagkccmogaa

/-! ### bits -/
theorem pop_le : ∀ (n x : Nat), Pop.pop n x ≤ n
  | 0, _ => Nat.le_refl _
  | n + 1, x => by have := pop_le n (x / 2); have := Nat.mod_lt x (show 0 < 2 by decide); simp only [Pop.pop]; omega
theorem pop_small (n m x : Nat) (h : x < 2 ^ n) : Pop.pop (n + m) x = Pop.pop n x := by
  rw [Pop.pop_add, Nat.div_eq_of_lt h, Pop.pop_zero]; rfl
theorem pop_lt {V x : Nat} (hV : V ≤ 40) (h : x < 2 ^ V) : Pop.pop 64 x ≤ V := by
  have := pop_small V (64 - V) x h
  rw [show V + (64 - V) = 64 by omega] at this
  rw [this]
  exact pop_le _ _
theorem pop_two_pow : ∀ (n i : Nat), i < n → Pop.pop n (2 ^ i) = 1
  | 0, i, h => by omega
  | n + 1, 0, h => by simp [Pop.pop, Pop.pop_zero]
  | n + 1, i + 1, h => by
    simp only [Pop.pop]
    rw [Nat.pow_succ, Nat.mul_mod_left, Nat.mul_div_cancel _ (by decide), pop_two_pow n i (by omega)]
theorem compl_bit (y i : Nat) (hy : y < 18446744073709551616) : (18446744073709551615 - y).testBit i = (decide (i < 64) && !y.testBit i) := by
  have := Nat.testBit_two_pow_sub_succ (x := y) (n := 64) (by simpa using hy) i
  rw [← this]
  congr 1
  omega
theorem bit_high {x i : Nat} (hx : x < 18446744073709551616) (h : x.testBit i = true) : i < 64 := by
  rcases Nat.lt_or_ge i 64 with h1 | h1
  · exact h1
  · rw [Nat.testBit_lt_two_pow (Nat.lt_of_lt_of_le hx (by rw [show (18446744073709551616 : Nat) = 2 ^ 64 by decide]; exact Nat.pow_le_pow_right (by decide) h1))] at h
    cases h
/-- what is left of x without y -/
theorem without (x y : Nat) (hx : x < 18446744073709551616) (hy : y < 18446744073709551616) (hs : Sub y x) : Pop.pop 64 (x &&& (18446744073709551615 - y)) + Pop.pop 64 y = Pop.pop 64 x := by
  have h1 : (x &&& (18446744073709551615 - y)) &&& y = 0 := and_zero_iff.2 fun i h hb => by
    rw [Nat.testBit_and, compl_bit _ _ hy, hb] at h
    simp at h
  have h2 : (x &&& (18446744073709551615 - y)) ||| y = x := Nat.eq_of_testBit_eq fun i => by
    rw [Nat.testBit_or, Nat.testBit_and, compl_bit _ _ hy]
    cases hxi : x.testBit i <;> cases hyi : y.testBit i <;> simp
    · have := hs i hyi; rw [hxi] at this; cases this
    · exact bit_high hx hxi
  have := Pop.pop_or 64 _ _ h1
  rw [h2] at this
  omega
theorem without_or (y z : Nat) (hz : z < 18446744073709551616) (hy : y < 18446744073709551616) (hd : y &&& z = 0) : (y ||| z) &&& (18446744073709551615 - y) = z := Nat.eq_of_testBit_eq fun i => by
  rw [Nat.testBit_and, Nat.testBit_or, compl_bit _ _ hy]
  cases hyi : y.testBit i <;> cases hzi : z.testBit i <;> simp
  · exact bit_high hz hzi
  · exact and_zero_iff.1 hd i hyi hzi

/-! ### one part -/
/-- c is the number of models of f over the variables of the mask m, among V variables -/
def Good (V m c : Nat) (f : List Bool → Bool) : Prop := m < 2 ^ V ∧ DepOn (fun i => m.testBit i = true) V f ∧ c * 2 ^ (V - Pop.pop 64 m) = Cn V f
theorem pow_split (V p : Nat) (h : p ≤ V) : 2 ^ V = 2 ^ p * 2 ^ (V - p) := by rw [← Nat.pow_add, Nat.add_sub_cancel' h]
theorem Good.le {V m c : Nat} {f : List Bool → Bool} (h : Good V m c f) (hV : V ≤ 40) : c ≤ 2 ^ Pop.pop 64 m := by
  have h1 := Cn_le V f
  have hp := pop_lt hV h.1
  rw [← h.2.2, pow_split V _ hp] at h1
  exact Nat.le_of_mul_le_mul_right h1 (Nat.two_pow_pos _)
theorem Good.le40 {V m c : Nat} {f : List Bool → Bool} (h : Good V m c f) (hV : V ≤ 40) : c ≤ 1099511627776 := by
  have h1 := h.le hV
  have hp := pop_lt hV h.1
  exact Nat.le_trans h1 (by rw [show (1099511627776 : Nat) = 2 ^ 40 by decide]; exact Nat.pow_le_pow_right (by decide) (by omega))
theorem Good.ext {V m c : Nat} {f g : List Bool → Bool} (h : Good V m c f) (he : ∀ a, a.length = V → f a = g a) : Good V m c g :=
  ⟨h.1, fun a b ha hb hi => by rw [← he a ha, ← he b hb]; exact h.2.1 a b ha hb hi, by rw [h.2.2]; exact Cn_ext _ _ _ he⟩
theorem mask_small {V : Nat} (hV : V ≤ 40) {m : Nat} (h : m < 2 ^ V) : m < 18446744073709551616 :=
  Nat.lt_of_lt_of_le h (by rw [show (18446744073709551616 : Nat) = 2 ^ 64 by decide]; exact Nat.pow_le_pow_right (by decide) (by omega))

theorem good_true (V : Nat) : Good V 0 1 (fun _ => true) := ⟨Nat.two_pow_pos _, fun _ _ _ _ _ => rfl, by rw [Pop.pop_zero, Cn_true]; simp⟩
theorem good_false (V : Nat) : Good V 0 0 (fun _ => false) := ⟨Nat.two_pow_pos _, fun _ _ _ _ _ => rfl, by rw [Cn_false]; simp⟩
theorem good_lit {V v : Nat} (b : Bool) (h : v < V) (hV : V ≤ 40) : Good V (2 ^ v) 1 (fun a => a.getD v false == b) := by
  refine ⟨Nat.pow_lt_pow_right (by decide) h, fun a c _ _ hi => ?_, ?_⟩
  · have := hi v (by simp)
    simp only [this]
  · rw [Cn_var V v b h, pop_two_pow 64 v (by omega)]; simp
theorem good_and {V m c m' c' : Nat} {f g : List Bool → Bool} (h : Good V m c f) (h' : Good V m' c' g) (hd : m &&& m' = 0) (hV : V ≤ 40) : Good V (m ||| m') (c * c') (fun a => f a && g a) := by
  refine ⟨Nat.or_lt_two_pow h.1 h'.1, fun a b ha hb hi => ?_, ?_⟩
  · have e1 := h.2.1 a b ha hb fun i hs => hi i (Sub.left _ _ i hs)
    have e2 := h'.2.1 a b ha hb fun i hs => hi i (Sub.right _ _ i hs)
    simp only [e1, e2]
  · have e := Cn_and V f g _ _ h.2.1 h'.2.1 (fun i => and_zero_iff.1 hd i)
    have hp := pop_lt hV (Nat.or_lt_two_pow h.1 h'.1)
    rw [Pop.pop_or 64 m m' hd] at hp ⊢
    rw [← h.2.2, ← h'.2.2] at e
    refine Nat.eq_of_mul_eq_mul_right (Nat.two_pow_pos V) ?_
    rw [e]
    generalize Pop.pop 64 m = p at *
    generalize Pop.pop 64 m' = q at *
    calc c * c' * 2 ^ (V - (p + q)) * 2 ^ V = c * c' * (2 ^ (V - (p + q)) * 2 ^ V) := by rw [Nat.mul_assoc]
      _ = c * c' * (2 ^ (V - p) * 2 ^ (V - q)) := by
        rw [← Nat.pow_add, ← Nat.pow_add, show V - (p + q) + V = V - p + (V - q) by omega]
      _ = c * 2 ^ (V - p) * (c' * 2 ^ (V - q)) := by ac_rfl
theorem good_ite {V v m c m' c' : Nat} {f g : List Bool → Bool} (h : Good V m c f) (h' : Good V m' c' g) (hv : v < V) (hd : 2 ^ v &&& m = 0) (hd' : 2 ^ v &&& m' = 0) (hV : V ≤ 40) :
    Good V (2 ^ v ||| m ||| m') (c * 2 ^ gapM (m ||| m') m + c' * 2 ^ gapM (m ||| m') m') (fun a => if a.getD v false = true then g a else f a) := by
  have hor := Nat.or_lt_two_pow h.1 h'.1
  have h2v : 2 ^ v < 2 ^ V := Nat.pow_lt_pow_right (by decide) hv
  have hdd : 2 ^ v &&& (m ||| m') = 0 := and_zero_iff.2 fun i hi hj => by
    rw [Nat.testBit_or, Bool.or_eq_true] at hj
    rcases hj with hj | hj
    · exact and_zero_iff.1 hd i hi hj
    · exact and_zero_iff.1 hd' i hi hj
  have hnv : ¬ (m ||| m').testBit v = true := fun hj => and_zero_iff.1 hdd v (by simp) hj
  rw [Nat.or_assoc]
  refine ⟨Nat.or_lt_two_pow h2v hor, fun a b ha hb hi => ?_, ?_⟩
  · have e0 := hi v (Sub.left _ _ v (Nat.testBit_two_pow_self))
    have e1 := h.2.1 a b ha hb fun i hs => hi i (Sub.right _ _ i (Sub.left _ _ i hs))
    have e2 := h'.2.1 a b ha hb fun i hs => hi i (Sub.right _ _ i (Sub.right _ _ i hs))
    simp only [e0, e1, e2]
  · have e := Cn_ite V v f g (fun i => (m ||| m').testBit i = true) hv (h.2.1.mono fun i hi => Sub.left _ _ i hi) (h'.2.1.mono fun i hi => Sub.right _ _ i hi) hnv
    have g1 := without (m ||| m') m (mask_small hV hor) (mask_small hV h.1) (Sub.left _ _)
    have g2 := without (m ||| m') m' (mask_small hV hor) (mask_small hV h'.1) (Sub.right _ _)
    have hp := pop_lt hV (Nat.or_lt_two_pow h2v hor)
    rw [Pop.pop_or 64 _ _ hdd, pop_two_pow 64 v (by omega)] at hp ⊢
    rw [← h.2.2, ← h'.2.2] at e
    unfold gapM
    generalize Pop.pop 64 ((m ||| m') &&& (18446744073709551615 - m)) = a at *
    generalize Pop.pop 64 ((m ||| m') &&& (18446744073709551615 - m')) = b at *
    generalize Pop.pop 64 (m ||| m') = r at *
    generalize Pop.pop 64 m = p at *
    generalize Pop.pop 64 m' = q at *
    generalize Cn V (fun a => if a.getD v false = true then g a else f a) = X at *
    have k1 : 2 ^ (V - p) = 2 ^ a * 2 ^ (V - (1 + r)) * 2 := by rw [← Nat.pow_add, ← Nat.pow_succ, show V - p = a + (V - (1 + r)) + 1 by omega]
    have k2 : 2 ^ (V - q) = 2 ^ b * 2 ^ (V - (1 + r)) * 2 := by rw [← Nat.pow_add, ← Nat.pow_succ, show V - q = b + (V - (1 + r)) + 1 by omega]
    rw [k1, k2] at e
    generalize 2 ^ (V - (1 + r)) = Y at *
    generalize 2 ^ a = A at *
    generalize 2 ^ b = B at *
    have e3 : c * (A * Y * 2) + c' * (B * Y * 2) = 2 * ((c * A + c' * B) * Y) := by
      rw [Nat.add_mul, Nat.mul_add]
      congr 1 <;> ac_rfl
    omega

/-! ### all parts -/
/-- each of the parts so far is good -/
def AllGood (V : Nat) (ms cs : List Nat) (F : List Bool → List Bool) : Prop :=
  cs.length = ms.length ∧ (∀ a, a.length = V → (F a).length = ms.length) ∧ ∀ i, i < ms.length → Good V (ms.getD i 0) (cs.getD i 0) (fun a => (F a).getD i false)

theorem and_good {V : Nat} {ms cs : List Nat} {F : List Bool → List Bool} (hV : V ≤ 40) (H : AllGood V ms cs F) (own : Nat) : ∀ (ks : List Int) (all m n : Nat) (g : List Bool → Bool), Good V all n g → (∀ k ∈ ks, 0 ≤ k ∧ k < (ms.length : Int)) → maskGo 3 own ms ks all = some m →
    mulSafe cs ks n ∧ Good V m (mulGo cs ks n) (fun a => allGo (F a) ks (g a))
  | [], all, m, n, g, hg, _, h => by
    simp only [maskGo, Option.some.injEq] at h
    subst h
    exact ⟨trivial, hg⟩
  | k :: r, all, m, n, g, hg, hk, h => by
    simp only [maskGo] at h
    split at h
    · cases h
    rename_i hc
    have hd : all &&& ms.getD k.toNat 0 = 0 := by
      by_cases he : all &&& ms.getD k.toNat 0 = 0
      · exact he
      · exact absurd (.inl ⟨trivial, he⟩) hc
    have hkk := hk k (by simp)
    have hgk := H.2.2 k.toNat (by omega)
    have hg2 := good_and hg hgk hd hV
    obtain ⟨h1, h2⟩ := and_good hV H own r _ m _ _ hg2 (fun x hx => hk x (by simp [hx])) h
    exact ⟨⟨hg2.le40 hV, h1⟩, h2⟩

theorem two_of {ks : List Int} (h : ks.length = 2) : ∃ x y, ks = [x, y] := by
  match ks, h with
  | [x, y], _ => exact ⟨x, y, rfl⟩

theorem part_good {V : Nat} {ms cs : List Nat} {F : List Bool → List Bool} (hV : V ≤ 40) (H : AllGood V ms cs F) {p : Part} {m : Nat} (ms2 : List Nat) (hms : ∀ i, i < ms.length → ms2.getD i 0 = ms.getD i 0)
    (hs : shapedM p V = 0) (hk : ∀ k ∈ p.kids, 0 ≤ k ∧ k < (ms.length : Int)) (hm : maskM p ms = some m) :
    partSafe p m ms2 cs ∧ Good V m (stepM p m ms2 cs) (fun a => evalStep a p (F a)) := by
  obtain ⟨k0, k4, kl, kz, k4s, k2s⟩ := shaped_kind hs
  have hcl := H.1
  have hk5 : p.kind = 0 ∨ p.kind = 1 ∨ p.kind = 2 ∨ p.kind = 3 ∨ p.kind = 4 := by omega
  have hkc : ∀ k ∈ p.kids, 0 ≤ k ∧ k < (cs.length : Int) := by rw [hcl]; exact hk
  unfold maskM at hm
  rcases hk5 with e | e | e | e | e
  · have hl := kz (by omega)
    rw [kl (by omega), hl] at hm
    simp only [maskGo, ownM, if_true, Option.some.injEq] at hm
    subst hm
    exact ⟨⟨hkc, by omega, by omega⟩, by unfold stepM evalStep; simpa [e] using good_true V⟩
  · have hl := kz (by omega)
    rw [kl (by omega), hl] at hm
    simp only [maskGo, ownM, if_true, Option.some.injEq] at hm
    subst hm
    exact ⟨⟨hkc, by omega, by omega⟩, by unfold stepM evalStep; simpa [e] using good_false V⟩
  · have hl := k2s e
    rw [kl (by omega)] at hm
    simp only [maskGo, ownM, if_neg hl.1, Option.some.injEq] at hm
    subst hm
    refine ⟨⟨hkc, by omega, by omega⟩, ?_⟩
    unfold stepM evalStep
    simpa [e] using good_lit (decide (0 < p.lit)) (show p.lit.natAbs - 1 < V by omega) hV
  · have hl := kz (by omega)
    rw [hl, e] at hm
    have h0 : ownM 0 = 0 := rfl
    rw [h0] at hm
    obtain ⟨h1, h2⟩ := and_good hV H 0 p.kids 0 m 1 (fun _ => true) (good_true V) hk hm
    refine ⟨⟨hkc, fun _ => h1, by omega⟩, ?_⟩
    unfold stepM evalStep
    simpa [e] using h2
  · obtain ⟨hk2, hl1, hl2⟩ := k4s e
    obtain ⟨x, y, hxy⟩ := two_of hk2
    have hx := hk x (by simp [hxy])
    have hy := hk y (by simp [hxy])
    have ho : ownM p.lit = 2 ^ (p.lit.toNat - 1) := by unfold ownM; rw [if_neg (by omega), show p.lit.natAbs = p.lit.toNat by omega]
    rw [e, ho, hxy] at hm
    generalize hv : p.lit.toNat - 1 = v at *
    have hvV : v < V := by omega
    simp only [maskGo] at hm
    split at hm
    · cases hm
    rename_i hc1
    split at hm
    · cases hm
    rename_i hc2
    simp only [Option.some.injEq] at hm
    have hd1 : 2 ^ v &&& ms.getD x.toNat 0 = 0 := by
      by_cases he : 2 ^ v &&& ms.getD x.toNat 0 = 0
      · exact he
      · exact absurd (.inr ⟨trivial, he⟩) hc1
    have hd2 : 2 ^ v &&& ms.getD y.toNat 0 = 0 := by
      by_cases he : 2 ^ v &&& ms.getD y.toNat 0 = 0
      · exact he
      · exact absurd (.inr ⟨trivial, he⟩) hc2
    have g1 := H.2.2 x.toNat (by omega)
    have g2 := H.2.2 y.toNat (by omega)
    have hg := good_ite g1 g2 hvV hd1 hd2 hV
    have hor := Nat.or_lt_two_pow g1.1 g2.1
    have hrest : restM p.lit m = ms.getD x.toNat 0 ||| ms.getD y.toNat 0 := by
      unfold restM
      rw [hv, ← hm, Nat.or_assoc]
      refine without_or _ _ (mask_small hV hor) (mask_small hV (Nat.pow_lt_pow_right (by decide) hvV)) (and_zero_iff.2 fun i hi hj => ?_)
      rw [Nat.testBit_or, Bool.or_eq_true] at hj
      rcases hj with hj | hj
      · exact and_zero_iff.1 hd1 i hi hj
      · exact and_zero_iff.1 hd2 i hi hj
    have e1 := hms x.toNat (by omega)
    have e2 := hms y.toNat (by omega)
    have hle := hg.le40 hV
    have gle : ∀ z, gapM (ms.getD x.toNat 0 ||| ms.getD y.toNat 0) z ≤ 40 := fun z => by
      unfold gapM
      have : (ms.getD x.toNat 0 ||| ms.getD y.toNat 0) &&& (18446744073709551615 - z) < 2 ^ V := Nat.lt_of_le_of_lt Nat.and_le_left hor
      exact Nat.le_trans (pop_lt hV this) hV
    have hsum : sumGo (restM p.lit m) ms2 cs p.kids 0 = cs.getD x.toNat 0 * 2 ^ gapM (ms.getD x.toNat 0 ||| ms.getD y.toNat 0) (ms.getD x.toNat 0) + cs.getD y.toNat 0 * 2 ^ gapM (ms.getD x.toNat 0 ||| ms.getD y.toNat 0) (ms.getD y.toNat 0) := by
      rw [hxy, hrest]
      simp only [sumGo]
      rw [e1, e2, Nat.zero_add]
    refine ⟨⟨hkc, by omega, fun _ => ⟨hl1, by omega, ?_⟩⟩, ?_⟩
    · rw [hxy, hrest]
      simp only [sumSafe]
      rw [e1, e2, Nat.zero_add]
      exact ⟨gle _, by omega, gle _, hle, trivial⟩
    · have hst : stepM p m ms2 cs = sumGo (restM p.lit m) ms2 cs p.kids 0 := by unfold stepM; simp [e]
      rw [hst, hsum, ← hm]
      refine hg.ext fun a _ => ?_
      rw [evalStep, hv, hxy]
      simp [e]

theorem getD_snoc {α : Type} (l : List α) (x d : α) (i : Nat) : (l ++ [x]).getD i d = if i < l.length then l.getD i d else if i = l.length then x else d := by
  rcases Nat.lt_trichotomy i l.length with h | h | h
  · rw [if_pos h]; simp [List.getD, List.getElem?_append_left h]
  · subst h; simp [List.getD]
  · rw [if_neg (by omega), if_neg (by omega)]
    simp only [List.getD]
    rw [List.getElem?_eq_none (by simp; omega)]
    rfl

theorem all_good {V : Nat} (hV : V ≤ 40) : ∀ (ps : List Part) (ms M cs : List Nat) (F : List Bool → List Bool), checkedGo V ps ms = (0, M) → AllGood V ms cs F →
    (M.length = ms.length + ps.length ∧ ∀ i, i < ms.length → M.getD i 0 = ms.getD i 0) ∧ countSafe M ps cs ∧ AllGood V M (countGo M ps cs) (fun a => evalGo a ps (F a))
  | [], ms, M, cs, F, h, H => by
    simp only [checkedGo, Prod.mk.injEq, true_and] at h
    subst h
    exact ⟨⟨rfl, fun _ _ => rfl⟩, trivial, H⟩
  | p :: r, ms, M, cs, F, h, H => by
    simp only [checkedGo] at h
    by_cases h1 : shapedM p V ≠ 0
    · rw [if_pos h1] at h; simp only [Prod.mk.injEq] at h; exact absurd h.1 h1
    rw [if_neg h1] at h
    by_cases h2 : (p.kids.any fun k => decide (k < 0 ∨ (ms.length : Int) ≤ k)) = true
    · rw [if_pos h2] at h; simp at h
    rw [if_neg h2] at h
    have hk : ∀ k ∈ p.kids, 0 ≤ k ∧ k < (ms.length : Int) := by
      intro k hk
      have := List.any_eq_false.1 (Bool.eq_false_iff.2 h2) k hk
      simp at this
      omega
    cases hm : maskM p ms with
    | none => rw [hm] at h; simp at h
    | some m =>
      rw [hm] at h
      simp only at h
      -- the state behind this part
      have step : ∀ ms2, (∀ i, i < ms.length → ms2.getD i 0 = ms.getD i 0) → partSafe p m ms2 cs ∧ AllGood V (ms ++ [m]) (cs ++ [stepM p m ms2 cs]) (fun a => F a ++ [evalStep a p (F a)]) := by
        intro ms2 hms2
        obtain ⟨q1, q2⟩ := part_good hV H ms2 hms2 (by simpa using h1) hk hm
        refine ⟨q1, by simp [H.1], fun a ha => by simp [H.2.1 a ha], fun i hi => ?_⟩
        rw [getD_snoc, getD_snoc, H.1]
        by_cases hil : i < ms.length
        · rw [if_pos hil, if_pos hil]
          refine (H.2.2 i hil).ext fun a ha => ?_
          rw [getD_snoc, H.2.1 a ha, if_pos hil]
        · have : i = ms.length := by simp at hi; omega
          subst this
          rw [if_neg hil, if_pos rfl, if_neg hil, if_pos rfl]
          refine q2.ext fun a ha => ?_
          rw [getD_snoc, H.2.1 a ha, if_neg hil, if_pos rfl]
      -- the masks of the whole
      have hpre := (all_good hV r (ms ++ [m]) M (cs ++ [stepM p m ms cs]) (fun a => F a ++ [evalStep a p (F a)]) h (step ms fun _ _ => rfl).2).1
      have hM : ∀ i, i < ms.length → M.getD i 0 = ms.getD i 0 := fun i hi => by
        rw [hpre.2 i (by simp; omega), getD_snoc, if_pos hi]
      have hMm : M.getD cs.length 0 = m := by
        rw [H.1, hpre.2 ms.length (by simp), getD_snoc, if_neg (by omega), if_pos rfl]
      obtain ⟨q1, q2⟩ := step M hM
      obtain ⟨_, s1, s2⟩ := all_good hV r (ms ++ [m]) M (cs ++ [stepM p m M cs]) (fun a => F a ++ [evalStep a p (F a)]) h q2
      refine ⟨⟨by rw [hpre.1]; simp; omega, hM⟩, ?_, ?_⟩
      · rw [countSafe, hMm]; exact ⟨q1, s1⟩
      · rw [countGo, hMm]; exact s2

/-- the count of a valid normal form: nothing passes 2^40, and it is the number of models -/
theorem count_ok {d : Dnnf} (h : (checkedM d).1 = 0) : CountOk d (checkedM d).2 ∧ countM d (checkedM d).2 = Cn d.vars.toNat (evalM d.parts) := by
  obtain ⟨_, hv0, hv40, hp0, hpl⟩ := sh_of_checkedM d h
  have hcm : checkedM d = checkedGo d.vars d.parts [] := by
    unfold checkedM
    rw [if_neg (by omega), if_neg (by omega), if_neg (by omega)]
  obtain ⟨V, hV⟩ := Int.eq_ofNat_of_zero_le hv0
  rw [hcm, hV] at h ⊢
  have hV40 : V ≤ 40 := by omega
  rcases hx : checkedGo V d.parts [] with ⟨c, M⟩
  rw [hx] at h
  simp only at h
  subst h
  obtain ⟨⟨m1, _⟩, m2, m3⟩ := all_good hV40 d.parts [] M [] (fun _ => []) hx ⟨rfl, fun _ _ => rfl, fun i hi => by simp at hi⟩
  simp only [List.length_nil, Nat.zero_add] at m1
  have hl := m3.2.2 (d.parts.length - 1) (by omega)
  have hpl2 := pop_lt hV40 hl.1
  have h40 : (2 : Nat) ^ V ≤ 1099511627776 := by rw [show (1099511627776 : Nat) = 2 ^ 40 by decide]; exact Nat.pow_le_pow_right (by decide) hV40
  simp only [Int.toNat_natCast]
  refine ⟨⟨m1, hp0, hpl, by omega, by omega, m2, by rw [hV]; omega, ?_⟩, ?_⟩
  · rw [hV, Int.toNat_natCast, hl.2.2]; exact Nat.le_trans (Cn_le _ _) h40
  · unfold countM
    rw [hV, Int.toNat_natCast, hl.2.2]
    rfl
end Go.Proofs.Ytljljagkccmogaa
