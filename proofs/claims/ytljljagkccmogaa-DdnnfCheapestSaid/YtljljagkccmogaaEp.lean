/- Plain: the least cost of a model of a valid normal form. No program in sight. -/
import Derived.Test.YtljljagkccmogaaEd
import Derived.Test.YtljljagkccmogaaMb
namespace Go.Proofs.Ytljljagkccmogaa

section
variable (no yes : List Int)
def wOf (v : Nat) (b : Bool) : Int := if b = true then yes.getD v 0 else no.getD v 0
/-- the cost of the variables of a mask -/
def costOn (m : Nat) : Nat → List Bool → Int
  | 0, _ => 0
  | n + 1, a => costOn m n a + (if m.testBit n = true then wOf no yes n (a.getD n false) else 0)
def maxOn (m : Nat) : Nat → Int
  | 0 => 0
  | n + 1 => maxOn m n + (if m.testBit n = true then 1048576 else 0)
def minA (V : Nat) : List Bool := (List.range V).map fun i => decide (yes.getD i 0 < no.getD i 0)
end
theorem range_getD {V i : Nat} (f : Nat → Bool) (h : i < V) : ((List.range V).map f).getD i false = f i := by
  simp [List.getD, h]
section
variable {no yes : List Int} {V : Nat} (h1 : CostOk V no) (h2 : CostOk V yes)
include h1 h2
theorem wOf_bd (v : Nat) (b : Bool) : 0 ≤ wOf no yes v b ∧ wOf no yes v b ≤ 1048576 ∧ min (no.getD v 0) (yes.getD v 0) ≤ wOf no yes v b := by
  have a := h1.at (n := v)
  have c := h2.at (n := v)
  unfold wOf
  split <;> omega
theorem free_le_cost (m : Nat) : ∀ (n : Nat) (a : List Bool), 0 ≤ freeGo no yes m n ∧ freeGo no yes m n ≤ costOn no yes m n a ∧ costOn no yes m n a ≤ maxOn m n
  | 0, a => by simp [freeGo, costOn, maxOn]
  | n + 1, a => by
    have h := free_le_cost m n a
    have w := wOf_bd h1 h2 n (a.getD n false)
    have x := h1.at (n := n)
    have y := h2.at (n := n)
    simp only [freeGo, costOn, maxOn]
    split <;> omega
omit h1 h2 in
theorem cost_min (m : Nat) : ∀ (n : Nat), n ≤ V → costOn no yes m n (minA no yes V) = freeGo no yes m n
  | 0, _ => rfl
  | n + 1, hn => by
    have h := cost_min m n (by omega)
    simp only [freeGo, costOn]
    rw [h]
    congr 1
    unfold minA
    rw [range_getD _ (by omega)]
    unfold wOf
    split
    · by_cases hlt : yes.getD n 0 < no.getD n 0
      · simp only [hlt, decide_true, if_true]; omega
      · simp only [hlt, decide_false]; simp only [Bool.false_eq_true, if_false]; omega
    · rfl
end
theorem maxOn_le (m : Nat) : ∀ n : Nat, 0 ≤ maxOn m n ∧ maxOn m n ≤ 1048576 * n
  | 0 => by simp [maxOn]
  | n + 1 => by
    have h := maxOn_le m n
    rw [maxOn]
    split <;> omega
theorem cost_congr {no yes : List Int} {m : Nat} {a b : List Bool} : ∀ n : Nat, (∀ i, i < n → m.testBit i = true → a.getD i false = b.getD i false) → costOn no yes m n a = costOn no yes m n b
  | 0, _ => rfl
  | n + 1, h => by
    simp only [costOn]
    rw [cost_congr n fun i hi hm => h i (by omega) hm]
    by_cases hm : m.testBit n = true
    · rw [if_pos hm, if_pos hm, h n (by omega) hm]
    · rw [if_neg hm, if_neg hm]
theorem or_cases {m m' n : Nat} (hd : m &&& m' = 0) : ((m ||| m').testBit n = true ∧ m.testBit n = true ∧ m'.testBit n = false) ∨ ((m ||| m').testBit n = true ∧ m.testBit n = false ∧ m'.testBit n = true) ∨ ((m ||| m').testBit n = false ∧ m.testBit n = false ∧ m'.testBit n = false) := by
  have := and_zero_iff.1 hd n
  rw [Nat.testBit_or]
  cases h : m.testBit n <;> cases h' : m'.testBit n <;> simp_all
theorem cost_or {no yes : List Int} {m m' : Nat} {a : List Bool} (hd : m &&& m' = 0) : ∀ n : Nat, costOn no yes (m ||| m') n a = costOn no yes m n a + costOn no yes m' n a
  | 0 => rfl
  | n + 1 => by
    simp only [costOn]
    rw [cost_or hd n]
    rcases or_cases (n := n) hd with ⟨x, y, z⟩ | ⟨x, y, z⟩ | ⟨x, y, z⟩ <;> simp only [x, y, z, if_true, Bool.false_eq_true, if_false] <;> omega
theorem max_or {m m' : Nat} (hd : m &&& m' = 0) : ∀ n : Nat, maxOn (m ||| m') n = maxOn m n + maxOn m' n
  | 0 => rfl
  | n + 1 => by
    simp only [maxOn]
    rw [max_or hd n]
    rcases or_cases (n := n) hd with ⟨x, y, z⟩ | ⟨x, y, z⟩ | ⟨x, y, z⟩ <;> simp only [x, y, z, if_true, Bool.false_eq_true, if_false] <;> omega
theorem cost_bit {no yes : List Int} {v : Nat} {a : List Bool} : ∀ n : Nat, costOn no yes (2 ^ v) n a = if v < n then wOf no yes v (a.getD v false) else 0
  | 0 => by simp [costOn]
  | n + 1 => by
    simp only [costOn]
    rw [cost_bit n, Nat.testBit_two_pow]
    by_cases hvn : v = n
    · subst hvn; simp
    · have hne : decide (v = n) = false := by simp [hvn]
      rw [hne]
      by_cases hlt : v < n
      · rw [if_pos hlt, if_pos (show v < n + 1 by omega)]; simp
      · rw [if_neg hlt, if_neg (show ¬ v < n + 1 by omega)]; simp
theorem max_bit {v : Nat} : ∀ n : Nat, maxOn (2 ^ v) n = if v < n then 1048576 else 0
  | 0 => by simp [maxOn]
  | n + 1 => by
    simp only [maxOn]
    rw [max_bit n, Nat.testBit_two_pow]
    by_cases hvn : v = n
    · subst hvn; simp
    · have hne : decide (v = n) = false := by simp [hvn]
      rw [hne]
      by_cases hlt : v < n
      · rw [if_pos hlt, if_pos (show v < n + 1 by omega)]; simp
      · rw [if_neg hlt, if_neg (show ¬ v < n + 1 by omega)]; simp

/-- (c, ok) is the least cost of f over the variables of the mask m, among V variables -/
def BestOk (no yes : List Int) (V m : Nat) (b : Best) (f : List Bool → Bool) : Prop :=
  m < 2 ^ V ∧ DepOn (fun i => m.testBit i = true) V f ∧ 0 ≤ b.1 ∧ b.1 ≤ maxOn m V ∧ (∀ a, a.length = V → f a = true → b.2 = true ∧ b.1 ≤ costOn no yes m V a) ∧ (b.2 = true → ∃ a, a.length = V ∧ f a = true ∧ costOn no yes m V a = b.1)
theorem BestOk.ext {no yes : List Int} {V m : Nat} {b : Best} {f g : List Bool → Bool} (h : BestOk no yes V m b f) (he : ∀ a, a.length = V → f a = g a) : BestOk no yes V m b g := by
  obtain ⟨g1, g2, g3, g4, g5, g6⟩ := h
  refine ⟨g1, fun a b ha hb hi => by rw [← he a ha, ← he b hb]; exact g2 a b ha hb hi, g3, g4, fun a ha hf => g5 a ha (by rw [he a ha]; exact hf), fun hb => ?_⟩
  obtain ⟨a, ha, hf, hc⟩ := g6 hb
  exact ⟨a, ha, by rw [← he a ha]; exact hf, hc⟩
theorem BestOk.small {no yes : List Int} {V m : Nat} {b : Best} {f : List Bool → Bool} (h : BestOk no yes V m b f) (hV : V ≤ 40) : Small b.1 := by
  have := maxOn_le m V
  have h3 := h.2.2.1
  have h4 := h.2.2.2.1
  unfold Small
  omega

section
variable {no yes : List Int} {V : Nat} (h1 : CostOk V no) (h2 : CostOk V yes)
theorem best_true : BestOk no yes V 0 (0, true) (fun _ => true) :=
  ⟨Nat.two_pow_pos _, fun _ _ _ _ _ => rfl, Int.le_refl _, (maxOn_le 0 V).1, fun a _ _ => ⟨rfl, by
    have : ∀ n, costOn no yes 0 n a = 0 := fun n => by induction n with | zero => rfl | succ n ih => simp [costOn, ih]
    rw [this]; exact Int.le_refl _⟩, fun _ => ⟨List.replicate V false, by simp, rfl, by
    have : ∀ n, costOn no yes 0 n (List.replicate V false) = 0 := fun n => by induction n with | zero => rfl | succ n ih => simp [costOn, ih]
    exact this V⟩⟩
theorem best_false : BestOk no yes V 0 (0, false) (fun _ => false) :=
  ⟨Nat.two_pow_pos _, fun _ _ _ _ _ => rfl, Int.le_refl _, (maxOn_le 0 V).1, fun _ _ h => by simp at h, fun h => by simp at h⟩
include h1 h2 in
theorem best_lit {v : Nat} (b : Bool) (h : v < V) : BestOk no yes V (2 ^ v) (wOf no yes v b, true) (fun a => a.getD v false == b) := by
  have w := wOf_bd h1 h2 v b
  refine ⟨Nat.pow_lt_pow_right (by decide) h, fun a c _ _ hi => ?_, w.1, by rw [max_bit, if_pos h]; exact w.2.1, fun a ha hf => ⟨rfl, ?_⟩, fun _ => ⟨List.replicate V b, by simp, ?_, ?_⟩⟩
  · have := hi v (by simp)
    simp only [this]
  · rw [cost_bit, if_pos h]
    have : a.getD v false = b := by simpa using hf
    rw [this]
    exact Int.le_refl _
  · simp [List.getD, h]
  · rw [cost_bit, if_pos h]
    have : (List.replicate V b).getD v false = b := by simp [List.getD, h]
    rw [this]
theorem best_and {m m' : Nat} {p q : Best} {f g : List Bool → Bool} (h : BestOk no yes V m p f) (h' : BestOk no yes V m' q g) (hd : m &&& m' = 0) : BestOk no yes V (m ||| m') (p.1 + q.1, p.2 && q.2) (fun a => f a && g a) := by
  obtain ⟨f1, f2, f3, f4, f5, f6⟩ := h
  obtain ⟨g1, g2, g3, g4, g5, g6⟩ := h'
  refine ⟨Nat.or_lt_two_pow f1 g1, fun a b ha hb hi => ?_, by simp only; omega, by rw [max_or hd]; simp only; omega, fun a ha hf => ?_, fun hb => ?_⟩
  · have e1 := f2 a b ha hb fun i hs => hi i (Sub.left _ _ i hs)
    have e2 := g2 a b ha hb fun i hs => hi i (Sub.right _ _ i hs)
    simp only [e1, e2]
  · rw [Bool.and_eq_true] at hf
    have e1 := f5 a ha hf.1
    have e2 := g5 a ha hf.2
    rw [cost_or hd]
    simp only [e1.1, e2.1]
    exact ⟨rfl, by omega⟩
  · simp only [Bool.and_eq_true] at hb
    obtain ⟨a, ha, hfa, hca⟩ := f6 hb.1
    obtain ⟨b, hb', hgb, hcb⟩ := g6 hb.2
    have hx : ∀ i, i < V → ((List.range V).map fun i => if m.testBit i = true then a.getD i false else b.getD i false).getD i false = if m.testBit i = true then a.getD i false else b.getD i false := fun i hi => range_getD _ hi
    have hlow : ∀ {m : Nat}, m < 2 ^ V → ∀ i, m.testBit i = true → i < V := fun {m} hm i hi => by
      rcases Nat.lt_or_ge i V with hlt | hge
      · exact hlt
      · rw [Nat.testBit_lt_two_pow (Nat.lt_of_lt_of_le hm (Nat.pow_le_pow_right (by decide) hge))] at hi; cases hi
    have ea : ∀ i, m.testBit i = true → ((List.range V).map fun i => if m.testBit i = true then a.getD i false else b.getD i false).getD i false = a.getD i false := fun i hi => by rw [hx i (hlow f1 i hi), if_pos hi]
    have eb : ∀ i, m'.testBit i = true → ((List.range V).map fun i => if m.testBit i = true then a.getD i false else b.getD i false).getD i false = b.getD i false := fun i hi => by
      rw [hx i (hlow g1 i hi), if_neg (fun h => and_zero_iff.1 hd i h hi)]
    refine ⟨(List.range V).map fun i => if m.testBit i = true then a.getD i false else b.getD i false, by simp, ?_, ?_⟩
    · simp only
      rw [f2 _ a (by simp) ha ea, g2 _ b (by simp) hb' eb, hfa, hgb]; rfl
    · rw [cost_or hd, cost_congr V fun i _ hm => ea i hm, cost_congr V fun i _ hm => eb i hm, hca, hcb]

/-- the better of the two values of a variable -/
def pick2 (b0 b1 : Best) (c0 c1 : Int) : Best :=
  if b0.2 = true then (if b1.2 = true then (if c1 < c0 then (c1, true) else (c0, true)) else (c0, true)) else (if b1.2 = true then (c1, true) else (0, false))
include h1 h2 in
/-- one of the values of the variable v, the other variables of m free -/
theorem one_side {v m rest : Nat} {b : Best} {f : List Bool → Bool} (h : BestOk no yes V m b f) (hv : v < V) (x : Bool) (hm : Sub m rest) (hr : rest < 2 ^ V) (hd : 2 ^ v &&& rest = 0) (hV : V ≤ 40) (c : Int)
    (hc : c = b.1 + freeGo no yes (rest &&& (18446744073709551615 - m)) V + wOf no yes v x) :
    0 ≤ c ∧ c ≤ maxOn (2 ^ v ||| rest) V ∧ (∀ a, a.length = V → a.getD v false = x → f a = true → b.2 = true ∧ c ≤ costOn no yes (2 ^ v ||| rest) V a) ∧
    (b.2 = true → ∃ a, a.length = V ∧ a.getD v false = x ∧ f a = true ∧ costOn no yes (2 ^ v ||| rest) V a = c) := by
  obtain ⟨f1, f2, f3, f4, f5, f6⟩ := h
  have hrs := mask_small hV hr
  have hms := mask_small hV f1
  -- the rest is m and what is free
  obtain ⟨u, hu⟩ : ∃ u, rest &&& (18446744073709551615 - m) = u := ⟨_, rfl⟩
  have hdu : m &&& u = 0 := and_zero_iff.2 fun i hi hj => by
    rw [← hu, Nat.testBit_and, compl_bit _ _ hms, hi] at hj
    simp at hj
  have hru : rest = m ||| u := Nat.eq_of_testBit_eq fun i => by
    rw [Nat.testBit_or, ← hu, Nat.testBit_and, compl_bit _ _ hms]
    cases hri : rest.testBit i <;> cases hmi : m.testBit i <;> simp
    · have := hm i hmi; rw [hri] at this; cases this
    · exact bit_high hrs hri
  rw [hu] at hc
  have w := wOf_bd h1 h2 v x
  have hfm : 0 ≤ freeGo no yes u V ∧ freeGo no yes u V ≤ maxOn u V := by
    have := free_le_cost h1 h2 u V (minA no yes V)
    omega
  have hmx : maxOn (2 ^ v ||| rest) V = 1048576 + (maxOn m V + maxOn u V) := by rw [max_or hd, max_bit, if_pos hv, hru, max_or hdu]
  have hco : ∀ a, costOn no yes (2 ^ v ||| rest) V a = wOf no yes v (a.getD v false) + (costOn no yes m V a + costOn no yes u V a) := fun a => by rw [cost_or hd, cost_bit, if_pos hv, hru, cost_or hdu]
  have hlow : ∀ i, rest.testBit i = true → i < V := fun i hi => by
    rcases Nat.lt_or_ge i V with hlt | hge
    · exact hlt
    · rw [Nat.testBit_lt_two_pow (Nat.lt_of_lt_of_le hr (Nat.pow_le_pow_right (by decide) hge))] at hi; cases hi
  have hnv : ∀ i, rest.testBit i = true → i ≠ v := fun i hi e => and_zero_iff.1 hd i (by rw [e]; simp) hi
  refine ⟨by omega, by rw [hmx]; omega, fun a ha hx hf => ?_, fun hb => ?_⟩
  · have e1 := f5 a ha hf
    have e2 := free_le_cost h1 h2 u V a
    rw [hco a, hx]
    exact ⟨e1.1, by omega⟩
  · obtain ⟨a, ha, hfa, hca⟩ := f6 hb
    have hg : ∀ i, i < V → ((List.range V).map fun i => if i = v then x else if m.testBit i = true then a.getD i false else (minA no yes V).getD i false).getD i false = if i = v then x else if m.testBit i = true then a.getD i false else (minA no yes V).getD i false := fun i hi => range_getD _ hi
    obtain ⟨z, hz⟩ : ∃ z, ((List.range V).map fun i => if i = v then x else if m.testBit i = true then a.getD i false else (minA no yes V).getD i false) = z := ⟨_, rfl⟩
    rw [hz] at hg
    have hzl : z.length = V := by rw [← hz]; simp
    have hzv : z.getD v false = x := by rw [hg v hv, if_pos rfl]
    have hzm : ∀ i, m.testBit i = true → z.getD i false = a.getD i false := fun i hi => by
      have hri := hm i hi
      rw [hg i (hlow i hri), if_neg (hnv i hri), if_pos hi]
    have hzu : ∀ i, u.testBit i = true → z.getD i false = (minA no yes V).getD i false := fun i hi => by
      have hri : rest.testBit i = true := by rw [hru]; exact Sub.right _ _ i hi
      rw [hg i (hlow i hri), if_neg (hnv i hri), if_neg (fun h => and_zero_iff.1 hdu i h hi)]
    refine ⟨z, hzl, hzv, by rw [f2 z a hzl ha hzm]; exact hfa, ?_⟩
    rw [hco z, hzv, cost_congr V fun i _ hi => hzm i hi, hca, cost_congr V fun i _ hi => hzu i hi, cost_min u V (Nat.le_refl _), hc]
    omega
include h1 h2 in
theorem best_ite {v m m' : Nat} {p q : Best} {f g : List Bool → Bool} (h : BestOk no yes V m p f) (h' : BestOk no yes V m' q g) (hv : v < V) (hd : 2 ^ v &&& m = 0) (hd' : 2 ^ v &&& m' = 0) (hV : V ≤ 40) (c0 c1 : Int)
    (hc0 : c0 = p.1 + freeGo no yes ((m ||| m') &&& (18446744073709551615 - m)) V + no.getD v 0) (hc1 : c1 = q.1 + freeGo no yes ((m ||| m') &&& (18446744073709551615 - m')) V + yes.getD v 0) :
    BestOk no yes V (2 ^ v ||| m ||| m') (pick2 p q c0 c1) (fun a => if a.getD v false = true then g a else f a) := by
  have hor := Nat.or_lt_two_pow h.1 h'.1
  have h2v : 2 ^ v < 2 ^ V := Nat.pow_lt_pow_right (by decide) hv
  have hdd : 2 ^ v &&& (m ||| m') = 0 := and_zero_iff.2 fun i hi hj => by
    rw [Nat.testBit_or, Bool.or_eq_true] at hj
    rcases hj with hj | hj
    · exact and_zero_iff.1 hd i hi hj
    · exact and_zero_iff.1 hd' i hi hj
  obtain ⟨a1, a2, a3, a4⟩ := one_side h1 h2 h hv false (Sub.left m m') hor hdd hV c0 (by rw [hc0]; rfl)
  obtain ⟨b1, b2, b3, b4⟩ := one_side h1 h2 h' hv true (Sub.right m m') hor hdd hV c1 (by rw [hc1]; rfl)
  have hM := (maxOn_le (2 ^ v ||| (m ||| m')) V).1
  rw [Nat.or_assoc]
  refine ⟨Nat.or_lt_two_pow h2v hor, fun a b ha hb hi => ?_, ?_, ?_, fun a ha hf => ?_, fun hb => ?_⟩
  · have e0 := hi v (Sub.left _ _ v (Nat.testBit_two_pow_self))
    have e1 := h.2.1 a b ha hb fun i hs => hi i (Sub.right _ _ i (Sub.left _ _ i hs))
    have e2 := h'.2.1 a b ha hb fun i hs => hi i (Sub.right _ _ i (Sub.right _ _ i hs))
    simp only [e0, e1, e2]
  · unfold pick2; split <;> (try split) <;> (try split) <;> simp only <;> omega
  · unfold pick2; split <;> (try split) <;> (try split) <;> simp only <;> omega
  · simp only at hf
    rcases bool2 (a.getD v false) with hx | hx
    · rw [hx] at hf
      simp only [if_true] at hf
      obtain ⟨k1, k2⟩ := b3 a ha hx hf
      unfold pick2
      rw [k1]
      simp only [if_true]
      split
      · split
        · exact ⟨rfl, k2⟩
        · exact ⟨rfl, by simp only; omega⟩
      · exact ⟨rfl, k2⟩
    · rw [hx] at hf
      simp only [Bool.false_eq_true, if_false] at hf
      obtain ⟨k1, k2⟩ := a3 a ha hx hf
      unfold pick2
      rw [k1]
      simp only [if_true]
      split
      · split
        · exact ⟨rfl, by simp only; omega⟩
        · exact ⟨rfl, k2⟩
      · exact ⟨rfl, k2⟩
  · have lo : p.2 = true → ∃ a, a.length = V ∧ (if a.getD v false = true then g a else f a) = true ∧ costOn no yes (2 ^ v ||| (m ||| m')) V a = c0 := fun hp => by
      obtain ⟨a, ha, hx, hf, hc⟩ := a4 hp
      exact ⟨a, ha, by rw [hx]; simpa using hf, hc⟩
    have hi : q.2 = true → ∃ a, a.length = V ∧ (if a.getD v false = true then g a else f a) = true ∧ costOn no yes (2 ^ v ||| (m ||| m')) V a = c1 := fun hp => by
      obtain ⟨a, ha, hx, hf, hc⟩ := b4 hp
      exact ⟨a, ha, by rw [hx]; simpa using hf, hc⟩
    unfold pick2 at hb ⊢
    by_cases hp : p.2 = true <;> by_cases hq : q.2 = true
    · rw [if_pos hp, if_pos hq]
      split
      · exact hi hq
      · exact lo hp
    · rw [if_pos hp, if_neg hq]; exact lo hp
    · rw [if_neg hp, if_pos hq]; exact hi hq
    · rw [if_neg hp, if_neg hq] at hb; simp at hb
end

/-! ### all parts -/
def AllBest (no yes : List Int) (V : Nat) (ms : List Nat) (bs : List Best) (F : List Bool → List Bool) : Prop :=
  bs.length = ms.length ∧ (∀ a, a.length = V → (F a).length = ms.length) ∧ ∀ i, i < ms.length → BestOk no yes V (ms.getD i 0) (bs.getD i (0, false)) (fun a => (F a).getD i false)
theorem and_best {no yes : List Int} {V : Nat} {ms : List Nat} {bs : List Best} {F : List Bool → List Bool} (hV : V ≤ 40) (H : AllBest no yes V ms bs F) (own : Nat) : ∀ (ks : List Int) (all m : Nat) (b : Best) (g : List Bool → Bool), BestOk no yes V all b g → (∀ k ∈ ks, 0 ≤ k ∧ k < (ms.length : Int)) → maskGo 3 own ms ks all = some m →
    andBS bs ks b.1 ∧ BestOk no yes V m (andB bs ks b) (fun a => allGo (F a) ks (g a))
  | [], all, m, b, g, hg, _, h => by
    simp only [maskGo, Option.some.injEq] at h
    subst h
    exact ⟨trivial, hg⟩
  | k :: r, all, m, b, g, hg, hk, h => by
    simp only [maskGo] at h
    split at h
    · cases h
    rename_i hc
    have hd : all &&& ms.getD k.toNat 0 = 0 := by
      by_cases he : all &&& ms.getD k.toNat 0 = 0
      · exact he
      · exact absurd (.inl ⟨trivial, he⟩) hc
    have hkk := hk k (by simp)
    have hgk := H.2.2 k.toNat (by omega)
    have hg2 := best_and hg hgk hd
    obtain ⟨e1, e2⟩ := and_best hV H own r _ m _ _ hg2 (fun x hx => hk x (by simp [hx])) h
    exact ⟨⟨hg2.small hV, e1⟩, e2⟩
theorem decB_two (no yes : List Int) (V lit rest : Nat) (ms : List Nat) (bs : List Best) (x y : Int) :
    decB no yes V lit rest ms bs 0 [x, y] (0, false) = pick2 (bs.getD x.toNat (0, false)) (bs.getD y.toNat (0, false)) (candB no yes V lit rest ms bs 0 x) (candB no yes V lit rest ms bs 1 y) := by
  unfold pick2
  simp only [decB]
  cases hx : (bs.getD x.toNat (0, false)).2 <;> cases hy : (bs.getD y.toNat (0, false)).2 <;> simp
theorem part_best {no yes : List Int} {V : Nat} {ms : List Nat} {bs : List Best} {F : List Bool → List Bool} (h1 : CostOk V no) (h2 : CostOk V yes) (hV : V ≤ 40) (H : AllBest no yes V ms bs F) {p : Part} {m : Nat} (ms2 : List Nat) (hms : ∀ i, i < ms.length → ms2.getD i 0 = ms.getD i 0)
    (hs : shapedM p V = 0) (hk : ∀ k ∈ p.kids, 0 ≤ k ∧ k < (ms.length : Int)) (hm : maskM p ms = some m) :
    partBS no yes V p m ms2 bs ∧ BestOk no yes V m (bestStep no yes V p m ms2 bs) (fun a => evalStep a p (F a)) := by
  obtain ⟨k0, k4, kl, kz, k4s, k2s⟩ := shaped_kind hs
  have hcl := H.1
  have hk5 : p.kind = 0 ∨ p.kind = 1 ∨ p.kind = 2 ∨ p.kind = 3 ∨ p.kind = 4 := by omega
  have hkc : ∀ k ∈ p.kids, 0 ≤ k ∧ k < (bs.length : Int) := by rw [hcl]; exact hk
  suffices hh : (p.kind = 3 → andBS bs p.kids 0) ∧ BestOk no yes V m (bestStep no yes V p m ms2 bs) (fun a => evalStep a p (F a)) from
    ⟨⟨hkc, k2s, hh.1, fun e => ⟨(k4s e).2.1, (k4s e).2.2, (k4s e).1⟩, hh.2.small hV⟩, hh.2⟩
  unfold maskM at hm
  rcases hk5 with e | e | e | e | e
  · have hl := kz (by omega)
    rw [kl (by omega), hl] at hm
    simp only [maskGo, ownM, if_true, Option.some.injEq] at hm
    subst hm
    exact ⟨by omega, by unfold bestStep evalStep; simpa [e] using best_true⟩
  · have hl := kz (by omega)
    rw [kl (by omega), hl] at hm
    simp only [maskGo, ownM, if_true, Option.some.injEq] at hm
    subst hm
    exact ⟨by omega, by unfold bestStep evalStep; simpa [e] using best_false⟩
  · have hl := k2s e
    rw [kl (by omega)] at hm
    simp only [maskGo, ownM, if_neg hl.1, Option.some.injEq] at hm
    subst hm
    refine ⟨by omega, ?_⟩
    have hb := best_lit h1 h2 (decide (0 < p.lit)) (show p.lit.natAbs - 1 < V by omega)
    have hw : bestStep no yes V p (2 ^ (p.lit.natAbs - 1)) ms2 bs = (wOf no yes (p.lit.natAbs - 1) (decide (0 < p.lit)), true) := by
      unfold bestStep wOf
      rw [if_neg (by omega), if_pos e]
      by_cases hp : 0 < p.lit
      · rw [if_neg (by omega), if_pos (by simpa using hp)]
      · rw [if_pos (by omega), if_neg (by simpa using hp)]
    rw [hw]
    refine hb.ext fun a _ => ?_
    unfold evalStep
    simp [e]
  · have hl := kz (by omega)
    rw [hl, e] at hm
    rw [show ownM 0 = 0 from rfl] at hm
    obtain ⟨g1, g2⟩ := and_best hV H 0 p.kids 0 m (0, true) (fun _ => true) best_true hk hm
    refine ⟨fun _ => g1, ?_⟩
    unfold bestStep evalStep
    simpa [e] using g2
  · obtain ⟨hk2, hl1, hl2⟩ := k4s e
    obtain ⟨x, y, hxy⟩ := two_of hk2
    have hx := hk x (by simp [hxy])
    have hy := hk y (by simp [hxy])
    have ho : ownM p.lit = 2 ^ (p.lit.toNat - 1) := by unfold ownM; rw [if_neg (by omega), show p.lit.natAbs = p.lit.toNat by omega]
    rw [e, ho, hxy] at hm
    generalize hv : p.lit.toNat - 1 = v at *
    have hvV : v < V := by omega
    simp only [maskGo] at hm
    split at hm
    · cases hm
    rename_i hc1
    split at hm
    · cases hm
    rename_i hc2
    simp only [Option.some.injEq] at hm
    have hd1 : 2 ^ v &&& ms.getD x.toNat 0 = 0 := by
      by_cases he : 2 ^ v &&& ms.getD x.toNat 0 = 0
      · exact he
      · exact absurd (.inr ⟨trivial, he⟩) hc1
    have hd2 : 2 ^ v &&& ms.getD y.toNat 0 = 0 := by
      by_cases he : 2 ^ v &&& ms.getD y.toNat 0 = 0
      · exact he
      · exact absurd (.inr ⟨trivial, he⟩) hc2
    have g1 := H.2.2 x.toNat (by omega)
    have g2 := H.2.2 y.toNat (by omega)
    have hor := Nat.or_lt_two_pow g1.1 g2.1
    have hrest : restM p.lit m = ms.getD x.toNat 0 ||| ms.getD y.toNat 0 := by
      unfold restM
      rw [hv, ← hm, Nat.or_assoc]
      refine without_or _ _ (mask_small hV hor) (mask_small hV (Nat.pow_lt_pow_right (by decide) hvV)) (and_zero_iff.2 fun i hi hj => ?_)
      rw [Nat.testBit_or, Bool.or_eq_true] at hj
      rcases hj with hj | hj
      · exact and_zero_iff.1 hd1 i hi hj
      · exact and_zero_iff.1 hd2 i hi hj
    refine ⟨by omega, ?_⟩
    have hst : bestStep no yes V p m ms2 bs = decB no yes V v (restM p.lit m) ms2 bs 0 p.kids (0, false) := by unfold bestStep; simp [e, hv]
    rw [hst, hxy, decB_two, ← hm]
    have hg := best_ite h1 h2 g1 g2 hvV hd1 hd2 hV (candB no yes V v (restM p.lit m) ms2 bs 0 x) (candB no yes V v (restM p.lit m) ms2 bs 1 y)
      (by unfold candB; rw [hrest, hms x.toNat (by omega)]; simp) (by unfold candB; rw [hrest, hms y.toNat (by omega)]; simp)
    rw [hm]
    rw [hm] at hg
    refine hg.ext fun a _ => ?_
    rw [evalStep, hv, hxy]
    simp [e]
end Go.Proofs.Ytljljagkccmogaa
