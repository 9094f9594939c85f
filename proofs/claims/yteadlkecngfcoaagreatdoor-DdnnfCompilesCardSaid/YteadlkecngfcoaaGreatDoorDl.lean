/- Plain: the program's check and the statements' own check answer the same code. No program in sight. -/
import Derived.Test.YteadlkecngfcoaaGreatDoorDd
namespace Go.Proofs.YteadlkecngfcoaaGreatDoor

def RelM (V : Nat) (a : Nat) (m : List Bool) : Prop := m.length = V + 1 ∧ (∀ i, m.getD i false = (decide (1 ≤ i ∧ i ≤ V) && a.testBit (i - 1))) ∧ ∀ v, V ≤ v → a.testBit v = false

theorem getD_set (m : List Bool) (i j : Nat) (b : Bool) : (m.set i b).getD j false = if i = j ∧ i < m.length then b else m.getD j false := by
  simp only [List.getD, List.getElem?_set]
  by_cases h : i = j
  · subst h
    by_cases h2 : i < m.length <;> simp [h2]
  · simp [h]

theorem orGo_get : ∀ (row : List Bool) (v : Nat) (m : List Bool) (i : Nat), v + row.length ≤ m.length → (orGo row v m).getD i false = (m.getD i false || (decide (v ≤ i) && row.getD (i - v) false))
  | [], v, m, i, _ => by simp [orGo]
  | b :: r, v, m, i, h => by
    simp only [List.length_cons] at h
    rw [orGo, orGo_get r (v + 1) _ i (by simp; omega), getD_set]
    by_cases h1 : v = i
    · subst h1
      rw [if_pos ⟨rfl, by omega⟩]
      simp
      intro h2; omega
    · rw [if_neg (fun hh => h1 hh.1)]
      by_cases h2 : v ≤ i
      · have h3 : v + 1 ≤ i := by omega
        have h4 : i - v = (i - (v + 1)) + 1 := by omega
        simp [h2, h3, h4]
      · have h3 : ¬ v + 1 ≤ i := by omega
        simp [h2, h3]
theorem andGo_get : ∀ (row : List Bool) (v : Nat) (m : List Bool) (i : Nat), v + row.length ≤ m.length → (andGo 3 row v m).getD i false = (m.getD i false || (decide (v ≤ i) && row.getD (i - v) false))
  | [], v, m, i, _ => by simp [andGo]
  | b :: r, v, m, i, h => by
    simp only [List.length_cons] at h
    have hlen : (if b = true ∧ (3 : Int) = 3 then m.set v true else m).length = m.length := by split <;> simp
    rw [andGo, andGo_get r (v + 1) _ i (by rw [hlen]; omega)]
    have e : (if b = true ∧ (3 : Int) = 3 then m.set v true else m).getD i false = (m.getD i false || (decide (v = i) && b)) := by
      cases b
      · simp
      · simp only [and_self, if_true]
        rw [getD_set]
        by_cases h1 : v = i
        · subst h1; rw [if_pos ⟨rfl, by omega⟩]; simp
        · rw [if_neg (fun hh => h1 hh.1)]; simp [h1]
    rw [e]
    by_cases h1 : v = i
    · subst h1
      have : ¬ (v + 1 ≤ v) := by omega
      simp [this]
    · by_cases h2 : v ≤ i
      · have h3 : v + 1 ≤ i := by omega
        have h4 : i - v = (i - (v + 1)) + 1 := by omega
        simp [h1, h2, h3, h4]
      · have h3 : ¬ v + 1 ≤ i := by omega
        simp [h1, h2, h3]
theorem andGo_other (kind : Int) (hk : kind ≠ 3) : ∀ (row : List Bool) (v : Nat) (m : List Bool), andGo kind row v m = m
  | [], _, _ => rfl
  | b :: r, v, m => by rw [andGo, andGo_other kind hk r]; simp [hk]
theorem clash_iff (kind lit : Int) (m : List Bool) : ∀ (row : List Bool) (v : Nat), clash kind lit m row v = true ↔ ∃ j, row.getD j false = true ∧ m.getD (v + j) false = true ∧ (kind = 3 ∨ ((v + j : Nat) : Int) = lit)
  | [], v => by simp [clash]
  | b :: r, v => by
    simp only [clash, Bool.or_eq_true, Bool.and_eq_true, decide_eq_true_eq]
    rw [clash_iff kind lit m r (v + 1)]
    constructor
    · rintro (⟨⟨h1, h2⟩, h3⟩ | ⟨j, h1, h2, h3⟩)
      · exact ⟨0, by simpa using h1, by simpa using h2, by simpa using h3⟩
      · exact ⟨j + 1, by simpa using h1, by rw [show v + (j + 1) = v + 1 + j by omega]; exact h2, by rw [show v + (j + 1) = v + 1 + j by omega]; exact h3⟩
    · rintro ⟨j, h1, h2, h3⟩
      cases j with
      | zero => exact .inl ⟨⟨by simpa using h1, by simpa using h2⟩, by simpa using h3⟩
      | succ j => exact .inr ⟨j, by simpa using h1, by rw [show v + 1 + j = v + (j + 1) by omega]; exact h2, by rw [show v + 1 + j = v + (j + 1) by omega]; exact h3⟩

theorem RelM.or {V a b : Nat} {m row : List Bool} (hm : RelM V a m) (hr : RelM V b row) : RelM V (a ||| b) (orGo row 0 m) := by
  refine ⟨by rw [orGo_len]; exact hm.1, fun i => ?_, fun v hv => by rw [Nat.testBit_or, hm.2.2 v hv, hr.2.2 v hv]; rfl⟩
  rw [orGo_get row 0 m i (by rw [hm.1, hr.1]; omega), hm.2.1, Nat.sub_zero, hr.2.1, Nat.testBit_or]
  cases decide (1 ≤ i ∧ i ≤ V) <;> simp
theorem RelM.and {V a b : Nat} {m row : List Bool} (hm : RelM V a m) (hr : RelM V b row) : RelM V (a ||| b) (andGo 3 row 0 m) := by
  refine ⟨by rw [andGo_len]; exact hm.1, fun i => ?_, fun v hv => by rw [Nat.testBit_or, hm.2.2 v hv, hr.2.2 v hv]; rfl⟩
  rw [andGo_get row 0 m i (by rw [hm.1, hr.1]; omega), hm.2.1, Nat.sub_zero, hr.2.1, Nat.testBit_or]
  cases decide (1 ≤ i ∧ i ≤ V) <;> simp
theorem and_ne_zero {a b : Nat} : a &&& b ≠ 0 ↔ ∃ v, a.testBit v = true ∧ b.testBit v = true := by
  constructor
  · intro h
    obtain ⟨i, hi⟩ := Nat.exists_testBit_of_ne_zero h
    rw [Nat.testBit_and, Bool.and_eq_true] at hi
    exact ⟨i, hi⟩
  · rintro ⟨v, h1, h2⟩ h
    have := Nat.testBit_and a b v
    rw [h, h1, h2] at this
    simp at this
theorem RelM.clash3 {V a b : Nat} {m row : List Bool} {lit : Int} (hm : RelM V a m) (hr : RelM V b row) : clash 3 lit m row 0 = true ↔ a &&& b ≠ 0 := by
  rw [clash_iff, and_ne_zero]
  constructor
  · rintro ⟨j, h1, h2, _⟩
    rw [Nat.zero_add, hm.2.1, Bool.and_eq_true] at h2
    rw [hr.2.1, Bool.and_eq_true] at h1
    exact ⟨_, h2.2, h1.2⟩
  · rintro ⟨v, h1, h2⟩
    have hv : v < V := by
      rcases Nat.lt_or_ge v V with h | h
      · exact h
      · rw [hm.2.2 v h] at h1; cases h1
    refine ⟨v + 1, ?_, ?_, .inl rfl⟩
    · rw [hr.2.1]; simp [h2]; omega
    · rw [Nat.zero_add, hm.2.1]; simp [h1]; omega
theorem own_testBit (lit : Int) (h : 1 ≤ lit) (v : Nat) : (ownM lit).testBit v = decide (v + 1 = lit.toNat) := by
  unfold ownM
  rw [if_neg (by omega), Nat.testBit_two_pow]
  congr 1
  apply propext
  omega
theorem RelM.clash4 {V b : Nat} {m row : List Bool} {lit : Int} (h1 : 1 ≤ lit) (h2 : lit ≤ V) (hm : RelM V (ownM lit) m) (hr : RelM V b row) : clash 4 lit m row 0 = true ↔ ownM lit &&& b ≠ 0 := by
  rw [clash_iff, and_ne_zero]
  constructor
  · rintro ⟨j, g1, g2, g3⟩
    rw [Nat.zero_add, hm.2.1, Bool.and_eq_true] at g2
    rw [hr.2.1, Bool.and_eq_true] at g1
    exact ⟨_, g2.2, g1.2⟩
  · rintro ⟨v, g1, g2⟩
    have g3 := g1
    rw [own_testBit lit h1, decide_eq_true_eq] at g3
    refine ⟨v + 1, ?_, ?_, .inr (by omega)⟩
    · rw [hr.2.1]; simp [g2]; omega
    · rw [Nat.zero_add, hm.2.1]; simp [g1]; omega
theorem rel_zero (V : Nat) : RelM V 0 (List.replicate (V + 1) false) := by
  refine ⟨by simp, fun i => ?_, by simp⟩
  simp only [Nat.zero_testBit, Bool.and_false, List.getD, List.getElem?_replicate]
  split <;> rfl
theorem rel_own (V : Nat) (lit : Int) (h0 : lit ≠ 0) (h1 : -(V : Int) ≤ lit) (h2 : lit ≤ V) : RelM V (ownM lit) ((List.replicate (V + 1) false).set lit.natAbs true) := by
  have hb : ∀ v, (ownM lit).testBit v = decide (v + 1 = lit.natAbs) := by
    intro v
    unfold ownM
    rw [if_neg h0, Nat.testBit_two_pow]
    congr 1
    apply propext
    omega
  refine ⟨by simp, fun i => ?_, fun v hv => ?_⟩
  · rw [getD_set, hb]
    have := (rel_zero V).2.1 i
    simp only [Nat.zero_testBit, Bool.and_false] at this
    by_cases h : lit.natAbs = i
    · subst h
      rw [if_pos ⟨rfl, by simp; omega⟩]
      simp
      omega
    · rw [if_neg (fun hh => h hh.1), this]
      symm
      simp only [Bool.and_eq_false_iff, decide_eq_false_iff_not]
      omega
  · rw [hb]; simp; omega

/-- the rows of all earlier parts -/
def RelMs (V : Nat) (ms : List Nat) (mss : List (List Bool)) : Prop := ms.length = mss.length ∧ ∀ (i : Nat) a m, ms[i]? = some a → mss[i]? = some m → RelM V a m
theorem RelMs.get {V : Nat} {ms : List Nat} {mss : List (List Bool)} (h : RelMs V ms mss) {k : Nat} (hk : k < ms.length) : RelM V (ms.getD k 0) (mss.getD k []) := by
  have h2 : k < mss.length := by rw [← h.1]; exact hk
  simp only [List.getD, List.getElem?_eq_getElem hk, List.getElem?_eq_getElem h2, Option.getD_some]
  exact h.2 k _ _ (List.getElem?_eq_getElem hk) (List.getElem?_eq_getElem h2)
theorem RelMs.push {V : Nat} {ms : List Nat} {mss : List (List Bool)} (h : RelMs V ms mss) {a : Nat} {m : List Bool} (hr : RelM V a m) : RelMs V (ms ++ [a]) (mss ++ [m]) := by
  refine ⟨by simp [h.1], fun i x y hx hy => ?_⟩
  rcases Nat.lt_or_ge i ms.length with hi | hi
  · rw [List.getElem?_append_left hi] at hx
    rw [List.getElem?_append_left (by rw [← h.1]; exact hi)] at hy
    exact h.2 i x y hx hy
  · rw [List.getElem?_append_right hi] at hx
    rw [List.getElem?_append_right (by rw [← h.1]; exact hi)] at hy
    rw [← h.1] at hy
    rcases hk : i - ms.length with _ | k
    · rw [hk] at hx hy; simp at hx hy; subst hx hy; exact hr
    · rw [hk] at hx; simp at hx

/-- the union of the kids' variables -/
def unionGo (ms : List Nat) : List Int → Nat → Nat
  | [], a => a
  | k :: r, a => unionGo ms r (a ||| ms.getD k.toNat 0)
theorem kids2_rel {V : Nat} {ms : List Nat} {mss : List (List Bool)} (h : RelMs V ms mss) : ∀ (ks : List Int) (a : Nat) (m : List Bool), (∀ k ∈ ks, 0 ≤ k ∧ k < ms.length) → RelM V a m → RelM V (unionGo ms ks a) (kids2 mss ks m)
  | [], a, m, _, hr => hr
  | k :: r, a, m, hk, hr => by
    have hk0 := hk k (by simp)
    exact kids2_rel h r _ _ (fun x hx => hk x (by simp [hx])) (hr.or (h.get (k := k.toNat) (by omega)))
theorem union_idem {ms : List Nat} : ∀ (ks : List Int) (a b : Nat), unionGo ms ks (a ||| b) = a ||| unionGo ms ks b
  | [], a, b => rfl
  | k :: r, a, b => by rw [unionGo, unionGo, Nat.or_assoc, union_idem r]
theorem union_twice {ms : List Nat} : ∀ (ks : List Int) (a : Nat), unionGo ms ks (unionGo ms ks a) = unionGo ms ks a
  | [], a => rfl
  | k :: r, a => by
    have e : ∀ (ks : List Int) (a : Nat), a ||| unionGo ms ks a = unionGo ms ks a := by
      intro ks
      induction ks with
      | nil => intro a; simp [unionGo]
      | cons k r ih => intro a; rw [unionGo, ← ih (a ||| ms.getD k.toNat 0), ← Nat.or_assoc, ← Nat.or_assoc, Nat.or_self]
    simp only [unionGo]
    have h1 := union_idem (ms := ms) r (ms.getD k.toNat 0) a
    rw [Nat.or_comm] at h1
    rw [h1, show ms.getD k.toNat 0 ||| unionGo ms r a ||| ms.getD k.toNat 0 = ms.getD k.toNat 0 ||| unionGo ms r a by rw [Nat.or_comm, ← Nat.or_assoc, Nat.or_self], union_idem, union_twice r]

/-- conjunctions -/
theorem kids3 {V : Nat} {ms : List Nat} {mss : List (List Bool)} (h : RelMs V ms mss) {own : Nat} : ∀ (ks : List Int) (a : Nat) (m : List Bool), (∀ k ∈ ks, 0 ≤ k ∧ k < ms.length) → RelM V a m →
    (maskGo 3 own ms ks a = none ∧ kids1 3 0 mss ks m = none) ∨ (maskGo 3 own ms ks a = some (unionGo ms ks a) ∧ ∃ m', kids1 3 0 mss ks m = some m' ∧ RelM V (unionGo ms ks a) m')
  | [], a, m, _, hr => .inr ⟨rfl, m, rfl, hr⟩
  | k :: r, a, m, hk, hr => by
    have hk0 := hk k (by simp)
    have hrow := h.get (k := k.toNat) (by omega)
    have hc := hr.clash3 (lit := 0) hrow
    by_cases hz : a &&& ms.getD k.toNat 0 = 0
    · have hc2 : clash 3 0 m (mss.getD k.toNat []) 0 = false := by
        rw [Bool.eq_false_iff]; intro hh; exact (hc.1 hh) hz
      simp only [maskGo, kids1, hc2, unionGo]
      rw [if_neg (by simp only [List.getD] at hz ⊢; simp [hz])]
      exact kids3 h r _ _ (fun x hx => hk x (by simp [hx])) (hr.and hrow)
    · left
      have hc2 := hc.2 hz
      simp only [maskGo, kids1, hc2]
      refine ⟨if_pos (.inl ⟨trivial, hz⟩), ?_⟩
      first | trivial | rfl
/-- decisions -/
theorem kids4 {V : Nat} {ms : List Nat} {mss : List (List Bool)} (h : RelMs V ms mss) {lit : Int} (h1 : 1 ≤ lit) (h2 : lit ≤ V) {m : List Bool} (hr : RelM V (ownM lit) m) : ∀ (ks : List Int) (a : Nat), (∀ k ∈ ks, 0 ≤ k ∧ k < ms.length) →
    (maskGo 4 (ownM lit) ms ks a = none ∧ kids1 4 lit mss ks m = none) ∨ (maskGo 4 (ownM lit) ms ks a = some (unionGo ms ks a) ∧ kids1 4 lit mss ks m = some m)
  | [], a, _ => .inr ⟨rfl, rfl⟩
  | k :: r, a, hk => by
    have hk0 := hk k (by simp)
    have hrow := h.get (k := k.toNat) (by omega)
    have hc := RelM.clash4 h1 h2 hr hrow
    by_cases hz : ownM lit &&& ms.getD k.toNat 0 = 0
    · have hc2 : clash 4 lit m (mss.getD k.toNat []) 0 = false := by
        rw [Bool.eq_false_iff]; intro hh; exact (hc.1 hh) hz
      simp only [maskGo, kids1, hc2, unionGo, andGo_other 4 (by decide)]
      rw [if_neg (by simp only [List.getD] at hz ⊢; simp [hz])]
      exact kids4 h h1 h2 hr r _ (fun x hx => hk x (by simp [hx]))
    · left
      have hc2 := hc.2 hz
      simp only [maskGo, kids1, hc2]
      refine ⟨if_pos (.inr ⟨trivial, hz⟩), ?_⟩
      first | trivial | rfl

theorem bad1_iff (kind lit : Int) (n : Nat) : bad1 kind lit n = true ↔ (kind < 0 ∨ 4 < kind ∨ ((kind = 0 ∨ kind = 1 ∨ kind = 2) ∧ 0 < n) ∨ ((kind = 0 ∨ kind = 1 ∨ kind = 3) ∧ lit ≠ 0) ∨ (kind = 4 ∧ n ≠ 2)) := by
  simp only [bad1, leafB, namesB, Bool.or_eq_true, Bool.and_eq_true, Bool.not_eq_true', Bool.or_eq_false_iff, beq_eq_false_iff_ne, bne_iff_ne, beq_iff_eq, decide_eq_true_eq]
  by_cases hl : lit = 0 <;> by_cases h0 : kind = 0 <;> by_cases h1 : kind = 1 <;> by_cases h2 : kind = 2 <;> by_cases h3 : kind = 3 <;> by_cases h4 : kind = 4 <;> simp_all <;> omega
theorem bad2_iff (kind lit vars : Int) : bad2 kind lit vars = true ↔ ((kind = 2 ∧ (lit = 0 ∨ lit < -vars ∨ vars < lit)) ∨ (kind = 4 ∧ (lit = 0 ∨ lit < 0 ∨ lit < -vars ∨ vars < lit))) := by
  simp only [bad2, namesB, Bool.or_eq_true, Bool.and_eq_true, beq_iff_eq, decide_eq_true_eq]
  omega
/-- what checked answers of one part -/
def partC (V : Nat) (ms : List Nat) (p : Part) : Int × Nat :=
  if shapedM p V ≠ 0 then (shapedM p V, 0) else if p.kids.any (fun k => decide (k < 0 ∨ (ms.length : Int) ≤ k)) then (10, 0) else match maskM p ms with | none => (2, 0) | some m => (0, m)
theorem partC_shape {V : Nat} {ms : List Nat} {p : Part} {c : Int} (h : shapedM p V = c) (hc : c ≠ 0) : partC V ms p = (c, 0) := by
  unfold partC; rw [if_pos (by rw [h]; exact hc), h]
theorem partC_order {V : Nat} {ms : List Nat} {p : Part} (h : shapedM p V = 0) (ha : p.kids.any (fun k => decide (k < 0 ∨ (ms.length : Int) ≤ k)) = true) : partC V ms p = (10, 0) := by
  unfold partC; rw [if_neg (by rw [h]; decide), if_pos ha]
theorem partC_mask {V : Nat} {ms : List Nat} {p : Part} (h : shapedM p V = 0) (ha : p.kids.any (fun k => decide (k < 0 ∨ (ms.length : Int) ≤ k)) = false) : partC V ms p = match maskM p ms with | none => (2, 0) | some m => (0, m) := by
  unfold partC; rw [if_neg (by rw [h]; decide), if_neg (by rw [ha]; decide)]

theorem part_eq {V : Nat} {ms : List Nat} {mss : List (List Bool)} (h : RelMs V ms mss) (p : Part) :
    (partM V mss p).1 = (partC V ms p).1 ∧ ((partC V ms p).1 = 0 → RelM V (partC V ms p).2 (partM V mss p).2) := by
  obtain ⟨kind, lit, kids⟩ := p
  have b1 := bad1_iff kind lit kids.length
  have b2 := bad2_iff kind lit V
  by_cases c1 : (kind < 0 ∨ 4 < kind ∨ ((kind = 0 ∨ kind = 1 ∨ kind = 2) ∧ 0 < kids.length) ∨ ((kind = 0 ∨ kind = 1 ∨ kind = 3) ∧ lit ≠ 0) ∨ (kind = 4 ∧ kids.length ≠ 2))
  · have e : shapedM ⟨kind, lit, kids⟩ V = 1 := by unfold shapedM shapedK; rw [if_pos c1]
    rw [partC_shape e (by decide), show partM V mss ⟨kind, lit, kids⟩ = (1, []) by unfold partM; rw [if_pos (b1.2 c1)]]
    exact ⟨rfl, fun h => by cases h⟩
  have hb1 : ¬ bad1 kind lit kids.length = true := fun hh => c1 (b1.1 hh)
  by_cases c2 : (kind = 2 ∧ (lit = 0 ∨ lit < -(V : Int) ∨ (V : Int) < lit)) ∨ (kind = 4 ∧ (lit < 1 ∨ (V : Int) < lit))
  · have e : shapedM ⟨kind, lit, kids⟩ V = 3 := by unfold shapedM shapedK; rw [if_neg c1, if_pos c2]
    rw [partC_shape e (by decide), show partM V mss ⟨kind, lit, kids⟩ = (3, []) by unfold partM; rw [if_neg hb1, if_pos (b2.2 (by omega))]]
    exact ⟨rfl, fun h => by cases h⟩
  have hb2 : ¬ bad2 kind lit V = true := by intro hh; have := b2.1 hh; omega
  have e : shapedM ⟨kind, lit, kids⟩ V = 0 := by unfold shapedM shapedK; rw [if_neg c1, if_neg c2]
  rcases ha : kids.any (fun k => decide (k < 0 ∨ (ms.length : Int) ≤ k)) with _ | _
  case true =>
    rw [partC_order e ha, show partM V mss ⟨kind, lit, kids⟩ = (10, []) by unfold partM; rw [if_neg hb1, if_neg hb2, if_pos (by rw [← h.1]; exact ha)]]
    exact ⟨rfl, fun h => by cases h⟩
  case false =>
  have hk : ∀ k ∈ kids, 0 ≤ k ∧ k < ms.length := by
    intro k hk
    have := List.any_eq_false.1 ha k hk
    simp at this
    omega
  rw [partC_mask e ha]
  have hpm : partM V mss ⟨kind, lit, kids⟩ = match kids1 kind lit mss kids (if namesB kind then (List.replicate (V + 1) false).set lit.natAbs true else List.replicate (V + 1) false) with | none => (2, []) | some m => (0, kids2 mss kids m) := by
    unfold partM; rw [if_neg hb1, if_neg hb2, if_neg (by rw [← h.1]; simp only [ha]; decide)]; rfl
  rw [hpm]
  have hcase : (kids = [] ∧ lit = 0 ∧ (kind = 0 ∨ kind = 1)) ∨ (kids = [] ∧ kind = 2 ∧ lit ≠ 0 ∧ -(V : Int) ≤ lit ∧ lit ≤ V) ∨ (kind = 3 ∧ lit = 0) ∨ (kind = 4 ∧ 1 ≤ lit ∧ lit ≤ V) := by
    have hl : kids.length = 0 → kids = [] := List.eq_nil_of_length_eq_zero
    by_cases hn : kids.length = 0
    · have := hl hn
      simp only [this, true_and]
      omega
    · omega
  clear hpm b1 b2 c1 c2 hb1 hb2 e
  rcases hcase with ⟨rfl, rfl, h01⟩ | ⟨rfl, rfl, h0, h1, h2⟩ | ⟨rfl, rfl⟩ | ⟨rfl, h1, h2⟩
  · have hn : namesB kind = false := by rcases h01 with rfl | rfl <;> rfl
    rw [hn]
    exact ⟨rfl, fun _ => rel_zero V⟩
  · exact ⟨rfl, fun _ => rel_own V lit h0 h1 h2⟩
  · have hh := kids3 h (own := ownM 0) kids 0 _ hk (rel_zero V)
    have e0 : maskM ⟨3, 0, kids⟩ ms = maskGo 3 (ownM 0) ms kids 0 := rfl
    have e3 : kids1 3 0 mss kids (if namesB 3 then (List.replicate (V + 1) false).set (Int.natAbs 0) true else List.replicate (V + 1) false) = kids1 3 0 mss kids (List.replicate (V + 1) false) := rfl
    rw [e0, e3]
    rcases hh with ⟨e1, e2⟩ | ⟨e1, m', e2, e4⟩
    · rw [e1, e2]; exact ⟨rfl, fun h => by cases h⟩
    · rw [e1, e2]
      refine ⟨rfl, fun _ => ?_⟩
      have := kids2_rel h kids _ _ hk e4
      rw [union_twice] at this
      exact this
  · have hr := rel_own V lit (by omega) (by omega) h2
    have hh := kids4 h h1 h2 hr kids (ownM lit) hk
    have e0 : maskM ⟨4, lit, kids⟩ ms = maskGo 4 (ownM lit) ms kids (ownM lit) := rfl
    have e3 : kids1 4 lit mss kids (if namesB 4 then (List.replicate (V + 1) false).set lit.natAbs true else List.replicate (V + 1) false) = kids1 4 lit mss kids ((List.replicate (V + 1) false).set lit.natAbs true) := rfl
    rw [e0, e3]
    rcases hh with ⟨e1, e2⟩ | ⟨e1, e2⟩
    · rw [e1, e2]; exact ⟨rfl, fun h => by cases h⟩
    · rw [e1, e2]
      exact ⟨rfl, fun _ => kids2_rel h kids _ _ hk hr⟩

theorem go_eq (V : Nat) : ∀ (ps : List Part) (ms : List Nat) (mss : List (List Bool)), RelMs V ms mss → (checkedGo V ps ms).1 = checkLGo V ps mss
  | [], ms, mss, _ => rfl
  | p :: r, ms, mss, h => by
    have hp := part_eq h p
    simp only [checkedGo, checkLGo]
    by_cases h1 : shapedM p V ≠ 0
    · rw [partC_shape rfl h1] at hp
      rw [if_pos h1, hp.1, if_pos h1]
    · have h1' : shapedM p V = 0 := by simpa using h1
      rw [if_neg h1]
      by_cases h2 : (p.kids.any fun k => decide (k < 0 ∨ (ms.length : Int) ≤ k)) = true
      · rw [partC_order h1' h2] at hp
        rw [if_pos h2, hp.1]; simp
      · rw [partC_mask h1' (by simpa using h2)] at hp
        rw [if_neg h2]
        cases hm : maskM p ms with
        | none =>
          rw [hm] at hp
          simp only at hp ⊢
          rw [hp.1]; simp
        | some m =>
          rw [hm] at hp
          simp only at hp ⊢
          rw [if_neg (by rw [hp.1]; simp)]
          exact go_eq V r _ _ (h.push (hp.2 trivial))
theorem check_eq (d : Dnnf) : (checkedM d).1 = checkL d := by
  unfold checkedM checkL
  by_cases h1 : d.vars < 0
  · rw [if_pos h1, if_pos h1]
  rw [if_neg h1, if_neg h1]
  by_cases h2 : 40 < d.vars ∨ 16384 < d.parts.length
  · rw [if_pos h2, if_pos h2]
  rw [if_neg h2, if_neg h2]
  by_cases h3 : d.parts.length = 0
  · rw [if_pos h3, if_pos h3]
  rw [if_neg h3, if_neg h3]
  have := go_eq d.vars.toNat d.parts [] [] ⟨rfl, by simp⟩
  rw [show ((d.vars.toNat : Nat) : Int) = d.vars by omega] at this
  exact this
end Go.Proofs.YteadlkecngfcoaaGreatDoor
