/- Plain: the projected models of a diagram's formula are the assignments that make the diagram true. No program in sight. -/
import Derived.Test.YteadlkecngfcoaaGreatQh
import Derived.Test.YteadlkecngfcoaaGreatQu
import Derived.Test.YteadlkecngfcoaaGreatQ0
namespace Go.Proofs.YteadlkecngfcoaaGreat
open Go.RowKit
set_option linter.unusedVariables false

theorem Back.toB {ns : List Fork} (h : Back ns) : BackB 2 ns := fun j f hf => by
  have := h j f hf
  omega
/-! ### a clause of the writer -/
def litW (f : Int → Bool) (x : Int) : Bool := if x = 20001 then true else if x = -20001 then false else litR f x
theorem litW_neg (f : Int → Bool) {x : Int} (h : x ≠ 0) : litW f (-x) = !litW f x := by
  unfold litW
  by_cases h1 : x = 20001
  · rw [if_pos h1, if_neg (by omega), if_pos (by omega)]; rfl
  · by_cases h2 : x = -20001
    · rw [if_pos (by omega), if_neg h1, if_pos h2]; rfl
    · rw [if_neg (by omega), if_neg (by omega), if_neg h1, if_neg h2, litR_neg f h]
theorem addGo_ev (f : Int → Bool) : ∀ (l acc : List Int), (match addGo l acc with | none => true | some c => c.any (litR f)) = (acc.any (litR f) || l.any (litW f))
  | [], acc => by simp [addGo]
  | x :: r, acc => by
    rw [addGo]
    by_cases h1 : x = 20001
    · rw [if_pos h1]; simp [litW, h1]
    · rw [if_neg h1]
      by_cases h2 : x = -20001
      · rw [if_pos h2, addGo_ev f r acc]
        simp [litW, h2]
      · rw [if_neg h2, addGo_ev f r]
        simp [litW, h1, h2, Bool.or_assoc]
theorem addM_ev (f : Int → Bool) (l : List Int) : evR f (addM l) = l.any (litW f) := by
  have := addGo_ev f l []
  rw [List.any_nil, Bool.false_or] at this
  rw [← this]
  unfold addM evR
  split <;> simp_all
theorem evR_app (f : Int → Bool) (a b : List (List Int)) : evR f (a ++ b) = (evR f a && evR f b) := by unfold evR; rw [List.all_append]
theorem node4_ev (f : Int → Bool) {a x lo hi : Int} (h1 : a ≠ 0) (h2 : x ≠ 0) (h3 : lo ≠ 0) (h4 : hi ≠ 0) : evR f (node4 a x lo hi) = true ↔ litW f a = if litW f x = true then litW f hi else litW f lo := by
  unfold node4
  rw [evR_app, evR_app, evR_app, addM_ev, addM_ev, addM_ev, addM_ev]
  simp only [List.any_cons, List.any_nil, Bool.or_false]
  rw [litW_neg f h1, litW_neg f h2, litW_neg f h3, litW_neg f h4]
  generalize litW f a = p
  generalize litW f x = q
  generalize litW f lo = s
  generalize litW f hi = t
  cases p <;> cases q <;> cases s <;> cases t <;> decide
/-- the value of a reference in an assignment of the formula -/
def refV (f : Int → Bool) (vars r : Int) : Bool := if r = 0 then false else if r = 1 then true else f (vars + r - 1)
theorem litW_name (f : Int → Bool) {vars r : Int} (hv : 0 ≤ vars ∧ vars ≤ 40) (hr : 0 ≤ r ∧ r ≤ 5000) : litW f (nameM vars r) = refV f vars r := by
  unfold litW nameM refV
  by_cases h0 : r = 0
  · rw [if_pos h0, if_pos h0]; simp
  by_cases h1 : r = 1
  · rw [if_neg h0, if_neg h0, if_pos h1, if_pos h1]; simp
  rw [if_neg h0, if_neg h0, if_neg h1, if_neg h1, if_neg (by omega), if_neg (by omega), litR, if_pos (by omega)]
theorem name_ne {vars r : Int} (hv : 0 ≤ vars ∧ vars ≤ 40) (hr : 0 ≤ r) : nameM vars r ≠ 0 := by
  unfold nameM
  split
  · omega
  split <;> omega
theorem litW_pos (f : Int → Bool) {x : Int} (h : 0 < x ∧ x ≤ 10000) : litW f x = f x := by
  unfold litW
  rw [if_neg (by omega), if_neg (by omega), litR, if_pos h.1]
theorem nodes_ev (f : Int → Bool) {vars : Int} (hv : 0 ≤ vars ∧ vars ≤ 40) : ∀ (r : List Fork) (i : Nat), i + r.length ≤ 4096 → (∀ g ∈ r, (0 ≤ g.1 ∧ g.1 < vars) ∧ (0 ≤ g.2.1 ∧ g.2.1 ≤ 5000) ∧ (0 ≤ g.2.2 ∧ g.2.2 ≤ 5000)) →
    (evR f (nodesC vars r i) = true ↔ ∀ (j : Nat) (g : Fork), r[j]? = some g → f (vars + ((i + j : Nat) : Int) + 1) = if f (g.1 + 1) = true then refV f vars g.2.2 else refV f vars g.2.1)
  | [], i, _, _ => by simp [nodesC, evR]
  | g :: r, i, hl, hg => by
    rw [List.length_cons] at hl
    obtain ⟨g1, g2, g3⟩ := hg g (List.mem_cons_self ..)
    rw [nodesC, evR_app, Bool.and_eq_true, node4_ev f (by omega) (by omega) (name_ne hv g2.1) (name_ne hv g3.1), litW_name f hv g2, litW_name f hv g3, litW_pos f (by omega), litW_pos f (by omega),
      nodes_ev f hv r (i + 1) (by omega) fun x hx => hg x (List.mem_cons_of_mem _ hx)]
    constructor
    · rintro ⟨h1, h2⟩ j x hx
      rcases j with _ | j
      · simp at hx
        subst hx
        exact h1
      · have := h2 j x (by simpa using hx)
        rw [show i + (j + 1) = i + 1 + j by omega]
        exact this
    · intro h
      refine ⟨h 0 g (by simp), fun j x hx => ?_⟩
      rw [show i + 1 + j = i + (j + 1) by omega]
      exact h (j + 1) x (by simpa using hx)
/-- what a diagram of the right form has -/
def BddOk (vars root : Int) (ns : List Fork) : Prop := 0 ≤ vars ∧ vars ≤ 40 ∧ ns.length ≤ 4096 ∧ Back ns ∧ (0 ≤ root ∧ root ≤ 1 + ns.length) ∧ ∀ f ∈ ns, 0 ≤ f.1 ∧ f.1 < vars
theorem BddOk.refs {vars root : Int} {ns : List Fork} (h : BddOk vars root ns) : ∀ g ∈ ns, (0 ≤ g.1 ∧ g.1 < vars) ∧ (0 ≤ g.2.1 ∧ g.2.1 ≤ 5000) ∧ (0 ≤ g.2.2 ∧ g.2.2 ≤ 5000) := fun g hg => by
  obtain ⟨h1, h2, h3, h4, h5, h6⟩ := h
  obtain ⟨j, hj⟩ := List.getElem?_of_mem hg
  have hlt := (List.getElem?_eq_some_iff.1 hj).1
  have := h4 j g hj
  exact ⟨h6 g hg, ⟨by omega, by omega⟩, by omega, by omega⟩
def EqV (f : Int → Bool) (vars : Int) (ns : List Fork) : Prop := ∀ (j : Nat) (g : Fork), ns[j]? = some g → f (vars + j + 1) = if f (g.1 + 1) = true then refV f vars g.2.2 else refV f vars g.2.1
theorem bddC_ev (f : Int → Bool) {vars root : Int} {ns : List Fork} (h : BddOk vars root ns) : evR f (bddC vars root ns) = true ↔ EqV f vars ns ∧ refV f vars root = true := by
  have hr := h.refs
  obtain ⟨h1, h2, h3, h4, h5, h6⟩ := h
  unfold bddC
  rw [evR_app, Bool.and_eq_true, nodes_ev f ⟨h1, h2⟩ ns 0 (by omega) hr, addM_ev]
  simp only [List.any_cons, List.any_nil, Bool.or_false]
  rw [litW_name f ⟨h1, h2⟩ ⟨h5.1, by omega⟩]
  unfold EqV
  simp only [Nat.zero_add]
theorem refV_fol {f : Int → Bool} {vars : Int} {ns : List Fork} (hb : Back ns) (he : EqV f vars ns) : ∀ (k : Nat) (r : Int), 0 ≤ r → r ≤ 1 + ns.length → r < k → refV f vars r = decide (folV ns 2 (fun v => f (v + 1)) k r = 1)
  | 0, r, h0, h1, h2 => by omega
  | k + 1, r, h0, h1, h2 => by
    rw [folV]
    by_cases hr : r < 2
    · rw [if_pos hr]
      unfold refV
      by_cases e0 : r = 0
      · subst e0; rfl
      · have : r = 1 := by omega
        subst this; rfl
    · rw [if_neg hr]
      obtain ⟨g, hg⟩ : ∃ g, ns[(r - 2).toNat]? = some g := ⟨_, List.getElem?_eq_getElem (by omega)⟩
      rw [hg]
      simp only
      have hbk := hb _ g hg
      have h3 := he _ g hg
      rw [show vars + ((r - 2).toNat : Int) + 1 = vars + r - 1 by omega] at h3
      have : refV f vars r = f (vars + r - 1) := by unfold refV; rw [if_neg (by omega), if_neg (by omega)]
      rw [this, h3]
      split
      · exact refV_fol hb he k _ (by omega) (by omega) (by omega)
      · exact refV_fol hb he k _ (by omega) (by omega) (by omega)
/-- the diagram is true -/
def BddT (vars root : Int) (ns : List Fork) (f : Int → Bool) : Prop := folV ns 2 (fun v => f (v + 1)) (ns.length + 2) root = 1
theorem bdd_ext {vars root : Int} {ns : List Fork} (h : BddOk vars root ns) (f : Int → Bool) (hf : BddT vars root ns f) : ∃ g, evR g (bddC vars root ns) = true ∧ ∀ v, v ≤ vars → g v = f v := by
  obtain ⟨h1, h2, h3, h4, h5, h6⟩ := h
  refine ⟨fun v => if v ≤ vars then f v else decide (folV ns 2 (fun v => f (v + 1)) (ns.length + 2) (v - vars + 1) = 1), ?_, fun v hv => if_pos hv⟩
  rw [bddC_ev _ ⟨h1, h2, h3, h4, h5, h6⟩]
  have key : ∀ r : Int, 0 ≤ r → r ≤ 1 + ns.length → refV (fun v => if v ≤ vars then f v else decide (folV ns 2 (fun v => f (v + 1)) (ns.length + 2) (v - vars + 1) = 1)) vars r = decide (folV ns 2 (fun v => f (v + 1)) (ns.length + 2) r = 1) := fun r r0 r1 => by
    unfold refV
    by_cases e0 : r = 0
    · subst e0; simp [folV]
    by_cases e1 : r = 1
    · subst e1; simp [folV]
    rw [if_neg e0, if_neg e1]
    show (if vars + r - 1 ≤ vars then _ else _) = _
    rw [if_neg (by omega), show vars + r - 1 - vars + 1 = r by omega]
  constructor
  · intro j g hg
    have hj := (List.getElem?_eq_some_iff.1 hg).1
    have hbk := h4 j g hg
    have hv := h6 g (List.mem_of_getElem? hg)
    rw [key _ (show 0 ≤ g.2.2 by omega) (by omega), key _ (show 0 ≤ g.2.1 by omega) (by omega)]
    show (if vars + (j : Int) + 1 ≤ vars then _ else _) = if (if g.1 + 1 ≤ vars then _ else _) = true then _ else _
    rw [if_neg (show ¬ vars + (j : Int) + 1 ≤ vars by omega), if_pos (show g.1 + 1 ≤ vars by omega), show vars + (j : Int) + 1 - vars + 1 = 2 + j by omega]
    have : folV ns 2 (fun v => f (v + 1)) (ns.length + 2) (2 + (j : Int)) = folV ns 2 (fun v => f (v + 1)) (ns.length + 1) (if f (g.1 + 1) = true then g.2.2 else g.2.1) := by
      rw [folV, if_neg (by omega), show (2 + (j : Int) - 2).toNat = j by omega, hg]
    rw [this]
    split
    · rw [fol_fuel h4.toB _ (ns.length + 1) (ns.length + 2) _ (by omega) (by omega) (by omega)]
    · rw [fol_fuel h4.toB _ (ns.length + 1) (ns.length + 2) _ (by omega) (by omega) (by omega)]
  · rw [key _ h5.1 h5.2]
    exact decide_eq_true hf
/-! ### sums over assignments -/
def sumTo (F : Nat → Nat) : Nat → Nat
  | 0 => 0
  | n + 1 => sumTo F n + F n
theorem sumTo_add (F : Nat → Nat) (a : Nat) : ∀ b, sumTo F (a + b) = sumTo F a + sumTo (fun k => F (a + k)) b
  | 0 => rfl
  | b + 1 => by rw [← Nat.add_assoc, sumTo, sumTo_add F a b, sumTo, Nat.add_assoc]
theorem sumTo_congr {F G : Nat → Nat} : ∀ {n : Nat}, (∀ k, k < n → F k = G k) → sumTo F n = sumTo G n
  | 0, _ => rfl
  | n + 1, h => by rw [sumTo, sumTo, sumTo_congr fun k hk => h k (by omega), h n (by omega)]
open Classical in
theorem cnt_sum : ∀ (m : Nat) (a : Int) (C : (Int → Bool) → Prop), cntN C (ivl a m) = sumTo (fun k => if ∃ f, C f ∧ ∀ j : Nat, j < m → f (a + 1 + j) = k.testBit (m - 1 - j) then 1 else 0) (2 ^ m)
  | 0, a, C => by
    rw [ivl, cntN]
    show _ = 0 + (if ∃ f, C f ∧ ∀ j : Nat, j < 0 → f (a + 1 + j) = (0 : Nat).testBit (0 - 1 - j) then 1 else 0)
    rw [Nat.zero_add]
    by_cases h : ∃ f, C f
    · rw [if_pos h, if_pos]
      exact h.imp fun f hf => ⟨hf, fun j hj => by omega⟩
    · rw [if_neg h, if_neg]
      rintro ⟨f, hf, _⟩
      exact h ⟨f, hf⟩
  | m + 1, a, C => by
    rw [ivl, cntN, cnt_sum m, cnt_sum m, Nat.pow_succ, Nat.mul_two, sumTo_add, Nat.add_comm]
    have part : ∀ (b : Bool) (k q : Nat), (q.testBit m = b) → (∀ j, j < m → q.testBit (m - 1 - j) = k.testBit (m - 1 - j)) →
        ((∃ f, (C f ∧ f (a + 1) = b) ∧ ∀ j : Nat, j < m → f (a + 1 + 1 + j) = k.testBit (m - 1 - j)) ↔ ∃ f, C f ∧ ∀ j : Nat, j < m + 1 → f (a + 1 + j) = q.testBit (m + 1 - 1 - j)) := fun b k q hq hk => by
      constructor
      · rintro ⟨f, ⟨h1, h2⟩, h3⟩
        refine ⟨f, h1, fun j hj => ?_⟩
        rcases j with _ | j
        · rw [show m + 1 - 1 - 0 = m by omega, hq]
          simpa using h2
        · have := h3 j (by omega)
          rw [show m + 1 - 1 - (j + 1) = m - 1 - j by omega, hk j (by omega), ← this]
          congr 1
          omega
      · rintro ⟨f, h1, h3⟩
        refine ⟨f, ⟨h1, ?_⟩, fun j hj => ?_⟩
        · have := h3 0 (by omega)
          rw [show m + 1 - 1 - 0 = m by omega, hq] at this
          simpa using this
        · have := h3 (j + 1) (by omega)
          rw [show m + 1 - 1 - (j + 1) = m - 1 - j by omega, hk j (by omega)] at this
          rw [← this]
          congr 1
          omega
    congr 1
    · refine sumTo_congr fun k hk => ?_
      rw [part false k k (Nat.testBit_lt_two_pow hk) fun j hj => rfl]
    · refine sumTo_congr fun k hk => ?_
      rw [part true k (2 ^ m + k) (by rw [Nat.testBit_two_pow_add_eq, Nat.testBit_lt_two_pow hk]; rfl) fun j hj => Nat.testBit_two_pow_add_gt (by omega) k]
/-- the assignment of a list -/
def inF (inp : List Bool) : Int → Bool := fun v => inp.getD (v - 1).toNat false
theorem sat_fuel {ns : List Fork} {vars root : Int} (h : BddOk vars root ns) (n : Nat) (hn : vars = n) : cntN (fun f => evR f (bddC vars root ns) = true) (ivl 0 n) = sumTo (fun k => (folV ns 2 (fun v => (assM n k).getD v.toNat false) (ns.length + 2) root).toNat) (2 ^ n) := by
  rw [cnt_congr _ _ (BddT vars root ns), cnt_sum]
  · refine sumTo_congr fun k hk => ?_
    obtain ⟨h1, h2, h3, h4, h5, h6⟩ := h
    have he := fol_end h4.toB (fun v => (assM n k).getD v.toNat false) (ns.length + 2) root h5.1 (by omega) (by omega)
    have hc : ∀ f : Int → Bool, (∀ j : Nat, j < n → f (0 + 1 + j) = k.testBit (n - 1 - j)) → folV ns 2 (fun v => f (v + 1)) (ns.length + 2) root = folV ns 2 (fun v => (assM n k).getD v.toNat false) (ns.length + 2) root := fun f hf => by
      refine fol_congr (fun g hg => ?_) _ _
      have := h6 g hg
      have h7 := hf g.1.toNat (by omega)
      rw [show (0 : Int) + 1 + (g.1.toNat : Int) = g.1 + 1 by omega] at h7
      rw [h7]
      unfold assM
      rw [List.getD_eq_getElem?_getD, List.getElem?_map, List.getElem?_range (by omega)]
      rfl
    by_cases hx : folV ns 2 (fun v => (assM n k).getD v.toNat false) (ns.length + 2) root = 1
    · rw [if_pos, hx]; rfl
      refine ⟨inF (assM n k), ?_, fun j hj => ?_⟩
      · unfold BddT
        rw [hc, hx]
        intro j hj
        unfold inF assM
        rw [show ((0 : Int) + 1 + j - 1).toNat = j by omega, List.getD_eq_getElem?_getD, List.getElem?_map, List.getElem?_range hj]
        rfl
      · unfold inF assM
        rw [show ((0 : Int) + 1 + j - 1).toNat = j by omega, List.getD_eq_getElem?_getD, List.getElem?_map, List.getElem?_range hj]
        rfl
    · rw [if_neg]
      · omega
      · rintro ⟨f, hf, hj⟩
        unfold BddT at hf
        rw [hc f hj] at hf
        exact hx hf
  · intro f hf
    refine ⟨f, ?_, fun _ _ => rfl⟩
    obtain ⟨h7, h8⟩ := (bddC_ev f h).1 hf
    obtain ⟨h1, h2, h3, h4, h5, h6⟩ := h
    rw [refV_fol h4 h7 (ns.length + 2) root h5.1 h5.2 (by omega)] at h8
    unfold BddT
    exact of_decide_eq_true h8
  · intro f hf
    obtain ⟨g, hg, ha⟩ := bdd_ext h f hf
    refine ⟨g, hg, fun v hv => ha v ?_⟩
    rw [ivl_mem] at hv
    omega
/-! ### the variables of the formula -/
theorem addGo_no : ∀ (l acc c : List Int), addGo l acc = some c → ∀ x ∈ c, x ∈ acc ∨ (x ∈ l ∧ x ≠ 20001 ∧ x ≠ -20001)
  | [], acc, c, h, x, hx => by cases h; exact .inl hx
  | y :: r, acc, c, h, x, hx => by
    rw [addGo] at h
    split at h
    · cases h
    rename_i h1
    split at h
    · exact (addGo_no r acc c h x hx).imp id fun h => ⟨List.mem_cons_of_mem _ h.1, h.2⟩
    · rename_i h2
      rcases addGo_no r _ c h x hx with h3 | h3
      · rcases List.mem_append.1 h3 with h3 | h3
        · exact .inl h3
        · rw [List.mem_singleton] at h3
          subst h3
          exact .inr ⟨List.mem_cons_self .., h1, h2⟩
      · exact .inr ⟨List.mem_cons_of_mem _ h3.1, h3.2⟩
theorem addM_in {l c : List Int} (h : c ∈ addM l) : ∀ x ∈ c, x ∈ l ∧ x ≠ 20001 ∧ x ≠ -20001 := by
  unfold addM at h
  split at h
  · cases h
  · rename_i d hd
    rw [List.mem_singleton] at h
    subst h
    intro x hx
    rcases addGo_no _ _ _ hd x hx with h | h
    · cases h
    · exact h
def Lv (n : Int) (x : Int) : Prop := x = 20001 ∨ x = -20001 ∨ (x ≠ 0 ∧ varM x ≤ n)
theorem Lv.neg {n x : Int} (h : Lv n x) : Lv n (-x) := by
  unfold Lv at *
  rcases h with h | h | h
  · exact .inr (.inl (by omega))
  · exact .inl (by omega)
  · refine .inr (.inr ⟨by omega, ?_⟩)
    have := h.2
    unfold varM at *
    split at this <;> split <;> omega
theorem Lv.pos {n x : Int} (h0 : 0 < x) (h : x ≤ n) : Lv n x := .inr (.inr ⟨by omega, by unfold varM; split <;> omega⟩)
theorem Lv.name {n vars r : Int} (hv : 0 ≤ vars) (h0 : 0 ≤ r) (h : vars + r - 1 ≤ n) : Lv n (nameM vars r) := by
  unfold nameM
  split
  · exact .inr (.inl rfl)
  split
  · exact .inl rfl
  · exact Lv.pos (by omega) h
theorem addM_lv {n : Int} {l : List Int} (h : ∀ x ∈ l, Lv n x) : ∀ c ∈ addM l, ∀ x ∈ c, x ≠ 0 ∧ varM x ≤ n := fun c hc x hx => by
  obtain ⟨h1, h2, h3⟩ := addM_in hc x hx
  rcases h x h1 with h4 | h4 | h4
  · exact absurd h4 h2
  · exact absurd h4 h3
  · exact h4
theorem nodes_lv {vars n : Int} (hv : 0 ≤ vars ∧ vars ≤ n) : ∀ (r : List Fork) (i : Nat), vars + i + r.length ≤ n → (∀ g ∈ r, (0 ≤ g.1 ∧ g.1 < vars) ∧ (0 ≤ g.2.1 ∧ vars + g.2.1 - 1 ≤ n) ∧ (0 ≤ g.2.2 ∧ vars + g.2.2 - 1 ≤ n)) → ∀ c ∈ nodesC vars r i, ∀ x ∈ c, x ≠ 0 ∧ varM x ≤ n
  | [], i, _, _, c, hc => by cases hc
  | g :: r, i, hl, hg, c, hc => by
    rw [List.length_cons] at hl
    rw [nodesC] at hc
    obtain ⟨g1, g2, g3⟩ := hg g (List.mem_cons_self ..)
    rcases List.mem_append.1 hc with hc | hc
    · have ha : Lv n (vars + i + 1) := Lv.pos (by omega) (by omega)
      have hx : Lv n (g.1 + 1) := Lv.pos (by omega) (by omega)
      have h2 := Lv.name hv.1 g2.1 g2.2
      have h3 := Lv.name hv.1 g3.1 g3.2
      unfold node4 at hc
      simp only [List.mem_append] at hc
      rcases hc with hc | hc | hc | hc
      · refine addM_lv (fun x hx' => ?_) c hc
        simp only [List.mem_cons, List.not_mem_nil, or_false] at hx'
        rcases hx' with rfl | rfl | rfl
        · exact ha.neg
        · exact hx.neg
        · exact h3
      · refine addM_lv (fun x hx' => ?_) c hc
        simp only [List.mem_cons, List.not_mem_nil, or_false] at hx'
        rcases hx' with rfl | rfl | rfl
        · exact ha.neg
        · exact hx
        · exact h2
      · refine addM_lv (fun x hx' => ?_) c hc
        simp only [List.mem_cons, List.not_mem_nil, or_false] at hx'
        rcases hx' with rfl | rfl | rfl
        · exact h3.neg
        · exact hx.neg
        · exact ha
      · refine addM_lv (fun x hx' => ?_) c hc
        simp only [List.mem_cons, List.not_mem_nil, or_false] at hx'
        rcases hx' with rfl | rfl | rfl
        · exact h2.neg
        · exact hx
        · exact ha
    · exact nodes_lv hv r (i + 1) (by omega) (fun x hx => hg x (List.mem_cons_of_mem _ hx)) c hc
theorem bddC_lv {vars root : Int} {ns : List Fork} (h : BddOk vars root ns) : ∀ c ∈ bddC vars root ns, ∀ x ∈ c, x ≠ 0 ∧ varM x ≤ vars + ns.length := by
  obtain ⟨h1, h2, h3, h4, h5, h6⟩ := h
  intro c hc
  unfold bddC at hc
  rcases List.mem_append.1 hc with hc | hc
  · refine nodes_lv ⟨h1, by omega⟩ ns 0 (by omega) (fun g hg => ?_) c hc
    obtain ⟨j, hj⟩ := List.getElem?_of_mem hg
    have hlt := (List.getElem?_eq_some_iff.1 hj).1
    have := h4 j g hj
    exact ⟨h6 g hg, ⟨by omega, by omega⟩, by omega, by omega⟩
  · refine addM_lv (fun x hx => ?_) c hc
    simp only [List.mem_cons, List.not_mem_nil, or_false] at hx
    subst hx
    exact Lv.name h1 h5.1 (by omega)
theorem bddC_vs {vars root : Int} {ns : List Fork} (h : BddOk vars root ns) : Vs (ivl 0 (vars.toNat + ns.length)) (canM (bddC vars root ns)) := by
  intro c hc x hx
  obtain ⟨_, d, hd, rfl⟩ := canM_iff.1 hc
  rw [claM_iff] at hx
  obtain ⟨h1, h2⟩ := bddC_lv h d hd x hx
  refine ⟨h1, (ivl_mem _ _ _).2 ?_⟩
  have := h.1
  unfold varM at *
  split at h2 <;> split <;> omega
/-- the projected count -/
theorem bdd_count {ns : List Fork} {vars root : Int} (h : BddOk vars root ns) (n k : Nat) (hn : vars = n) (hk : n + ns.length < k) :
    cntM k (ivl 0 n) (canM (bddC vars root ns)) = sumTo (fun k => (folV ns 2 (fun v => (assM n k).getD v.toNat false) (ns.length + 2) root).toNat) (2 ^ n) := by
  have hvs := bddC_vs h
  have h2 := h.2.1
  have h3 := h.2.2.1
  rw [← sat_fuel h n hn, cnt_eq k _ (ivl 0 (vars.toNat + ns.length)) _ (canM_idem _) hvs (fun v hv => by rw [ivl_mem] at hv; omega) (by rw [ivl_len]; omega) (ivl_nodup _ _) (fun v hv => by rw [ivl_mem] at hv; omega)]
  refine cnt_congr _ _ _ (fun f hf => ⟨f, by rw [← evR_can]; exact hf, fun _ _ => rfl⟩) (fun f hf => ⟨f, by rw [evR_can]; exact hf, fun _ _ => rfl⟩)
end Go.Proofs.YteadlkecngfcoaaGreat
