/- Plain: cheap is the least cost of a model; and how the least model of that cost is found. No program in sight. -/
import Derived.Test.YtljljagkccmogaaEp
import Derived.Test.YtljljagkccmogaaMd
namespace Go.Proofs.Ytljljagkccmogaa

theorem all_best {no yes : List Int} {V : Nat} (h1 : CostOk V no) (h2 : CostOk V yes) (hV : V ≤ 40) : ∀ (ps : List Part) (ms M : List Nat) (bs : List Best) (F : List Bool → List Bool), checkedGo V ps ms = (0, M) → AllBest no yes V ms bs F →
    (M.length = ms.length + ps.length ∧ ∀ i, i < ms.length → M.getD i 0 = ms.getD i 0) ∧ cheapS no yes V M ps bs ∧ AllBest no yes V M (cheapGo no yes V M ps bs) (fun a => evalGo a ps (F a))
  | [], ms, M, bs, F, h, H => by
    simp only [checkedGo, Prod.mk.injEq, true_and] at h
    subst h
    exact ⟨⟨rfl, fun _ _ => rfl⟩, trivial, H⟩
  | p :: r, ms, M, bs, F, h, H => by
    simp only [checkedGo] at h
    by_cases g1 : shapedM p V ≠ 0
    · rw [if_pos g1] at h; simp only [Prod.mk.injEq] at h; exact absurd h.1 g1
    rw [if_neg g1] at h
    by_cases g2 : (p.kids.any fun k => decide (k < 0 ∨ (ms.length : Int) ≤ k)) = true
    · rw [if_pos g2] at h; simp at h
    rw [if_neg g2] at h
    have hk : ∀ k ∈ p.kids, 0 ≤ k ∧ k < (ms.length : Int) := by
      intro k hk
      have := List.any_eq_false.1 (Bool.eq_false_iff.2 g2) k hk
      simp at this
      omega
    cases hm : maskM p ms with
    | none => rw [hm] at h; simp at h
    | some m =>
      rw [hm] at h
      simp only at h
      have step : ∀ ms2, (∀ i, i < ms.length → ms2.getD i 0 = ms.getD i 0) → partBS no yes V p m ms2 bs ∧ AllBest no yes V (ms ++ [m]) (bs ++ [bestStep no yes V p m ms2 bs]) (fun a => F a ++ [evalStep a p (F a)]) := by
        intro ms2 hms2
        obtain ⟨q1, q2⟩ := part_best h1 h2 hV H ms2 hms2 (by simpa using g1) hk hm
        refine ⟨q1, by simp [H.1], fun a ha => by simp [H.2.1 a ha], fun i hi => ?_⟩
        rw [getD_snoc, getD_snoc, H.1]
        by_cases hil : i < ms.length
        · rw [if_pos hil, if_pos hil]
          refine (H.2.2 i hil).ext fun a ha => ?_
          rw [getD_snoc, H.2.1 a ha, if_pos hil]
        · have : i = ms.length := by simp at hi; omega
          subst this
          rw [if_neg hil, if_pos rfl, if_neg hil, if_pos rfl]
          refine q2.ext fun a ha => ?_
          rw [getD_snoc, H.2.1 a ha, if_neg hil, if_pos rfl]
      have hpre := (all_best h1 h2 hV r (ms ++ [m]) M (bs ++ [bestStep no yes V p m ms bs]) (fun a => F a ++ [evalStep a p (F a)]) h (step ms fun _ _ => rfl).2).1
      have hM : ∀ i, i < ms.length → M.getD i 0 = ms.getD i 0 := fun i hi => by
        rw [hpre.2 i (by simp; omega), getD_snoc, if_pos hi]
      have hMm : M.getD bs.length 0 = m := by
        rw [H.1, hpre.2 ms.length (by simp), getD_snoc, if_neg (by omega), if_pos rfl]
      obtain ⟨q1, q2⟩ := step M hM
      obtain ⟨_, s1, s2⟩ := all_best h1 h2 hV r (ms ++ [m]) M (bs ++ [bestStep no yes V p m M bs]) (fun a => F a ++ [evalStep a p (F a)]) h q2
      refine ⟨⟨by rw [hpre.1]; simp; omega, hM⟩, ?_, ?_⟩
      · rw [cheapS, hMm]; exact ⟨q1, s1⟩
      · rw [cheapGo, hMm]; exact s2

/-- the cost of an assignment to V variables -/
def costA (no yes : List Int) (V : Nat) (a : List Bool) : Int := costOn no yes (2 ^ V - 1) V a
/-- b is the least cost of a list of V values that satisfies f, and whether there is one -/
def IsMin (no yes : List Int) (V : Nat) (f : List Bool → Bool) (b : Best) : Prop :=
  (∀ a, a.length = V → f a = true → b.2 = true ∧ b.1 ≤ costA no yes V a) ∧ (b.2 = true → ∃ a, a.length = V ∧ f a = true ∧ costA no yes V a = b.1)
theorem ones_bit (V i : Nat) : (2 ^ V - 1).testBit i = decide (i < V) := Nat.testBit_two_pow_sub_one V i
theorem ones_or {V m : Nat} (hV : V ≤ 40) (h : m < 2 ^ V) : m &&& ((2 ^ V - 1) &&& (18446744073709551615 - m)) = 0 ∧ m ||| ((2 ^ V - 1) &&& (18446744073709551615 - m)) = 2 ^ V - 1 := by
  have hms := mask_small hV h
  refine ⟨and_zero_iff.2 fun i hi hj => ?_, Nat.eq_of_testBit_eq fun i => ?_⟩
  · rw [Nat.testBit_and, compl_bit _ _ hms, hi] at hj
    simp at hj
  · rw [Nat.testBit_or, Nat.testBit_and, compl_bit _ _ hms, ones_bit]
    by_cases hi : i < V
    · cases hmi : m.testBit i <;> simp [hi] <;> omega
    · have : m.testBit i = false := Nat.testBit_lt_two_pow (Nat.lt_of_lt_of_le h (Nat.pow_le_pow_right (by decide) (by omega)))
      simp [this, hi]
theorem cheap_ok {no yes : List Int} {V : Nat} {ps : List Part} (h : (checkedM ⟨V, ps⟩).1 = 0) (h1 : CostOk V no) (h2 : CostOk V yes) :
    (checkedM ⟨V, ps⟩).2.length = ps.length ∧ cheapS no yes V (checkedM ⟨V, ps⟩).2 ps [] ∧ IsMin no yes V (evalM ps) (cheapM no yes V ps (checkedM ⟨V, ps⟩).2) ∧ 0 ≤ (cheapM no yes V ps (checkedM ⟨V, ps⟩).2).1 ∧ (cheapM no yes V ps (checkedM ⟨V, ps⟩).2).1 ≤ 1099511627776 := by
  obtain ⟨_, hv0, hv40, hp0, hpl⟩ := sh_of_checkedM _ h
  simp only at hv0 hv40 hp0 hpl
  have hcm : checkedM ⟨V, ps⟩ = checkedGo V ps [] := by
    unfold checkedM
    simp only
    rw [if_neg (by omega), if_neg (by omega), if_neg (by omega)]
  have hV : V ≤ 40 := by omega
  rw [hcm] at h ⊢
  rcases hx : checkedGo V ps [] with ⟨c, M⟩
  rw [hx] at h
  simp only at h
  subst h
  obtain ⟨⟨m1, _⟩, m2, m3⟩ := all_best h1 h2 hV ps [] M [] (fun _ => []) hx ⟨rfl, fun _ _ => rfl, fun i hi => by simp at hi⟩
  simp only [List.length_nil, Nat.zero_add] at m1
  have hl := m3.2.2 (ps.length - 1) (by omega)
  have hsm := maxOn_le (M.getD (ps.length - 1) 0) V
  obtain ⟨f1, f2, f3, f4, f5, f6⟩ := hl
  obtain ⟨o1, o2⟩ := ones_or hV f1
  have hfr := freeGo_le h1 h2 ((2 ^ V - 1) &&& (18446744073709551615 - M.getD (ps.length - 1) 0)) V
  have hcost : ∀ a, costA no yes V a = costOn no yes (M.getD (ps.length - 1) 0) V a + costOn no yes ((2 ^ V - 1) &&& (18446744073709551615 - M.getD (ps.length - 1) 0)) V a := fun a => by
    unfold costA
    rw [← cost_or o1, o2]
  have hc : cheapM no yes V ps M = (((cheapGo no yes V M ps []).getD (ps.length - 1) (0, false)).1 + freeGo no yes ((2 ^ V - 1) &&& (18446744073709551615 - M.getD (ps.length - 1) 0)) V, ((cheapGo no yes V M ps []).getD (ps.length - 1) (0, false)).2) := rfl
  refine ⟨m1, m2, ⟨fun a ha hf => ?_, fun hb => ?_⟩, by rw [hc]; simp only; omega, by rw [hc]; simp only; omega⟩
  · obtain ⟨e1, e2⟩ := f5 a ha hf
    have e3 := free_le_cost h1 h2 ((2 ^ V - 1) &&& (18446744073709551615 - M.getD (ps.length - 1) 0)) V a
    rw [hcost a, hc]
    exact ⟨e1, by simp only; omega⟩
  · rw [hc] at hb
    obtain ⟨a, ha, hfa, hca⟩ := f6 hb
    have hg : ∀ i, i < V → ((List.range V).map fun i => if (M.getD (ps.length - 1) 0).testBit i = true then a.getD i false else (minA no yes V).getD i false).getD i false = if (M.getD (ps.length - 1) 0).testBit i = true then a.getD i false else (minA no yes V).getD i false := fun i hi => range_getD _ hi
    obtain ⟨z, hz⟩ : ∃ z, ((List.range V).map fun i => if (M.getD (ps.length - 1) 0).testBit i = true then a.getD i false else (minA no yes V).getD i false) = z := ⟨_, rfl⟩
    rw [hz] at hg
    have hlow : ∀ i, (M.getD (ps.length - 1) 0).testBit i = true → i < V := fun i hi => by
      rcases Nat.lt_or_ge i V with hlt | hge
      · exact hlt
      · rw [Nat.testBit_lt_two_pow (Nat.lt_of_lt_of_le f1 (Nat.pow_le_pow_right (by decide) hge))] at hi; cases hi
    refine ⟨z, by rw [← hz]; simp, ?_, ?_⟩
    · show (evalGo z ps []).getD (ps.length - 1) false = true
      rw [← hfa]
      exact f2 z a (by rw [← hz]; simp) ha fun i hi => by rw [hg i (hlow i hi), if_pos hi]
    · rw [hcost z, cost_congr (a := z) (b := a) V fun i hiV hi => by rw [hg i hiV, if_pos hi], cost_congr (m := (2 ^ V - 1) &&& (18446744073709551615 - M.getD (ps.length - 1) 0)) (a := z) (b := minA no yes V) V fun i hiV hi => by
        rw [hg i hiV, if_neg fun h => and_zero_iff.1 o1 i h hi], cost_min _ V (Nat.le_refl _), hca, hc]

/-! ### the least model of the least cost -/
theorem cost_upto (no yes : List Int) (V : Nat) (a : List Bool) : ∀ n, n ≤ V → costOn no yes (2 ^ V - 1) n a = costOn no yes (2 ^ n - 1) n a
  | 0, _ => rfl
  | n + 1, h => by
    simp only [costOn]
    rw [cost_upto no yes V a n (by omega), ones_bit, ones_bit]
    have : costOn no yes (2 ^ (n + 1) - 1) n a = costOn no yes (2 ^ n - 1) n a := cost_upto no yes (n + 1) a n (by omega)
    rw [this]
    simp; omega
/-- the cost, one value after the other -/
def costL (no yes : List Int) : Nat → List Bool → Int
  | _, [] => 0
  | i, b :: r => wOf no yes i b + costL no yes (i + 1) r
theorem costL_snoc (no yes : List Int) : ∀ (a : List Bool) (i : Nat) (b : Bool), costL no yes i (a ++ [b]) = costL no yes i a + wOf no yes (i + a.length) b
  | [], i, b => by simp [costL]
  | c :: r, i, b => by
    rw [List.cons_append, costL, costL, costL_snoc no yes r (i + 1) b, List.length_cons, show i + 1 + r.length = i + (r.length + 1) by omega]
    omega
theorem costA_eq (no yes : List Int) : ∀ (n : Nat) (a : List Bool), n ≤ a.length → costOn no yes (2 ^ n - 1) n a = costL no yes 0 (a.take n)
  | 0, a, _ => by simp [costOn, costL]
  | n + 1, a, h => by
    rw [List.take_succ_eq_append_getElem (by omega), costL_snoc]
    have h2 := costA_eq no yes n a (by omega)
    simp only [costOn]
    rw [cost_upto no yes (n + 1) a n (by omega), h2, ones_bit]
    have h3 : a.getD n false = a[n] := by simp [List.getD, show n < a.length by omega]
    rw [h3]
    simp [Nat.min_eq_left (show n ≤ a.length by omega)]
theorem costA_list {no yes : List Int} {V : Nat} {a : List Bool} (h : a.length = V) : costA no yes V a = costL no yes 0 a := by
  unfold costA
  rw [costA_eq no yes V a (by omega), List.take_of_length_le (by omega)]

/-- is there a list with the prefix p that satisfies f and costs c? -/
def hasC (f : List Bool → Bool) (W : List Bool → Int) (c : Int) (r : Nat) (p : List Bool) : Bool := (allA r).any fun b => f (p ++ b) && (W (p ++ b) == c)
def cgo (f : List Bool → Bool) (W : List Bool → Int) (c : Int) : Nat → List Bool → List Bool
  | 0, p => p
  | r + 1, p => if hasC f W c r (p ++ [false]) = true then cgo f W c r (p ++ [false]) else cgo f W c r (p ++ [true])
theorem cgo_spec (f : List Bool → Bool) (W : List Bool → Int) (c : Int) : ∀ (r : Nat) (p b : List Bool), (allA r).find? (fun b => f (p ++ b) && (W (p ++ b) == c)) = some b → cgo f W c r p = p ++ b
  | 0, p, b, h => by
    simp only [allA, List.find?_cons, List.find?_nil] at h
    split at h
    · simp at h; subst h; simp [cgo]
    · cases h
  | r + 1, p, b, h => by
    simp only [allA, List.find?_append, List.find?_map] at h
    have e0 : ((fun b => f (p ++ b) && (W (p ++ b) == c)) ∘ fun x => false :: x) = fun b => f ((p ++ [false]) ++ b) && (W ((p ++ [false]) ++ b) == c) := by funext x; simp [Function.comp]
    have e1 : ((fun b => f (p ++ b) && (W (p ++ b) == c)) ∘ fun x => true :: x) = fun b => f ((p ++ [true]) ++ b) && (W ((p ++ [true]) ++ b) == c) := by funext x; simp [Function.comp]
    rw [e0, e1] at h
    rw [cgo]
    rcases hx : (allA r).find? (fun b => f ((p ++ [false]) ++ b) && (W ((p ++ [false]) ++ b) == c)) with _ | d
    · have hn : ¬ hasC f W c r (p ++ [false]) = true := fun hh => by
        unfold hasC at hh
        rw [List.any_eq_true] at hh
        obtain ⟨y, hy1, hy2⟩ := hh
        have := List.find?_eq_none.1 hx y hy1
        exact this hy2
      rw [if_neg hn]
      rw [hx] at h
      simp only [Option.map_none, Option.none_or] at h
      rcases hy : (allA r).find? (fun b => f ((p ++ [true]) ++ b) && (W ((p ++ [true]) ++ b) == c)) with _ | e
      · rw [hy] at h; simp at h
      · rw [hy] at h
        simp at h
        rw [cgo_spec f W c r _ e hy, ← h]
        simp
    · have hp : hasC f W c r (p ++ [false]) = true := by
        unfold hasC
        rw [List.any_eq_true]
        have hd := List.find?_some (p := fun b => f ((p ++ [false]) ++ b) && (W ((p ++ [false]) ++ b) == c)) hx
        exact ⟨d, List.mem_of_find?_eq_some hx, hd⟩
      rw [if_pos hp]
      rw [hx] at h
      simp at h
      rw [cgo_spec f W c r _ d hx, ← h]
      simp

/-! ### the costs while a prefix is fixed -/
/-- the places below the prefix cost what the prefix says, whatever the value; the others as ever -/
def StOk (no yes : List Int) (V : Nat) (p : List Bool) (no' yes' : List Int) : Prop :=
  CostOk V no' ∧ CostOk V yes' ∧ ∀ i, (i < p.length → no'.getD i 0 = wOf no yes i (p.getD i false) ∧ yes'.getD i 0 = wOf no yes i (p.getD i false)) ∧ (p.length ≤ i → no'.getD i 0 = no.getD i 0 ∧ yes'.getD i 0 = yes.getD i 0)
theorem StOk.start {no yes : List Int} {V : Nat} (h1 : CostOk V no) (h2 : CostOk V yes) : StOk no yes V [] no yes := ⟨h1, h2, fun i => ⟨fun h => by simp at h, fun _ => ⟨rfl, rfl⟩⟩⟩
theorem set_getD (l : List Int) (j i : Nat) (x : Int) (h : j < l.length) : (l.set j x).getD i 0 = if i = j then x else l.getD i 0 := by
  by_cases hi : i = j
  · subst hi; simp [List.getD, h]
  · simp [List.getD, hi, Ne.symm hi]
theorem costOk_set {V : Nat} {l : List Int} (h : CostOk V l) (j : Nat) {x : Int} (hx : 0 ≤ x ∧ x ≤ 1048576) : CostOk V (l.set j x) := by
  refine ⟨by simp [h.1], fun y hy => ?_⟩
  rcases List.mem_or_eq_of_mem_set hy with hy | hy
  · exact h.2 y hy
  · subst hy; exact hx
theorem snoc_getD (p : List Bool) (b : Bool) (i : Nat) (h : i < p.length) : (p ++ [b]).getD i false = p.getD i false := by rw [getD_snoc, if_pos h]
/-- both costs of the next place become that of the value b -/
theorem StOk.step {no yes : List Int} {V : Nat} {p : List Bool} {no' yes' : List Int} (h : StOk no yes V p no' yes') (b : Bool) (n2 y2 : List Int) (hn : CostOk V n2) (hy : CostOk V y2)
    (e1 : ∀ i, n2.getD i 0 = if i = p.length then wOf no yes p.length b else no'.getD i 0) (e2 : ∀ i, y2.getD i 0 = if i = p.length then wOf no yes p.length b else yes'.getD i 0) : StOk no yes V (p ++ [b]) n2 y2 := by
  obtain ⟨h1, h2, h3⟩ := h
  refine ⟨hn, hy, fun i => ⟨fun hi => ?_, fun hi => ?_⟩⟩
  · rw [e1, e2]
    rw [List.length_append, List.length_cons, List.length_nil] at hi
    by_cases he : i = p.length
    · subst he
      rw [if_pos rfl, if_pos rfl, getD_snoc, if_neg (by omega), if_pos rfl]
      exact ⟨rfl, rfl⟩
    · rw [if_neg he, if_neg he, snoc_getD p b i (by omega)]
      exact (h3 i).1 (by omega)
  · rw [List.length_append, List.length_cons, List.length_nil] at hi
    rw [e1, e2, if_neg (by omega), if_neg (by omega)]
    exact (h3 i).2 (by omega)
theorem costL_congr {no yes no' yes' : List Int} : ∀ (a a' : List Bool) (i : Nat), a.length = a'.length → (∀ k, k < a.length → wOf no' yes' (i + k) (a.getD k false) = wOf no yes (i + k) (a'.getD k false)) → costL no' yes' i a = costL no yes i a'
  | [], [], _, _, _ => rfl
  | [], _ :: _, _, h, _ => by simp at h
  | _ :: _, [], _, h, _ => by simp at h
  | b :: r, b' :: r', i, h, hw => by
    simp only [costL]
    have h0 := hw 0 (by simp)
    simp only [Nat.add_zero, List.getD_cons_zero] at h0
    rw [h0, costL_congr r r' (i + 1) (by simpa using h) fun k hk => by
      have := hw (k + 1) (by simp; omega)
      simp only [List.getD_cons_succ] at this
      rw [show i + 1 + k = i + (k + 1) by omega]
      exact this]
theorem StOk.cost {no yes : List Int} {V : Nat} {p : List Bool} {no' yes' : List Int} (h : StOk no yes V p no' yes') (hp : p.length ≤ V) {a : List Bool} (ha : a.length = V) : costL no' yes' 0 a = costL no yes 0 (p ++ a.drop p.length) := by
  refine costL_congr _ _ 0 (by simp; omega) fun k hk => ?_
  rw [Nat.zero_add]
  by_cases hkp : k < p.length
  · have e := (h.2.2 k).1 hkp
    have e3 : (p ++ a.drop p.length).getD k false = p.getD k false := by simp [List.getD, List.getElem?_append_left hkp]
    rw [e3]
    unfold wOf at e ⊢
    rw [e.1, e.2]
    split <;> rfl
  · have e := (h.2.2 k).2 (by omega)
    have e3 : (p ++ a.drop p.length).getD k false = a.getD k false := by
      simp only [List.getD]
      rw [List.getElem?_append_right (by omega), List.getElem?_drop, show p.length + (k - p.length) = k by omega]
    rw [e3]
    unfold wOf
    rw [e.1, e.2]

/-- the test of Cheapest: is the least cost of the models with a prefix the least cost of all? -/
theorem test_eq {no yes : List Int} {V : Nat} {ps : List Part} {p : List Bool} {no' yes' : List Int} {b : Best} {c : Int} (hs : StOk no yes V p no' yes') (hp : p.length ≤ V)
    (hb : IsMin no' yes' V (fun a => evalM ps (chGo (litsGo 0 p) a)) b) (hc : ∀ a, a.length = V → evalM ps a = true → c ≤ costL no yes 0 a) :
    (b.2 = true ∧ b.1 = c) ↔ hasC (evalM ps) (costL no yes 0) c (V - p.length) p = true := by
  have hch : ∀ a, a.length = V → chGo (litsGo 0 p) a = p ++ a.drop p.length := fun a ha => by
    rw [litsGo_ch p 0 a (by omega)]; simp
  unfold hasC
  rw [List.any_eq_true]
  constructor
  · rintro ⟨e1, e2⟩
    obtain ⟨a, ha, hf, hca⟩ := hb.2 e1
    rw [costA_list ha, hs.cost hp ha] at hca
    simp only at hf
    rw [hch a ha] at hf
    exact ⟨a.drop p.length, mem_allA _ _ (by simp; omega), by rw [hf, hca, e2]; simp⟩
  · rintro ⟨d, hd, hf⟩
    rw [Bool.and_eq_true] at hf
    have hdl := allA_mem _ _ hd
    have ha : (p ++ d).length = V := by simp; omega
    have hdr : (p ++ d).drop p.length = d := by simp
    have hk := hb.1 (p ++ d) ha (by simp only; rw [hch _ ha, hdr]; exact hf.1)
    rw [costA_list ha, hs.cost hp ha, hdr] at hk
    have hW : costL no yes 0 (p ++ d) = c := by simpa using hf.2
    obtain ⟨a, ha', hfa, hca⟩ := hb.2 hk.1
    rw [costA_list ha', hs.cost hp ha'] at hca
    simp only at hfa
    rw [hch a ha'] at hfa
    have := hc _ (by simp; omega) hfa
    exact ⟨hk.1, by omega⟩
end Go.Proofs.Ytljljagkccmogaa
