/- Plain: the diagram of a truth table is canonical, and its values are the table. No program in sight. -/
import Derived.Test.YtelobilhppoooaaQ1
import Derived.Test.YtelobilhppoooaaQ0
namespace Go.Proofs.Ytelobilhppoooaa
open Go.RowKit
set_option linter.unusedVariables false

/-! ### The table's diagram -/
def nodeM : Nat → List Bool → List Fork → Int → Int × List Fork
  | 0, t, ns, _ => (if t.headD false = true then 1 else 0, ns)
  | d + 1, t, ns, v =>
    let a := nodeM d (t.take (2 ^ d)) ns (v + 1)
    let b := nodeM d (t.drop (2 ^ d)) a.2 (v + 1)
    if a.1 = b.1 then (a.1, b.2)
    else if (v, a.1, b.1) ∈ b.2 then (2 + (b.2.idxOf (v, a.1, b.1) : Int), b.2)
    else (2 + (b.2.length : Int), b.2 ++ [(v, a.1, b.1)])
/-- the table's value at an assignment -/
def tabV (h : Int → Bool) : Nat → Int → List Bool → Bool
  | 0, _, t => t.headD false
  | d + 1, v, t => if h v = true then tabV h d (v + 1) (t.drop (2 ^ d)) else tabV h d (v + 1) (t.take (2 ^ d))
theorem tabV_congr {h g : Int → Bool} : ∀ (d : Nat) (v : Int) (t : List Bool), (∀ w, v ≤ w → h w = g w) → tabV h d v t = tabV g d v t
  | 0, _, _, _ => rfl
  | d + 1, v, t, e => by
    rw [tabV, tabV, e v (Int.le_refl _), tabV_congr d (v + 1) _ (fun w hw => e w (by omega)), tabV_congr d (v + 1) (t.take _) (fun w hw => e w (by omega))]
theorem tabV_inj : ∀ (d : Nat) (v : Int) (t u : List Bool), t.length = 2 ^ d → u.length = 2 ^ d → (∀ h, tabV h d v t = tabV h d v u) → t = u
  | 0, v, t, u, ht, hu, e => by
    have := e fun _ => false
    simp only [tabV] at this
    match t, u, ht, hu with
    | [x], [y], _, _ => simpa using this
  | d + 1, v, t, u, ht, hu, e => by
    have hp : 2 ^ (d + 1) = 2 ^ d + 2 ^ d := by rw [Nat.pow_succ]; omega
    have h1 : t.take (2 ^ d) = u.take (2 ^ d) := tabV_inj d (v + 1) _ _ (by rw [List.length_take]; omega) (by rw [List.length_take]; omega) fun h => by
      have := e fun w => if w = v then false else h w
      simp only [tabV, if_true, Bool.false_eq_true, if_false] at this
      rw [tabV_congr (g := h) d (v + 1) _ (fun w hw => if_neg (by omega)), tabV_congr (g := h) d (v + 1) (u.take _) (fun w hw => if_neg (by omega))] at this
      exact this
    have h2 : t.drop (2 ^ d) = u.drop (2 ^ d) := tabV_inj d (v + 1) _ _ (by rw [List.length_drop]; omega) (by rw [List.length_drop]; omega) fun h => by
      have := e fun w => if w = v then true else h w
      simp only [tabV, if_true] at this
      rw [tabV_congr (g := h) d (v + 1) _ (fun w hw => if_neg (by omega)), tabV_congr (g := h) d (v + 1) (u.drop _) (fun w hw => if_neg (by omega))] at this
      exact this
    rw [← List.take_append_drop (2 ^ d) t, ← List.take_append_drop (2 ^ d) u, h1, h2]

/-- reduced, ordered nodes, no two alike -/
def DOk (V : Int) (ns : List Fork) : Prop :=
  ns.Nodup ∧ ∀ (j : Nat) (f : Fork), ns[j]? = some f → (0 ≤ f.1 ∧ f.1 < V) ∧ f.2.1 ≠ f.2.2 ∧ (0 ≤ f.2.1 ∧ f.2.1 ≤ 1 + j) ∧ (0 ≤ f.2.2 ∧ f.2.2 ≤ 1 + j) ∧ f.1 < lvlM V ns f.2.1 ∧ f.1 < lvlM V ns f.2.2
theorem lvl_ext {V : Int} {ns e : List Fork} {r : Int} (h : r ≤ 1 + ns.length) : lvlM V (ns ++ e) r = lvlM V ns r := by
  unfold lvlM
  split
  · rfl
  · rw [List.getElem?_append_left (by omega)]
theorem fol_ext {V : Int} {ns e : List Fork} (hd : DOk V ns) (h : Int → Bool) : ∀ (k : Nat) (r : Int), r ≤ 1 + ns.length → folV (ns ++ e) 2 h k r = folV ns 2 h k r
  | 0, r, _ => rfl
  | k + 1, r, hr => by
    rw [folV, folV]
    split
    · rfl
    · rw [List.getElem?_append_left (by omega)]
      rcases hf : ns[(r - 2).toNat]? with _ | f
      · rfl
      · have := hd.2 _ f hf
        refine fol_ext hd h k _ ?_
        split <;> omega
theorem fol_indep {V : Int} {ns : List Fork} (hd : DOk V ns) {h g : Int → Bool} {v : Int} (e : ∀ w, v < w → h w = g w) : ∀ (k : Nat) (r : Int), v < lvlM V ns r → folV ns 2 h k r = folV ns 2 g k r
  | 0, r, _ => rfl
  | k + 1, r, hr => by
    rw [folV, folV]
    split
    · rfl
    · rename_i h2
      rcases hf : ns[(r - 2).toNat]? with _ | f
      · rfl
      · have hl : lvlM V ns r = f.1 := by unfold lvlM; rw [if_neg h2, hf]
        have := hd.2 _ f hf
        simp only
        rw [e f.1 (by omega)]
        refine fol_indep hd e k _ ?_
        split <;> omega
def Sem (ns : List Fork) (r v : Int) (d : Nat) (t : List Bool) : Prop := ∀ (h : Int → Bool) (k : Nat), r < k → folV ns 2 h k r = if tabV h d v t = true then 1 else 0
theorem Sem.ext {V : Int} {ns e : List Fork} {r v : Int} {d : Nat} {t : List Bool} (hs : Sem ns r v d t) (hd : DOk V ns) (hr : r ≤ 1 + ns.length) : Sem (ns ++ e) r v d t :=
  fun h k hk => by rw [fol_ext hd h k r hr]; exact hs h k hk
theorem Sem.inj {ns : List Fork} {r v : Int} {d : Nat} {t u : List Bool} (hs : Sem ns r v d t) (hs' : Sem ns r v d u) (ht : t.length = 2 ^ d) (hu : u.length = 2 ^ d) : t = u :=
  tabV_inj d v t u ht hu fun h => by
    have h1 := hs h (r.toNat + 1) (by omega)
    have h2 := hs' h (r.toNat + 1) (by omega)
    rw [h1] at h2
    revert h2
    rcases tabV h d v t with _ | _ <;> rcases tabV h d v u with _ | _ <;> simp
/-- a reference whose level is later: both halves -/
theorem Sem.halves {V : Int} {ns : List Fork} {r v : Int} {d : Nat} {t : List Bool} (hs : Sem ns r v (d + 1) t) (hd : DOk V ns) (hl : v < lvlM V ns r) : Sem ns r (v + 1) d (t.take (2 ^ d)) ∧ Sem ns r (v + 1) d (t.drop (2 ^ d)) := by
  constructor
  · intro h k hk
    have := hs (fun w => if w = v then false else h w) k hk
    simp only [tabV, if_true, Bool.false_eq_true, if_false] at this
    rw [tabV_congr (g := h) d (v + 1) _ (fun w hw => if_neg (by omega)), fol_indep hd (g := h) (v := v) (fun w hw => if_neg (by omega)) k r hl] at this
    exact this
  · intro h k hk
    have := hs (fun w => if w = v then true else h w) k hk
    simp only [tabV, if_true] at this
    rw [tabV_congr (g := h) d (v + 1) _ (fun w hw => if_neg (by omega)), fol_indep hd (g := h) (v := v) (fun w hw => if_neg (by omega)) k r hl] at this
    exact this
theorem fol_fuel2 {V : Int} {ns : List Fork} (hd : DOk V ns) (h : Int → Bool) : ∀ (k m : Nat) (r : Int), 0 ≤ r → r < k → r < m → folV ns 2 h k r = folV ns 2 h m r
  | 0, m, r, h0, h1, h2 => by omega
  | k + 1, 0, r, h0, h1, h2 => by omega
  | k + 1, m + 1, r, h0, h1, h2 => by
    rw [folV, folV]
    split
    · rfl
    · rcases hf : ns[(r - 2).toNat]? with _ | f
      · rfl
      · have := hd.2 _ f hf
        refine fol_fuel2 hd h k m _ ?_ ?_ ?_ <;> split <;> omega
/-- a node's reference: the halves are its branches' -/
theorem Sem.node {V : Int} {ns : List Fork} {j : Nat} {v : Int} {d : Nat} {t : List Bool} {f : Fork} (hf : ns[j]? = some f) (hv : f.1 = v) (hs : Sem ns (2 + j) v (d + 1) t) (hd : DOk V ns) : Sem ns f.2.1 (v + 1) d (t.take (2 ^ d)) ∧ Sem ns f.2.2 (v + 1) d (t.drop (2 ^ d)) := by
  have hp := hd.2 _ f hf
  have key : ∀ (b : Bool) (h : Int → Bool) (k : Nat) (u : Int), u = (if b = true then f.2.2 else f.2.1) → u < k → folV ns 2 h k u = folV ns 2 (fun w => if w = v then b else h w) (j + 3) (2 + j) := by
    intro b h k u hu hk
    have h1 : u ≤ 1 + j ∧ 0 ≤ u := by subst hu; split <;> omega
    have h2 : v < lvlM V ns u := by subst hu; split <;> omega
    rw [folV, if_neg (by omega), show ((2 : Int) + j - 2).toNat = j by omega, hf]
    simp only [hv, if_true]
    rw [← hu, fol_fuel2 hd h k (j + 2) u h1.2 hk (by omega)]
    exact fol_indep hd (v := v) (fun w hw => (if_neg (by omega)).symm) _ _ h2
  constructor
  · intro h k hk
    have := hs (fun w => if w = v then false else h w) (j + 3) (by omega)
    simp only [tabV, if_true, Bool.false_eq_true, if_false] at this
    rw [tabV_congr (g := h) d (v + 1) _ (fun w hw => if_neg (by omega))] at this
    rw [key false h k _ (by simp) hk]
    exact this
  · intro h k hk
    have := hs (fun w => if w = v then true else h w) (j + 3) (by omega)
    simp only [tabV, if_true] at this
    rw [tabV_congr (g := h) d (v + 1) _ (fun w hw => if_neg (by omega))] at this
    rw [key true h k _ (by simp) hk]
    exact this
/-- what is there is found -/
theorem node_found {V : Int} {ns : List Fork} (hd : DOk V ns) : ∀ (d : Nat) (t : List Bool) (v r : Int), v + d = V → t.length = 2 ^ d → 0 ≤ r → r ≤ 1 + ns.length → v ≤ lvlM V ns r → Sem ns r v d t → nodeM d t ns v = (r, ns)
  | 0, t, v, r, hV, ht, h0, h1, hl, hs => by
    have h2 : r < 2 := by
      apply Int.lt_of_not_ge
      intro h
      obtain ⟨f, hf⟩ : ∃ f, ns[(r - 2).toNat]? = some f := ⟨_, List.getElem?_eq_getElem (by omega)⟩
      have := hd.2 _ f hf
      unfold lvlM at hl
      rw [if_neg (by omega), hf] at hl
      simp only at hl
      omega
    have := hs (fun _ => false) 2 (by omega)
    rw [folV, if_pos h2] at this
    rw [nodeM]
    rw [show tabV (fun _ => false) 0 v t = t.headD false from rfl] at this
    rw [this]
  | d + 1, t, v, r, hV, ht, h0, h1, hl, hs => by
    have hp : 2 ^ (d + 1) = 2 ^ d + 2 ^ d := by rw [Nat.pow_succ]; omega
    have ht1 : (t.take (2 ^ d)).length = 2 ^ d := by rw [List.length_take]; omega
    have ht2 : (t.drop (2 ^ d)).length = 2 ^ d := by rw [List.length_drop]; omega
    by_cases hlv : v < lvlM V ns r
    · obtain ⟨s1, s2⟩ := hs.halves hd hlv
      have n1 := node_found hd d _ (v + 1) r (by omega) ht1 h0 h1 (by omega) s1
      have n2 := node_found hd d _ (v + 1) r (by omega) ht2 h0 h1 (by omega) s2
      rw [nodeM]
      simp only [n1, n2, if_true]
    · have h2 : 2 ≤ r := by
        apply Int.not_lt.1
        intro h
        unfold lvlM at hlv
        rw [if_pos h] at hlv
        omega
      obtain ⟨f, hf⟩ : ∃ f, ns[(r - 2).toNat]? = some f := ⟨_, List.getElem?_eq_getElem (by omega)⟩
      have hlf : lvlM V ns r = f.1 := by unfold lvlM; rw [if_neg (by omega), hf]
      have hfd := hd.2 _ f hf
      obtain ⟨j, rfl⟩ : ∃ j : Nat, r = 2 + j := ⟨(r - 2).toNat, by omega⟩
      rw [show ((2 : Int) + j - 2).toNat = j by omega] at hf
      have hjl : j < ns.length := by omega
      obtain ⟨s1, s2⟩ := hs.node hf (by omega) hd
      have n1 := node_found hd d _ (v + 1) f.2.1 (by omega) ht1 hfd.2.2.1.1 (by omega) (by omega) s1
      have n2 := node_found hd d _ (v + 1) f.2.2 (by omega) ht2 hfd.2.2.2.1.1 (by omega) (by omega) s2
      have hfe : (v, f.2.1, f.2.2) = f := by
        have : v = f.1 := by omega
        rw [this]
      rw [nodeM]
      simp only [n1, n2, hfe]
      rw [if_neg hfd.2.1, if_pos (List.mem_of_getElem? hf)]
      have : ns.idxOf f = j := by
        have hm := List.mem_of_getElem? hf
        have hlt := List.idxOf_lt_length_of_mem hm
        have h1 : ns[ns.idxOf f]? = some f := by rw [List.getElem?_eq_getElem hlt, List.getElem_idxOf hlt]
        exact (List.getElem?_inj hlt hd.1).1 (h1.trans hf.symm)
      rw [this]
theorem DOk.snoc {V : Int} {ns : List Fork} {f : Fork} (hd : DOk V ns) (hn : f ∉ ns) (h : (0 ≤ f.1 ∧ f.1 < V) ∧ f.2.1 ≠ f.2.2 ∧ (0 ≤ f.2.1 ∧ f.2.1 ≤ 1 + ns.length) ∧ (0 ≤ f.2.2 ∧ f.2.2 ≤ 1 + ns.length) ∧ f.1 < lvlM V ns f.2.1 ∧ f.1 < lvlM V ns f.2.2) : DOk V (ns ++ [f]) := by
  refine ⟨List.nodup_append.2 ⟨hd.1, by simp, fun a ha b hb e => by simp at hb; subst hb; subst e; exact hn ha⟩, fun j g hg => ?_⟩
  rcases Nat.lt_trichotomy j ns.length with hj | hj | hj
  · rw [List.getElem?_append_left hj] at hg
    have := hd.2 j g hg
    rw [lvl_ext (by omega), lvl_ext (by omega)]
    exact this
  · subst hj
    simp at hg
    subst hg
    rw [lvl_ext (by omega), lvl_ext (by omega)]
    exact h
  · rw [List.getElem?_append_right (by omega)] at hg
    have := (List.getElem?_eq_some_iff.1 hg).1
    simp at this
    omega
/-- what node returns -/
theorem node_ok {V : Int} : ∀ (d : Nat) (t : List Bool) (ns : List Fork) (v : Int), v + d = V → 0 ≤ v → t.length = 2 ^ d → DOk V ns →
    (∃ e, (nodeM d t ns v).2 = ns ++ e ∧ (∀ f ∈ e, v ≤ f.1) ∧ e.length + 1 ≤ 2 ^ d) ∧ DOk V (nodeM d t ns v).2 ∧ (0 ≤ (nodeM d t ns v).1 ∧ (nodeM d t ns v).1 ≤ 1 + (nodeM d t ns v).2.length) ∧
      v ≤ lvlM V (nodeM d t ns v).2 (nodeM d t ns v).1 ∧ Sem (nodeM d t ns v).2 (nodeM d t ns v).1 v d t
  | 0, t, ns, v, hV, hv, ht, hd => by
    rw [nodeM]
    refine ⟨⟨[], by simp, by simp, by simp⟩, hd, by split <;> omega, ?_, fun h k hk => ?_⟩
    · unfold lvlM
      rw [if_pos (by split <;> omega)]
      omega
    · cases k with
      | zero => rw [folV]; rfl
      | succ k => rw [folV, if_pos (by split <;> omega)]; rfl
  | d + 1, t, ns, v, hV, hv, ht, hd => by
    have hp : 2 ^ (d + 1) = 2 ^ d + 2 ^ d := by rw [Nat.pow_succ]; omega
    have ht1 : (t.take (2 ^ d)).length = 2 ^ d := by rw [List.length_take]; omega
    have ht2 : (t.drop (2 ^ d)).length = 2 ^ d := by rw [List.length_drop]; omega
    obtain ⟨⟨e1, E1, v1, l1⟩, d1, r1, w1, s1⟩ := node_ok d (t.take (2 ^ d)) ns (v + 1) (by omega) (by omega) ht1 hd
    generalize ha : nodeM d (t.take (2 ^ d)) ns (v + 1) = a at *
    obtain ⟨⟨e2, E2, v2, l2⟩, d2, r2, w2, s2⟩ := node_ok d (t.drop (2 ^ d)) a.2 (v + 1) (by omega) (by omega) ht2 d1
    generalize hb : nodeM d (t.drop (2 ^ d)) a.2 (v + 1) = b at *
    have s1' : Sem b.2 a.1 (v + 1) d (t.take (2 ^ d)) := by rw [E2]; exact s1.ext d1 (by omega)
    have r1' : a.1 ≤ 1 + b.2.length := by rw [E2, List.length_append]; omega
    have w1' : v + 1 ≤ lvlM V b.2 a.1 := by rw [E2, lvl_ext (by omega)]; exact w1
    have hE : b.2 = ns ++ (e1 ++ e2) := by rw [E2, E1, List.append_assoc]
    have hve : ∀ f ∈ e1 ++ e2, v < f.1 := fun f hf => by
      rcases List.mem_append.1 hf with h | h
      · have := v1 f h; omega
      · have := v2 f h; omega
    have semN : ∀ (r : Int) (N : List Fork) (e : List Fork) (j : Nat), N = b.2 ++ e → N[j]? = some (v, a.1, b.1) → r = 2 + j → Sem N r v (d + 1) t := by
      intro r N e j hN hj hr h k hk
      subst hr
      have h1 := s1'.ext (e := e) d2 (by omega)
      have h2 := s2.ext (e := e) d2 (by omega)
      rw [← hN] at h1 h2
      cases k with
      | zero => omega
      | succ k =>
        rw [folV, if_neg (by omega), show ((2 : Int) + j - 2).toNat = j by omega, hj]
        simp only [tabV]
        have hkl : a.1 < k + 2 ∧ b.1 < k + 2 → True := fun _ => trivial
        have hlt : a.1 ≤ 1 + j ∧ b.1 ≤ 1 + j → (folV N 2 h k (if h v = true then b.1 else a.1) = if (if h v = true then tabV h d (v + 1) (t.drop (2 ^ d)) else tabV h d (v + 1) (t.take (2 ^ d))) = true then 1 else 0) := by
          rintro ⟨q1, q2⟩
          by_cases hh : h v = true
          · rw [if_pos hh, if_pos hh]; exact h2 h k (by omega)
          · rw [if_neg hh, if_neg hh]; exact h1 h k (by omega)
        apply hlt
        by_cases hjl : j < b.2.length
        · rw [hN, List.getElem?_append_left hjl] at hj
          have := d2.2 j _ hj
          simp only at this
          omega
        · omega
    rw [nodeM]
    simp only [ha, hb]
    by_cases heq : a.1 = b.1
    · rw [if_pos heq]
      have hsame : t.take (2 ^ d) = t.drop (2 ^ d) := Sem.inj s1' (by rw [heq]; exact s2) ht1 ht2
      refine ⟨⟨e1 ++ e2, hE, fun f hf => by have := hve f hf; omega, by rw [List.length_append]; omega⟩, d2, ⟨r1.1, r1'⟩, by simp only; omega, fun h k hk => ?_⟩
      simp only at hk ⊢
      rw [s1' h k hk, tabV, ← hsame]
      simp
    · rw [if_neg heq]
      by_cases hx : (v, a.1, b.1) ∈ b.2
      · rw [if_pos hx]
        have hlt := List.idxOf_lt_length_of_mem hx
        have hg : b.2[b.2.idxOf (v, a.1, b.1)]? = some (v, a.1, b.1) := by rw [List.getElem?_eq_getElem hlt, List.getElem_idxOf hlt]
        refine ⟨⟨e1 ++ e2, hE, fun f hf => by have := hve f hf; omega, by rw [List.length_append]; omega⟩, d2, ⟨by simp only; omega, by simp only; omega⟩, ?_, semN _ _ [] _ (by simp) hg rfl⟩
        simp only
        unfold lvlM
        rw [if_neg (by omega), show ((2 : Int) + (b.2.idxOf (v, a.1, b.1) : Nat) - 2).toNat = b.2.idxOf (v, a.1, b.1) by omega, hg]
        exact Int.le_refl _
      · rw [if_neg hx]
        have hg : (b.2 ++ [(v, a.1, b.1)])[b.2.length]? = some (v, a.1, b.1) := by simp
        refine ⟨⟨e1 ++ e2 ++ [(v, a.1, b.1)], by simp only; rw [hE]; simp, fun f hf => ?_, by simp; omega⟩, d2.snoc hx ⟨⟨hv, by simp only; omega⟩, heq, ⟨r1.1, r1'⟩, r2, by simp only; omega, by simp only; omega⟩, ⟨by simp only; omega, by simp only; rw [List.length_append]; simp; omega⟩, ?_, semN _ _ [(v, a.1, b.1)] _ rfl hg rfl⟩
        · rcases List.mem_append.1 hf with h | h
          · have := hve f h; omega
          · simp at h; subst h; exact Int.le_refl _
        · simp only
          unfold lvlM
          rw [if_neg (by omega), show ((2 : Int) + (b.2.length : Nat) - 2).toNat = b.2.length by omega, hg]
          exact Int.le_refl _
theorem drop_cons2 {α : Type} {l : List α} {i : Nat} {x : α} {r : List α} (h : l.drop i = x :: r) : l[i]? = some x ∧ l.drop (i + 1) = r := by
  constructor
  · have := congrArg (fun l => l[0]?) h
    simpa using this
  · have := congrArg (List.drop 1) h
    simpa [List.drop_drop] using this
theorem DOk.frm {V : Int} {ns : List Fork} (hd : DOk V ns) : ∀ (r : List Fork) (i : Nat), ns.drop i = r → frmGo V ns r i = true
  | [], i, _ => rfl
  | f :: r, i, he => by
    obtain ⟨hf, hr⟩ := drop_cons2 he
    have h := hd.2 i f hf
    have hnew : f ∉ ns.take i := fun hm => by
      obtain ⟨j, hj, e⟩ := List.mem_iff_getElem.1 hm
      have hj' : j < i := by rw [List.length_take] at hj; omega
      have hjl : j < ns.length := by rw [List.length_take] at hj; omega
      have : ns[j]? = ns[i]? := by rw [hf, List.getElem?_eq_getElem hjl, ← e, List.getElem_take]
      have := (List.getElem?_inj hjl hd.1).1 this
      omega
    rw [frmGo, if_neg (by rintro (a | a | a | a); omega; omega; exact h.2.1 a; exact hnew a), hd.frm r (i + 1) hr]
    unfold refM
    have q : decide (f.2.1 < 0) = false ∧ decide (1 + (i : Int) < f.2.1) = false ∧ decide (lvlM V ns f.2.1 ≤ f.1) = false ∧ decide (f.2.2 < 0) = false ∧ decide (1 + (i : Int) < f.2.2) = false ∧ decide (lvlM V ns f.2.2 ≤ f.1) = false :=
      ⟨decide_eq_false (by omega), decide_eq_false (by omega), decide_eq_false (by omega), decide_eq_false (by omega), decide_eq_false (by omega), decide_eq_false (by omega)⟩
    simp only [List.all_cons, List.all_nil, q.1, q.2.1, q.2.2.1, q.2.2.2.1, q.2.2.2.2.1, q.2.2.2.2.2]
    rfl
/-- the references of the first n nodes -/
def rng : Nat → List Int
  | 0 => []
  | n + 1 => rng n ++ [2 + (n : Int)]
theorem rng_len : ∀ n, (rng n).length = n
  | 0 => rfl
  | n + 1 => by rw [rng, List.length_append, rng_len n]; rfl
theorem rng_mem : ∀ (n : Nat) (x : Int), x ∈ rng n ↔ 2 ≤ x ∧ x < 2 + n
  | 0, x => ⟨fun h => by simp [rng] at h, fun h => by omega⟩
  | n + 1, x => by
    rw [rng, List.mem_append, rng_mem n, List.mem_singleton]
    omega
theorem rng_get : ∀ (n j : Nat) (x : Int), (rng n)[j]? = some x → x = 2 + (j : Int)
  | 0, j, x, h => by simp [rng] at h
  | n + 1, j, x, h => by
    rw [rng] at h
    by_cases hj : j < n
    · rw [List.getElem?_append_left (by rw [rng_len]; exact hj)] at h
      exact rng_get n j x h
    · rw [List.getElem?_append_right (by rw [rng_len]; omega), rng_len] at h
      have hl := (List.getElem?_eq_some_iff.1 h).1
      simp at hl
      have : j = n := by omega
      subst this
      simp at h
      exact h.symm
theorem lay_more (ns : List Fork) : ∀ (k m : Nat) (s s' : List Int × List Fork) (r : Int), k ≤ m → layGo ns k s r = some s' → layGo ns m s r = some s'
  | 0, m, s, s', r, _, h => by rw [layGo] at h; cases h
  | k + 1, 0, s, s', r, hm, _ => by omega
  | k + 1, m + 1, s, s', r, hm, h => by
    rw [layGo] at h ⊢
    split
    · rename_i c; rw [if_pos c] at h; exact h
    · rename_i c
      rw [if_neg c] at h
      split
      · rename_i c2; rw [if_pos c2] at h; exact h
      · rename_i c2
        rw [if_neg c2] at h
        rcases hf : ns[(r - 2).toNat]? with _ | f
        · rw [hf] at h; cases h
        · rw [hf] at h
          simp only at h ⊢
          rcases h1 : layGo ns k s f.2.1 with _ | s1
          · rw [h1] at h; cases h
          · rw [h1] at h
            rw [lay_more ns k m _ _ _ (by omega) h1]
            simp only at h ⊢
            rcases h2 : layGo ns k s1 f.2.2 with _ | s2
            · rw [h2] at h; cases h
            · rw [h2] at h
              rw [lay_more ns k m _ _ _ (by omega) h2]
              exact h
/-- the walk from what node returns passes just the new nodes, in order -/
theorem node_lay {V : Int} : ∀ (d : Nat) (t : List Bool) (ns : List Fork) (v : Int), v + d = V → 0 ≤ v → t.length = 2 ^ d → DOk V ns →
    ∀ (N e : List Fork), N = (nodeM d t ns v).2 ++ e → ∀ s : List Int × List Fork, s.1 = rng ns.length →
      ∃ s', layGo N (d + 1) s (nodeM d t ns v).1 = some s' ∧ s'.1 = rng (nodeM d t ns v).2.length
  | 0, t, ns, v, hV, hv, ht, hd, N, e, hN, s, hs => by
    rw [nodeM]
    exact ⟨s, by rw [layGo, if_pos (by simp only; split <;> simp)], hs⟩
  | d + 1, t, ns, v, hV, hv, ht, hd, N, e, hN, s, hs => by
    have hp : 2 ^ (d + 1) = 2 ^ d + 2 ^ d := by rw [Nat.pow_succ]; omega
    have ht1 : (t.take (2 ^ d)).length = 2 ^ d := by rw [List.length_take]; omega
    have ht2 : (t.drop (2 ^ d)).length = 2 ^ d := by rw [List.length_drop]; omega
    have hall := node_ok (d + 1) t ns v hV hv ht hd
    obtain ⟨⟨e1, E1, v1, l1⟩, d1, r1, w1, s1⟩ := node_ok d (t.take (2 ^ d)) ns (v + 1) (by omega) (by omega) ht1 hd
    have L1 := node_lay d (t.take (2 ^ d)) ns (v + 1) (by omega) (by omega) ht1 hd
    have hfound := node_found (V := V) (ns := ns) hd (d + 1) t v
    rw [nodeM] at hN hall hfound ⊢
    generalize ha : nodeM d (t.take (2 ^ d)) ns (v + 1) = a at *
    obtain ⟨⟨e2, E2, v2, l2⟩, d2, r2, w2, s2⟩ := node_ok d (t.drop (2 ^ d)) a.2 (v + 1) (by omega) (by omega) ht2 d1
    have L2 := node_lay d (t.drop (2 ^ d)) a.2 (v + 1) (by omega) (by omega) ht2 d1
    have F2 := node_found (V := V) (ns := a.2) d1 d (t.drop (2 ^ d)) (v + 1) a.1 (by omega) ht2 r1.1 r1.2 (by omega)
    generalize hb : nodeM d (t.drop (2 ^ d)) a.2 (v + 1) = b at *
    have s1' : Sem b.2 a.1 (v + 1) d (t.take (2 ^ d)) := by rw [E2]; exact s1.ext d1 (by omega)
    try simp only at hN hall hfound ⊢
    by_cases heq : a.1 = b.1
    · rw [if_pos heq] at hN ⊢
      have hsame : t.take (2 ^ d) = t.drop (2 ^ d) := Sem.inj s1' (by rw [heq]; exact s2) ht1 ht2
      have hb2 : b.2 = a.2 := by
        have := F2 (by rw [← hsame]; exact s1)
        rw [this]
      obtain ⟨s', h1, h2⟩ := L1 N e (by rw [hN]; simp only; rw [hb2]) s hs
      exact ⟨s', lay_more N _ _ _ _ _ (by omega) h1, by rw [h2]; simp only; rw [hb2]⟩
    · rw [if_neg heq] at hN hall hfound ⊢
      by_cases hx : (v, a.1, b.1) ∈ b.2
      · rw [if_pos hx] at hN hall hfound ⊢
        -- the node is an old one
        have hxn : (v, a.1, b.1) ∈ ns := by
          rw [E2, E1] at hx
          rcases List.mem_append.1 hx with h | h
          · rcases List.mem_append.1 h with h | h
            · exact h
            · have := v1 _ h; simp only at this; omega
          · have := v2 _ h; simp only at this; omega
        have hio : b.2.idxOf (v, a.1, b.1) = ns.idxOf (v, a.1, b.1) := by
          rw [E2, E1, List.append_assoc, List.idxOf_append, if_pos hxn]
        have hlt := List.idxOf_lt_length_of_mem hxn
        have hg : ns[ns.idxOf (v, a.1, b.1)]? = some (v, a.1, b.1) := by rw [List.getElem?_eq_getElem hlt, List.getElem_idxOf hlt]
        rw [hio] at hN hall hfound ⊢
        obtain ⟨_, _, _, _, hsem⟩ := hall
        simp only at hsem
        have hb2 : b.2 = ns := by
          have hb2 := (hfound (2 + (ns.idxOf (v, a.1, b.1) : Int)) hV ht (by omega) (by omega) (by
            unfold lvlM
            rw [if_neg (by omega), show ((2 : Int) + (ns.idxOf (v, a.1, b.1) : Nat) - 2).toNat = ns.idxOf (v, a.1, b.1) by omega, hg]
            exact Int.le_refl _) (by
            intro h k hk
            rw [← hsem h k hk, E2, E1, List.append_assoc, fol_ext hd h k _ (by omega)]))
          exact congrArg Prod.snd hb2
        refine ⟨s, ?_, by rw [hs, hb2]⟩
        rw [layGo, if_pos]
        exact .inr (.inr (by rw [hs]; exact (rng_mem _ _).2 ⟨by omega, by omega⟩))
      · rw [if_neg hx] at hN hall ⊢
        simp only at hN hall ⊢
        have hln : ns.length ≤ b.2.length := by rw [E2, E1]; simp only [List.length_append]; omega
        have hla : ns.length ≤ a.2.length := by rw [E1, List.length_append]; omega
        obtain ⟨sa, ha1, ha2⟩ := L1 N (e2 ++ ([(v, a.1, b.1)] ++ e)) (by rw [hN, E2]; simp) s hs
        obtain ⟨sb, hb1, hb2⟩ := L2 N ([(v, a.1, b.1)] ++ e) (by rw [hN]; simp) sa ha2
        have hg : N[b.2.length]? = some (v, a.1, b.1) := by rw [hN]; simp
        refine ⟨(sb.1 ++ [2 + (b.2.length : Int)], sb.2 ++ [(v, plc sa.1 a.1, plc sb.1 b.1)]), ?_, by simp only; rw [hb2, List.length_append]; simp [rng]⟩
        rw [layGo, if_neg, if_neg (by omega), show ((2 : Int) + (b.2.length : Nat) - 2).toNat = b.2.length by omega, hg]
        · simp only [ha1, hb1]
          rw [if_neg]
          rw [hb2, rng_mem]
          omega
        · rintro (h | h | h)
          · omega
          · omega
          · rw [hs, rng_mem] at h
            omega
/-- the root is the last node, or a constant -/
theorem node_root {V : Int} : ∀ (d : Nat) (t : List Bool) (v : Int), v + d = V → 0 ≤ v → t.length = 2 ^ d →
    ((nodeM d t [] v).1 < 2 ∧ (nodeM d t [] v).2 = []) ∨ ((nodeM d t [] v).2 ≠ [] ∧ (nodeM d t [] v).1 = 1 + (nodeM d t [] v).2.length)
  | 0, t, v, _, _, _ => .inl (by rw [nodeM]; exact ⟨by simp only; split <;> omega, rfl⟩)
  | d + 1, t, v, hV, hv, ht => by
    have hd0 : DOk V [] := ⟨List.nodup_nil, fun j f h => by simp at h⟩
    have hp : 2 ^ (d + 1) = 2 ^ d + 2 ^ d := by rw [Nat.pow_succ]; omega
    have ht1 : (t.take (2 ^ d)).length = 2 ^ d := by rw [List.length_take]; omega
    have ht2 : (t.drop (2 ^ d)).length = 2 ^ d := by rw [List.length_drop]; omega
    have I1 := node_root (V := V) d (t.take (2 ^ d)) (v + 1) (by omega) (by omega) ht1
    obtain ⟨⟨e1, E1, v1, l1⟩, d1, r1, w1, s1⟩ := node_ok d (t.take (2 ^ d)) [] (v + 1) (by omega) (by omega) ht1 hd0
    rw [nodeM]
    generalize ha : nodeM d (t.take (2 ^ d)) [] (v + 1) = a at *
    obtain ⟨⟨e2, E2, v2, l2⟩, d2, r2, w2, s2⟩ := node_ok d (t.drop (2 ^ d)) a.2 (v + 1) (by omega) (by omega) ht2 d1
    have F2 := node_found (V := V) (ns := a.2) d1 d (t.drop (2 ^ d)) (v + 1) a.1 (by omega) ht2 r1.1 r1.2 (by omega)
    generalize hb : nodeM d (t.drop (2 ^ d)) a.2 (v + 1) = b at *
    have s1' : Sem b.2 a.1 (v + 1) d (t.take (2 ^ d)) := by rw [E2]; exact s1.ext d1 (by omega)
    by_cases heq : a.1 = b.1
    · rw [if_pos heq]
      have hsame : t.take (2 ^ d) = t.drop (2 ^ d) := Sem.inj s1' (by rw [heq]; exact s2) ht1 ht2
      have hb2 : b.2 = a.2 := by
        have := F2 (by rw [← hsame]; exact s1)
        rw [this]
      simp only [hb2]
      exact I1
    · rw [if_neg heq]
      by_cases hx : (v, a.1, b.1) ∈ b.2
      · rw [E2, E1] at hx
        simp at hx
        rcases hx with h | h
        · have := v1 _ h; simp only at this; omega
        · have := v2 _ h; simp only at this; omega
      · rw [if_neg hx]
        exact .inr ⟨by simp, by simp only [List.length_append, List.length_cons, List.length_nil]; omega⟩
/-- Boolean's diagram is canonical -/
theorem bool_rig (d : Nat) (t : List Bool) (ht : t.length = 2 ^ d) (hd : d ≤ 6) : rigM d (nodeM d t [] 0).1 (nodeM d t [] 0).2 = true := by
  have h0 : DOk (d : Int) [] := ⟨List.nodup_nil, fun j f h => by simp at h⟩
  obtain ⟨⟨e, E, _, l⟩, hD, hr, _, _⟩ := node_ok (V := d) d t [] 0 (by omega) (Int.le_refl _) ht h0
  obtain ⟨s, hs, hs1⟩ := node_lay (V := d) d t [] 0 (by omega) (Int.le_refl _) ht h0 _ [] (by rw [List.append_nil]) ([], []) rfl
  generalize nodeM d t [] 0 = n at *
  have hpow : 2 ^ d ≤ 2 ^ 6 := Nat.pow_le_pow_right (by omega) hd
  have hlen : n.2.length ≤ 63 := by rw [E]; simp; omega
  unfold rigM
  rw [if_neg (by omega)]
  have hf := hD.frm n.2 0 rfl
  unfold diaM
  rw [hf]
  simp only [Bool.true_and]
  obtain ⟨s', h', _⟩ := lay_frm (vars := d) (root := n.1) (ns := n.2) (by
    unfold frmM
    rw [hf, decide_eq_true (show 0 ≤ n.1 from hr.1), decide_eq_true (show n.1 ≤ 1 + (n.2.length : Int) from hr.2)]
    rfl)
  have e1 := lay_more n.2 (n.2.length + 2) (n.2.length + 2 + (d + 1)) _ _ _ (by omega) h'
  have e2 := lay_more n.2 (d + 1) (n.2.length + 2 + (d + 1)) _ _ _ (by omega) hs
  rw [e1] at e2
  cases e2
  unfold endM
  rw [h']
  simp only [hs1, rng_len, decide_true, Bool.and_true]
  rw [ordOk_iff]
  intro j x hx
  have := rng_get _ _ _ hx
  omega
end Go.Proofs.Ytelobilhppoooaa
