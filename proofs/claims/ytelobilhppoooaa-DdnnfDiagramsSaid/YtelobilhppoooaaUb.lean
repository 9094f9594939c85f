/- Plain: the normal form of a truth table's diagram: valid, with the values of the table. No program in sight. -/
import Derived.Test.YtelobilhppoooaaUa
import Derived.Test.YtelobilhppoooaaDe
import Derived.Test.YtelobilhppoooaaUc
namespace Go.Proofs.Ytelobilhppoooaa
open Go.RowKit
set_option linter.unusedVariables false

/-! ### OfBdd's normal form -/
def forkP (f : Fork) : Part := ⟨4, f.1 + 1, [f.2.1, f.2.2]⟩
def dnfM (root : Int) (ns : List Fork) : List Part :=
  if root = 0 then [⟨1, 0, []⟩] else if root = 1 then [⟨0, 0, []⟩] else [⟨1, 0, []⟩, ⟨0, 0, []⟩] ++ ns.map forkP
def LvlBit (V : Int) (ns : List Fork) (ms : List Nat) : Prop := ∀ (r b : Nat), r < ms.length → (ms.getD r 0).testBit b = true → lvlM V ns r ≤ b
theorem and_zero2 {a b : Nat} (h : ∀ i, a.testBit i = true → b.testBit i = true → False) : a &&& b = 0 :=
  Nat.eq_of_testBit_eq fun i => by
    rw [Nat.testBit_and, Nat.zero_testBit]
    rcases ha : a.testBit i with _ | _
    · rfl
    · rcases hb : b.testBit i with _ | _
      · rfl
      · exact (h i ha hb).elim
theorem getD_snoc2 {α : Type} (l : List α) (x d : α) (i : Nat) : (l ++ [x]).getD i d = if i < l.length then l.getD i d else if i = l.length then x else d := by
  simp only [List.getD_eq_getElem?_getD]
  by_cases h : i < l.length
  · rw [if_pos h, List.getElem?_append_left h]
  · rw [if_neg h, List.getElem?_append_right (by omega)]
    by_cases e : i = l.length
    · rw [if_pos e]; subst e; simp
    · rw [if_neg e, List.getElem?_eq_none (by simp; omega)]; rfl
theorem checked_forks {V : Int} {ns : List Fork} (hd : DOk V ns) : ∀ (r : List Fork) (i : Nat) (ms : List Nat), ns.drop i = r → ms.length = 2 + i → LvlBit V ns ms → (checkedGo V (r.map forkP) ms).1 = 0
  | [], i, ms, _, _, _ => rfl
  | f :: r, i, ms, he, hl, hb => by
    obtain ⟨hf, hr⟩ := drop_cons2 he
    have h := hd.2 i f hf
    have hsh : shapedM (forkP f) V = 0 := by
      show shapedK 4 (f.1 + 1) 2 V = 0
      unfold shapedK
      rw [if_neg (by omega), if_neg (by omega)]
    have hk : ((forkP f).kids.any fun k => decide (k < 0 ∨ (ms.length : Int) ≤ k)) = false := by
      show [f.2.1, f.2.2].any _ = false
      rw [List.any_cons, List.any_cons, List.any_nil, decide_eq_false (by omega), decide_eq_false (by omega)]
      rfl
    have hown : ownM (f.1 + 1) = 2 ^ f.1.toNat := by
      unfold ownM
      rw [if_neg (by omega), show (f.1 + 1).natAbs - 1 = f.1.toNat by omega]
    have hoff : ∀ k : Int, 0 ≤ k → k ≤ 1 + i → f.1 < lvlM V ns k → ownM (f.1 + 1) &&& ms.getD k.toNat 0 = 0 := fun k h0 h1 hlv => by
      rw [hown]
      refine and_zero2 fun b hb1 hb2 => ?_
      rw [Nat.testBit_two_pow] at hb1
      have hb1 := of_decide_eq_true hb1
      have := hb k.toNat b (by omega) hb2
      rw [show ((k.toNat : Nat) : Int) = k by omega] at this
      omega
    have hm : maskM (forkP f) ms = some (ownM (f.1 + 1) ||| ms.getD f.2.1.toNat 0 ||| ms.getD f.2.2.toNat 0) := by
      show maskGo 4 (ownM (f.1 + 1)) ms [f.2.1, f.2.2] (ownM (f.1 + 1)) = _
      rw [maskGo, if_neg, maskGo, if_neg, maskGo]
      · rintro (⟨a, _⟩ | ⟨_, a⟩)
        · omega
        · exact a (hoff _ h.2.2.2.1.1 h.2.2.2.1.2 h.2.2.2.2.2)
      · rintro (⟨a, _⟩ | ⟨_, a⟩)
        · omega
        · exact a (hoff _ h.2.2.1.1 h.2.2.1.2 h.2.2.2.2.1)
    rw [List.map_cons, checkedGo, if_neg (by rw [hsh]; simp), hk, hm]
    simp only [Bool.false_eq_true, if_false]
    refine checked_forks hd r (i + 1) _ hr (by simp; omega) fun j b hj hjb => ?_
    rw [getD_snoc2] at hjb
    by_cases hjl : j < ms.length
    · rw [if_pos hjl] at hjb
      exact hb j b hjl hjb
    · rw [if_neg hjl, if_pos (by simp at hj; omega)] at hjb
      have hji : (j : Int) = 2 + i := by simp at hj; omega
      have hlv : lvlM V ns j = f.1 := by
        unfold lvlM
        rw [if_neg (by omega), show ((j : Int) - 2).toNat = i by omega, hf]
      rw [hlv]
      rw [Nat.testBit_or, Nat.testBit_or, Bool.or_eq_true, Bool.or_eq_true] at hjb
      rcases hjb with (a | a) | a
      · rw [hown, Nat.testBit_two_pow] at a
        have a := of_decide_eq_true a
        omega
      · have := hb f.2.1.toNat b (by omega) a
        rw [show ((f.2.1.toNat : Nat) : Int) = f.2.1 by omega] at this
        omega
      · have := hb f.2.2.toNat b (by omega) a
        rw [show ((f.2.2.toNat : Nat) : Int) = f.2.2 by omega] at this
        omega
theorem dnf_checked {V root : Int} {ns : List Fork} (hd : DOk V ns) (h0 : 0 ≤ V) (h1 : V ≤ 40) (hl : ns.length ≤ 10000) : (checkedM ⟨V, dnfM root ns⟩).1 = 0 := by
  unfold checkedM
  rw [if_neg (by show ¬ V < 0; omega), if_neg (by show ¬ (40 < V ∨ 16384 < (dnfM root ns).length); unfold dnfM; split; simp; omega; split; simp; omega; simp; omega), if_neg (by show ¬ (dnfM root ns).length = 0; unfold dnfM; split; simp; split; simp; simp)]
  show (checkedGo V (dnfM root ns) []).1 = 0
  have sh0 : ∀ k : Int, k = 0 ∨ k = 1 → shapedM ⟨k, 0, []⟩ V = 0 := fun k hk => by
    show shapedK k 0 0 V = 0
    unfold shapedK
    rw [if_neg (by omega), if_neg (by omega)]
  have one : ∀ (k : Int) (r : List Part) (ms : List Nat), k = 0 ∨ k = 1 → checkedGo V (⟨k, 0, []⟩ :: r) ms = checkedGo V r (ms ++ [0]) := fun k r ms hk => by
    rw [checkedGo, if_neg (by rw [sh0 k hk]; simp)]
    rfl
  unfold dnfM
  split
  · rw [one 1 _ _ (.inr rfl)]; rfl
  split
  · rw [one 0 _ _ (.inl rfl)]; rfl
  · show (checkedGo V (⟨1, 0, []⟩ :: ⟨0, 0, []⟩ :: ns.map forkP) []).1 = 0
    rw [one 1 _ _ (.inr rfl), one 0 _ _ (.inl rfl)]
    refine checked_forks hd ns 0 _ rfl (by simp) fun r b hr hb => ?_
    simp at hr
    match r, hr with
    | 0, _ => simp at hb
    | 1, _ => simp at hb
/-- the values along the parts are the diagram's -/
theorem eval_forks {V : Int} {ns : List Fork} (hd : DOk V ns) (inp : List Bool) : ∀ (r : List Fork) (i : Nat) (vs : List Bool), ns.drop i = r → vs.length = 2 + i →
    (∀ j : Nat, j < 2 + i → vs.getD j false = decide (folV ns 2 (fun v => inp.getD v.toNat false) (j + 1) j = 1)) →
    ∀ j : Nat, j < 2 + ns.length → (evalGo inp (r.map forkP) vs).getD j false = decide (folV ns 2 (fun v => inp.getD v.toNat false) (j + 1) j = 1)
  | [], i, vs, he, hl, hv => fun j hj => by
    have : ns.length ≤ i := by
      have := congrArg List.length he
      simp at this
      omega
    exact hv j (by omega)
  | f :: r, i, vs, he, hl, hv => by
    obtain ⟨hf, hr⟩ := drop_cons2 he
    have h := hd.2 i f hf
    have hil : i < ns.length := (List.getElem?_eq_some_iff.1 hf).1
    rw [List.map_cons, evalGo]
    refine eval_forks hd inp r (i + 1) _ hr (by simp; omega) fun j hj => ?_
    rw [getD_snoc2]
    by_cases hjl : j < vs.length
    · rw [if_pos hjl]
      exact hv j (by omega)
    · have hje : j = 2 + i := by omega
      rw [if_neg hjl, if_pos (by omega)]
      subst hje
      have hst : evalStep inp (forkP f) vs = if inp.getD f.1.toNat false = true then vs.getD f.2.2.toNat false else vs.getD f.2.1.toNat false := by
        unfold evalStep forkP
        simp only [show ¬ (4 : Int) = 1 by omega, show ¬ (4 : Int) = 2 by omega, show ¬ (4 : Int) = 3 by omega, if_true, if_false, show (f.1 + 1).toNat - 1 = f.1.toNat by omega]
        rfl
      have hfol : folV ns 2 (fun v => inp.getD v.toNat false) (2 + i + 1) ((2 + i : Nat) : Int) = folV ns 2 (fun v => inp.getD v.toNat false) (2 + i) (if inp.getD f.1.toNat false = true then f.2.2 else f.2.1) := by
        rw [folV, if_neg (by omega), show (((2 + i : Nat) : Int) - 2).toNat = i by omega, hf]
      rw [hst, hfol]
      by_cases hh : inp.getD f.1.toNat false = true
      · rw [if_pos hh, if_pos hh, hv _ (by omega), show ((f.2.2.toNat : Nat) : Int) = f.2.2 by omega, fol_fuel2 hd _ (f.2.2.toNat + 1) (2 + i) f.2.2 (by omega) (by omega) (by omega)]
      · rw [if_neg hh, if_neg hh, hv _ (by omega), show ((f.2.1.toNat : Nat) : Int) = f.2.1 by omega, fol_fuel2 hd _ (f.2.1.toNat + 1) (2 + i) f.2.1 (by omega) (by omega) (by omega)]
theorem dnf_eval {V root : Int} {ns : List Fork} (hd : DOk V ns) (inp : List Bool) (hr : (0 ≤ root ∧ root < 2 ∧ ns = []) ∨ (ns ≠ [] ∧ root = 1 + ns.length)) : evalM (dnfM root ns) inp = decide (folV ns 2 (fun v => inp.getD v.toNat false) (root.toNat + 1) root = 1) := by
  rcases hr with ⟨h0, h1, rfl⟩ | ⟨hn, rfl⟩
  · rw [folV, if_pos h1]
    have : root = 0 ∨ root = 1 := by omega
    rcases this with rfl | rfl <;> rfl
  · have hpos : 0 < ns.length := List.length_pos_iff.2 hn
    have hdn : dnfM (1 + (ns.length : Int)) ns = ⟨1, 0, []⟩ :: ⟨0, 0, []⟩ :: ns.map forkP := by
      unfold dnfM
      rw [if_neg (by omega), if_neg (by omega)]
      rfl
    have hlen : (⟨1, 0, []⟩ :: ⟨0, 0, []⟩ :: ns.map forkP : List Part).length - 1 = 1 + ns.length := by simp; omega
    unfold evalM
    rw [hdn, hlen, evalGo, evalGo]
    have := eval_forks hd inp ns 0 [false, true] rfl rfl (fun j hj => by
      match j, hj with
      | 0, _ => rfl
      | 1, _ => rfl) (1 + ns.length) (by omega)
    rw [show ((1 + ns.length : Nat) : Int) = 1 + (ns.length : Int) by omega] at this
    rw [show (1 + (ns.length : Int)).toNat = 1 + ns.length by omega]
    exact this
theorem tab_get (m : Nat) : ∀ (d : Nat) (v k : Nat) (t : List Bool), v + d = m → t.length = 2 ^ d → tabV (fun w => (assM m k).getD w.toNat false) d v t = t.getD (k % 2 ^ d) false
  | 0, v, k, t, hm, ht => by
    rw [tabV, Nat.pow_zero, Nat.mod_one]
    match t with
    | [] => rfl
    | x :: _ => rfl
  | d + 1, v, k, t, hm, ht => by
    have hp : 2 ^ (d + 1) = 2 ^ d + 2 ^ d := by rw [Nat.pow_succ]; omega
    have ht1 : (t.take (2 ^ d)).length = 2 ^ d := by rw [List.length_take]; omega
    have ht2 : (t.drop (2 ^ d)).length = 2 ^ d := by rw [List.length_drop]; omega
    have hbit : (assM m k).getD ((v : Int)).toNat false = k.testBit d := by
      unfold assM
      simp only [List.getD_eq_getElem?_getD, List.getElem?_map]
      rw [show ((v : Int)).toNat = v by omega, List.getElem?_range (by omega)]
      simp only [Option.map_some, Option.getD_some]
      rw [show m - 1 - v = d by omega]
    rw [tabV]
    simp only [hbit]
    have I1 := tab_get m d (v + 1) k (t.take (2 ^ d)) (by omega) ht1
    have I2 := tab_get m d (v + 1) k (t.drop (2 ^ d)) (by omega) ht2
    rw [show ((v + 1 : Nat) : Int) = (v : Int) + 1 by omega] at I1 I2
    have hlt : k % 2 ^ d < 2 ^ d := Nat.mod_lt _ (Nat.two_pow_pos _)
    have hmod : k % 2 ^ (d + 1) = k % 2 ^ d + 2 ^ d * (k / 2 ^ d % 2) := Nat.mod_pow_succ
    have htb : k.testBit d = decide (k / 2 ^ d % 2 = 1) := Nat.testBit_eq_decide_div_mod_eq
    rw [I1, I2, htb, hmod]
    by_cases hb : k / 2 ^ d % 2 = 1
    · rw [decide_eq_true hb, if_pos rfl, hb, List.getD_eq_getElem?_getD, List.getD_eq_getElem?_getD, List.getElem?_drop, Nat.mul_one, Nat.add_comm]
    · have h0 : k / 2 ^ d % 2 = 0 := by omega
      rw [decide_eq_false hb, if_neg (by simp), h0, List.getD_eq_getElem?_getD, List.getD_eq_getElem?_getD, List.getElem?_take, if_pos (by simpa using hlt), Nat.mul_zero, Nat.add_zero]
/-- the normal form of the table's diagram has the table's values -/
theorem dia_table (m k : Nat) (t : List Bool) (ht : t.length = 2 ^ m) (hk : k < 2 ^ m) : evalM (dnfM (nodeM m t [] 0).1 (nodeM m t [] 0).2) (assM m k) = t.getD k false := by
  have h0 : DOk (m : Int) [] := ⟨List.nodup_nil, fun j f h => by simp at h⟩
  obtain ⟨_, hD, hr, _, hs⟩ := node_ok (V := m) m t [] 0 (by omega) (Int.le_refl _) ht h0
  have hroot := node_root (V := m) m t 0 (by omega) (Int.le_refl _) ht
  rw [dnf_eval hD _ (by
    rcases hroot with ⟨a, b⟩ | ⟨a, b⟩
    · exact .inl ⟨hr.1, a, b⟩
    · exact .inr ⟨a, b⟩), hs _ _ (by omega)]
  have := tab_get m m 0 k t (by omega) ht
  rw [Nat.mod_eq_of_lt hk] at this
  rw [show ((0 : Nat) : Int) = 0 from rfl] at this
  rw [this]
  rcases t.getD k false with _ | _ <;> rfl
/-- the number of parts -/
theorem dnf_len (m : Nat) (t : List Bool) (ht : t.length = 2 ^ m) : ((dnfM (nodeM m t [] 0).1 (nodeM m t [] 0).2).length : Int) = max 1 ((nodeM m t [] 0).2.length + 2 * min 1 ((nodeM m t [] 0).2.length : Int)) := by
  have h0 : DOk (m : Int) [] := ⟨List.nodup_nil, fun j f h => by simp at h⟩
  obtain ⟨_, hD, hr, _, hs⟩ := node_ok (V := m) m t [] 0 (by omega) (Int.le_refl _) ht h0
  rcases node_root (V := m) m t 0 (by omega) (Int.le_refl _) ht with ⟨a, b⟩ | ⟨a, b⟩
  · have : (nodeM m t [] 0).1 = 0 ∨ (nodeM m t [] 0).1 = 1 := by omega
    rw [b]
    rcases this with e | e <;> rw [e] <;> rfl
  · have hpos : 0 < (nodeM m t [] 0).2.length := List.length_pos_iff.2 a
    unfold dnfM
    rw [if_neg (by omega), if_neg (by omega)]
    simp only [List.length_append, List.length_cons, List.length_nil, List.length_map]
    omega
end Go.Proofs.Ytelobilhppoooaa
