/- Plain: the n-th model in lexicographic order, found by counting the models that agree with literals. No program in sight. -/
import Derived.Test.YtljljagkccmogaaMc
namespace Go.Proofs.Ytljljagkccmogaa

theorem Cn_drop : ∀ (v n : Nat) (g : List Bool → Bool), Cn (v + n) (fun a => g (a.drop v)) = 2 ^ v * Cn n g
  | 0, n, g => by simp
  | v + 1, n, g => by
    have h := Cn_drop v n g
    rw [show v + 1 + n = (v + n) + 1 by omega]
    simp only [Cn, List.drop_succ_cons, h, Nat.pow_succ]
    rw [Nat.mul_assoc, Nat.mul_comm 2, ← Nat.mul_assoc]
    omega

/-- the literals of the values from the place i on -/
def litsGo : Nat → List Bool → List Int
  | _, [] => []
  | i, b :: r => (if b = true then (i : Int) + 1 else -((i : Int) + 1)) :: litsGo (i + 1) r
theorem litsGo_len : ∀ (p : List Bool) (i : Nat), (litsGo i p).length = p.length
  | [], _ => rfl
  | b :: r, i => by rw [litsGo, List.length_cons, List.length_cons, litsGo_len r]
theorem litsGo_snoc : ∀ (p : List Bool) (i : Nat) (b : Bool), litsGo i (p ++ [b]) = litsGo i p ++ [if b = true then ((i + p.length : Nat) : Int) + 1 else -(((i + p.length : Nat) : Int) + 1)]
  | [], i, b => by simp [litsGo]
  | c :: r, i, b => by
    rw [List.cons_append, litsGo, litsGo, litsGo_snoc r (i + 1) b, List.cons_append, List.length_cons]
    rw [show i + 1 + r.length = i + (r.length + 1) by omega]
theorem litsGo_set (p : List Bool) : (litsGo 0 (p ++ [false])).set p.length ((p.length : Int) + 1) = litsGo 0 (p ++ [true]) := by
  rw [litsGo_snoc, litsGo_snoc, List.set_append_right _ _ (by rw [litsGo_len]; omega), litsGo_len]
  simp
theorem litsGo_ok (V : Nat) : ∀ (p : List Bool) (i : Nat), i + p.length ≤ V → LitsOk V (litsGo i p)
  | [], _, _ => by intro l hl; simp [litsGo] at hl
  | b :: r, i, h => by
    rw [List.length_cons] at h
    intro l hl
    rw [litsGo] at hl
    rcases List.mem_cons.1 hl with rfl | hl
    · split <;> omega
    · exact litsGo_ok V r (i + 1) (by omega) l hl
theorem litsGo_asg : ∀ (p : List Bool) (i : Nat), (litsGo i p).map (fun l => decide (0 < l)) = p
  | [], _ => rfl
  | b :: r, i => by
    rw [litsGo, List.map_cons, litsGo_asg r]
    congr 1
    cases b <;> simp <;> omega
theorem litsGo_ch : ∀ (p : List Bool) (i : Nat) (a : List Bool), i + p.length ≤ a.length → chGo (litsGo i p) a = a.take i ++ p ++ a.drop (i + p.length)
  | [], i, a, h => by simp [litsGo, chGo]
  | b :: r, i, a, h => by
    rw [List.length_cons] at h
    have e1 : (if b = true then (i : Int) + 1 else -((i : Int) + 1)).natAbs - 1 = i := by split <;> omega
    have e2 : decide (0 < (if b = true then (i : Int) + 1 else -((i : Int) + 1))) = b := by cases b <;> simp <;> omega
    rw [litsGo, chGo, e1, e2, litsGo_ch r (i + 1) _ (by simp; omega)]
    have h1 : (a.set i b).take (i + 1) = a.take i ++ [b] := by
      rw [List.take_succ_eq_append_getElem (by simp; omega), List.take_set_of_le (Nat.le_refl _)]
      simp
    have h2 : (a.set i b).drop (i + 1 + r.length) = a.drop (i + (r.length + 1)) := by
      rw [List.drop_set_of_lt (by omega), show i + 1 + r.length = i + (r.length + 1) by omega]
    rw [h1, h2, List.length_cons]
    simp

theorem with_prefix {V : Nat} {ps : List Part} (p : List Bool) (h : p.length ≤ V) : withN V ps (litsGo 0 p) = Cn (V - p.length) (fun b => evalM ps (p ++ b)) := by
  unfold withN
  rw [litsGo_len]
  have h1 : Cn V (fun a => evalM ps (chGo (litsGo 0 p) a)) = Cn V (fun a => (fun b => evalM ps (p ++ b)) (a.drop p.length)) := Cn_ext _ _ _ fun a ha => by
    rw [litsGo_ch p 0 a (by omega)]
    simp
  have h2 := Cn_drop p.length (V - p.length) (fun b => evalM ps (p ++ b))
  rw [show p.length + (V - p.length) = V by omega] at h2
  rw [h1, h2, Nat.mul_div_cancel_left _ (Nat.two_pow_pos _)]

/-- the n-th list that satisfies f, from the prefix p on -/
def nthGo (f : List Bool → Bool) : Nat → List Bool → Nat → List Bool
  | 0, p, _ => p
  | r + 1, p, n => if Cn r (fun b => f ((p ++ [false]) ++ b)) ≤ n then nthGo f r (p ++ [true]) (n - Cn r (fun b => f ((p ++ [false]) ++ b))) else nthGo f r (p ++ [false]) n
theorem nthGo_spec (f : List Bool → Bool) : ∀ (r : Nat) (p : List Bool) (n : Nat) (b : List Bool), ((allA r).filter (fun b => f (p ++ b)))[n]? = some b → nthGo f r p n = p ++ b
  | 0, p, n, b, h => by
    simp only [allA, List.filter_cons, List.filter_nil] at h
    rw [nthGo]
    split at h
    · rcases n with _ | n
      · simp at h; subst h; simp
      · simp at h
    · simp at h
  | r + 1, p, n, b, h => by
    simp only [allA, List.filter_append, List.filter_map] at h
    have e0 : ((fun b => f (p ++ b)) ∘ fun x => false :: x) = fun b => f ((p ++ [false]) ++ b) := by funext x; simp [Function.comp]
    have e1 : ((fun b => f (p ++ b)) ∘ fun x => true :: x) = fun b => f ((p ++ [true]) ++ b) := by funext x; simp [Function.comp]
    rw [e0, e1] at h
    have hl : (List.map (fun x => false :: x) ((allA r).filter fun b => f ((p ++ [false]) ++ b))).length = Cn r (fun b => f ((p ++ [false]) ++ b)) := by rw [List.length_map, Cn_filter]
    rw [nthGo]
    by_cases hn : Cn r (fun b => f ((p ++ [false]) ++ b)) ≤ n
    · rw [if_pos hn]
      rw [List.getElem?_append_right (by omega), hl, List.getElem?_map] at h
      rcases hx : ((allA r).filter fun b => f ((p ++ [true]) ++ b))[n - Cn r (fun b => f ((p ++ [false]) ++ b))]? with _ | c
      · rw [hx] at h; simp at h
      · rw [hx] at h
        simp at h
        rw [nthGo_spec f r _ _ c hx, ← h]
        simp
    · rw [if_neg hn]
      rw [List.getElem?_append_left (by omega), List.getElem?_map] at h
      rcases hx : ((allA r).filter fun b => f ((p ++ [false]) ++ b))[n]? with _ | c
      · rw [hx] at h; simp at h
      · rw [hx] at h
        simp at h
        rw [nthGo_spec f r _ _ c hx, ← h]
        simp
theorem nth_eq {V : Nat} {ps : List Part} {n : Nat} {m : List Bool} (h : (modelsM V ps)[n]? = some m) : nthGo (evalM ps) V [] n = m := by
  have := nthGo_spec (evalM ps) V [] n m (by simpa [modelsM] using h)
  simpa using this
theorem nthGo_len (f : List Bool → Bool) : ∀ (r : Nat) (p : List Bool) (n : Nat), (nthGo f r p n).length = p.length + r
  | 0, p, n => rfl
  | r + 1, p, n => by
    rw [nthGo]
    split <;> rw [nthGo_len f r] <;> simp <;> omega
end Go.Proofs.Ytljljagkccmogaa
