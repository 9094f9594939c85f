/- Plain: the number of models in which a variable is true. No program in sight. -/
import Derived.Test.YtljljagkccmogaaFw2
namespace Go.Proofs.Ytljljagkccmogaa

theorem Cn_set : ∀ (n v : Nat) (b : Bool) (f : List Bool → Bool), v < n → Cn n (fun a => f (a.set v b)) = 2 * Cn n (fun a => f a && (a.getD v false == b))
  | 0, v, _, _, h => by omega
  | n + 1, 0, b, f, _ => by
    simp only [Cn, List.set_cons_zero, List.getD_cons_zero]
    cases b <;> simp [Cn_false] <;> omega
  | n + 1, v + 1, b, f, h => by
    have h0 := Cn_set n v b (fun a => f (false :: a)) (by omega)
    have h1 := Cn_set n v b (fun a => f (true :: a)) (by omega)
    simp only [Cn, List.set_cons_succ, List.getD_cons_succ]
    omega
theorem models_len (V : Nat) (ps : List Part) : (modelsM V ps).length = Cn V (evalM ps) := by rw [modelsM, Cn_filter]
theorem models_mem {V : Nat} {ps : List Part} {m : List Bool} (h : m ∈ modelsM V ps) : m.length = V := allA_mem V m (List.mem_filter.1 h).1

/-- how many of the lists are true at the place j -/
def cntAt (mss : List (List Bool)) (j : Nat) : Nat := (mss.filter fun m => m.getD j false).length
def cntM (V : Nat) (mss : List (List Bool)) : List Int := (List.range V).map fun j => ((cntAt mss j : Nat) : Int)
/-- and m besides, at the places below k -/
def cntP (V : Nat) (mss : List (List Bool)) (m : List Bool) (k : Nat) : List Int := (List.range V).map fun j => ((cntAt mss j : Nat) : Int) + (if j < k ∧ m.getD j false = true then 1 else 0)
theorem cntAt_le (mss : List (List Bool)) (j : Nat) : cntAt mss j ≤ mss.length := List.length_filter_le _ _
theorem cntP_zero (V : Nat) (mss : List (List Bool)) (m : List Bool) : cntP V mss m 0 = cntM V mss := by
  unfold cntP cntM
  apply List.map_congr_left
  intro j _
  simp
theorem cntP_full (V : Nat) (mss : List (List Bool)) (m : List Bool) : cntP V mss m V = cntM V (mss ++ [m]) := by
  unfold cntP cntM cntAt
  apply List.map_congr_left
  intro j hj
  have hj := List.mem_range.1 hj
  rw [List.filter_append, List.length_append]
  have hf : (List.filter (fun m => m.getD j false) [m]).length = if m.getD j false = true then 1 else 0 := by
    cases hm : m.getD j false
    · rw [List.filter_cons, if_neg (by rw [hm]; simp)]; rfl
    · rw [List.filter_cons, if_pos hm]; rfl
  rw [hf]
  by_cases hm : m.getD j false = true
  · rw [if_pos hm, if_pos ⟨hj, hm⟩]; rfl
  · rw [if_neg hm, if_neg (fun h => hm h.2)]; rfl
theorem cntP_skip (V : Nat) (mss : List (List Bool)) (m : List Bool) (k : Nat) (h : m.getD k false = false) : cntP V mss m (k + 1) = cntP V mss m k := by
  unfold cntP
  apply List.map_congr_left
  intro j _
  by_cases hj : j = k
  · subst hj; rw [if_neg (by rw [h]; simp), if_neg (by rw [h]; simp)]
  · have : (j < k + 1 ∧ m.getD j false = true) ↔ (j < k ∧ m.getD j false = true) := by constructor <;> rintro ⟨a, b⟩ <;> exact ⟨by omega, b⟩
    by_cases hc : j < k ∧ m.getD j false = true
    · rw [if_pos hc, if_pos (this.2 hc)]
    · rw [if_neg hc, if_neg (fun h => hc (this.1 h))]
theorem cntP_at (V : Nat) (mss : List (List Bool)) (m : List Bool) (k : Nat) (hk : k < V) : (cntP V mss m k)[k]? = some ((cntAt mss k : Nat) : Int) := by
  unfold cntP
  rw [List.getElem?_map, List.getElem?_range hk]
  simp
theorem cntP_set (V : Nat) (mss : List (List Bool)) (m : List Bool) (k : Nat) (h : m.getD k false = true) : (cntP V mss m k).set k (((cntAt mss k : Nat) : Int) + 1) = cntP V mss m (k + 1) := by
  apply List.ext_getElem?
  intro j
  unfold cntP
  by_cases hjV : j < V
  · by_cases hj : j = k
    · subst hj
      rw [List.getElem?_set_self (by simpa using hjV), List.getElem?_map, List.getElem?_range hjV]
      simp only [Option.map_some]
      rw [if_pos ⟨by omega, h⟩]
    · rw [List.getElem?_set_ne (fun e => hj e.symm), List.getElem?_map, List.getElem?_map, List.getElem?_range hjV]
      simp only [Option.map_some]
      have : (j < k + 1 ∧ m.getD j false = true) ↔ (j < k ∧ m.getD j false = true) := by constructor <;> rintro ⟨a, b⟩ <;> exact ⟨by omega, b⟩
      by_cases hc : j < k ∧ m.getD j false = true
      · rw [if_pos hc, if_pos (this.2 hc)]
      · rw [if_neg hc, if_neg (fun h => hc (this.1 h))]
  · rw [List.getElem?_eq_none (by simp; omega), List.getElem?_eq_none (by simp; omega)]

theorem freq_eq (V : Nat) (ps : List Part) : (List.range V).map (freqN V ps) = cntM V (modelsM V ps) := by
  unfold cntM
  apply List.map_congr_left
  intro j hj
  have hj := List.mem_range.1 hj
  unfold freqN withN cntAt modelsM
  rw [List.filter_filter]
  have h1 : Cn V (fun a => evalM ps (chGo [(j : Int) + 1] a)) = 2 * Cn V (fun a => evalM ps a && (a.getD j false == true)) := by
    rw [← Cn_set V j true (evalM ps) hj]
    congr 1
    funext a
    have e1 : ((j : Int) + 1).natAbs - 1 = j := by omega
    have e2 : decide ((0 : Int) < (j : Int) + 1) = true := by rw [decide_eq_true_eq]; omega
    simp only [chGo, e1, e2]
  rw [h1, Cn_filter]
  simp only [List.length_cons, List.length_nil, Nat.zero_add, Nat.pow_one]
  rw [Nat.mul_div_cancel_left _ (by decide)]
  congr 3
  funext a
  cases evalM ps a <;> cases a.getD j false <;> rfl
end Go.Proofs.Ytljljagkccmogaa
