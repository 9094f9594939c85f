/- Plain: the statement's valid is Check's OK. No program in sight. -/
import Derived.Test.YtjbhglmmakkkgaaSw13
namespace Go.Proofs.Ytjbhglmmakkkgaa
/-- clause -/
def clauseGo (V : Nat) : Option Int → List Int → Bool
  | _, [] => true
  | none, x :: r => litB V x && clauseGo V (some x) r
  | some q, x :: r => (litB V x && decide (varM q < varM x)) && clauseGo V (some x) r
/-- before -/
def beforeM : List Int → List Int → Bool
  | [], [] => false
  | [], _ :: _ => true
  | _ :: _, [] => false
  | a :: r, b :: s => if a = b then beforeM r s else if varM a ≠ varM b then decide (varM a < varM b) else decide (a < b)
def validGo (V : Nat) : Option (List Int) → List (List Int) → Bool
  | _, [] => true
  | none, x :: r => clauseGo V none x && validGo V (some x) r
  | some q, x :: r => (clauseGo V none x && beforeM q x) && validGo V (some x) r
def validM (vars keep : Int) (cs : List (List Int)) : Bool :=
  if vars < 0 ∨ 20000 < vars ∨ keep < 0 ∨ vars < keep ∨ 60000 < cs.length then false else validGo vars.toNat none cs

theorem litB_iff {V : Nat} {n : Int} : litB V n = true ↔ LitOk V n := by
  unfold litB LitOk
  simp [and_assoc]
theorem litB_outB {V : Nat} {n : Int} : litB V n = !outB V n := by
  unfold litB outB varM
  rw [Bool.eq_iff_iff]
  simp
  split <;> omega
theorem varM_pos (n : Int) : varM n = n.natAbs := by unfold varM; split <;> omega
theorem cmpM_lt {x y : Int} : cmpM x y < 0 ↔ x < y := by unfold cmpM; split <;> (try split) <;> omega
theorem cmpM_zero {x y : Int} : cmpM x y = 0 ↔ x = y := by unfold cmpM; split <;> (try split) <;> omega
theorem litC_zero {a b : Int} : litC a b = 0 ↔ a = b := by
  unfold litC
  split
  · rename_i h
    constructor
    · intro h2; exact absurd h2 h
    · rintro rfl; exact absurd (cmpM_zero.2 rfl) h
  · exact cmpM_zero
theorem litC_lt {a b : Int} : litC a b < 0 ↔ varM a < varM b ∨ varM a = varM b ∧ a < b := by
  unfold litC
  split
  · rename_i h
    rw [cmpM_lt]
    have : varM a ≠ varM b := fun e => h (cmpM_zero.2 e)
    omega
  · rename_i h
    have : varM a = varM b := cmpM_zero.1 (by omega)
    rw [cmpM_lt]
    omega
/-- a clause of literals in order, without opposed ones, is strictly ascending in its variables -/
theorem clause_eq {V : Nat} : ∀ (x : List Int) (q : Int), (clauseGo V (some q) x = true ↔ (x.any (outB V) = false ∧ oppM (q :: x) = false ∧ srtM (q :: x) = true))
  | [], q => by simp [clauseGo, oppM, srtM]
  | a :: r, q => by
    have ih := clause_eq (V := V) r a
    rw [clauseGo, Bool.and_eq_true, ih, List.any_cons, oppM, srtM, litB_outB]
    simp only [Bool.and_eq_true, Bool.or_eq_false_iff, decide_eq_true_eq, Bool.not_eq_true']
    rw [litC_lt]
    have key : outB V a = false → ((varM q < varM a) ↔ ((decide (a ≠ 0) && decide (a = -q) && decide (a ≠ q)) = false ∧ (varM q < varM a ∨ varM q = varM a ∧ q < a))) := by
      intro ho
      have ha : a ≠ 0 := by
        intro e
        subst e
        simp [outB] at ho
      rw [varM_pos, varM_pos]
      by_cases h1 : a = -q <;> by_cases h2 : a = q <;> simp [h1, h2] <;> omega
    constructor
    · rintro ⟨⟨h1, h2⟩, h3, h4, h5⟩
      obtain ⟨k1, k2⟩ := (key h1).1 h2
      exact ⟨⟨h1, h3⟩, ⟨k1, h4⟩, k2, h5⟩
    · rintro ⟨⟨h1, h3⟩, ⟨k1, h4⟩, k2, h5⟩
      exact ⟨⟨h1, (key h1).2 ⟨k1, k2⟩⟩, h3, h4, h5⟩
theorem clause_eq0 {V : Nat} (x : List Int) : clauseGo V none x = true ↔ (x.any (outB V) = false ∧ oppM x = false ∧ srtM x = true) := by
  cases x with
  | nil => simp [clauseGo, oppM, srtM]
  | cons a r =>
    rw [clauseGo, Bool.and_eq_true, clause_eq, litB_outB, List.any_cons]
    simp only [Bool.or_eq_false_iff, Bool.not_eq_true']
    constructor
    · rintro ⟨h1, h2, h3⟩; exact ⟨⟨h1, h2⟩, h3⟩
    · rintro ⟨⟨h1, h2⟩, h3⟩; exact ⟨h1, h2, h3⟩
theorem before_eq : ∀ (a b : List Int), beforeM a b = decide (clsC a b < 0)
  | [], [] => rfl
  | [], _ :: _ => rfl
  | _ :: _, [] => rfl
  | a :: r, b :: s => by
    rw [beforeM, clsC]
    by_cases h : a = b
    · rw [if_pos h, if_neg (by simpa using litC_zero.2 h), before_eq r s]
    · have h2 : litC a b ≠ 0 := fun e => h (litC_zero.1 e)
      rw [if_neg h, if_pos h2]
      rw [Bool.eq_iff_iff, decide_eq_true_eq, litC_lt]
      split
      · rw [decide_eq_true_eq]; omega
      · rw [decide_eq_true_eq]; omega
theorem valid_eq {V : Nat} : ∀ (cs : List (List Int)) (q : List Int), (validGo V (some q) cs = true ↔ ((cs.any fun c => c.any (outB V)) = false ∧ canGo (some q) cs = true))
  | [], q => by simp [validGo, canGo]
  | x :: r, q => by
    have ih := valid_eq (V := V) r x
    rw [validGo, canGo, Bool.and_eq_true, ih, Bool.and_eq_true, clause_eq0, before_eq, List.any_cons]
    simp only [Bool.or_eq_false_iff, Bool.and_eq_true, decide_eq_true_eq, Bool.not_eq_true', decide_eq_false_iff_not, Int.not_le]
    constructor
    · rintro ⟨⟨⟨h1, h2, h3⟩, h4⟩, h5, h6⟩
      exact ⟨⟨h1, h5⟩, ⟨h4, h2⟩, h3, h6⟩
    · rintro ⟨⟨h1, h5⟩, ⟨h4, h2⟩, h3, h6⟩
      exact ⟨⟨⟨h1, h2, h3⟩, h4⟩, h5, h6⟩
theorem valid_eq0 {V : Nat} (cs : List (List Int)) : validGo V none cs = true ↔ ((cs.any fun c => c.any (outB V)) = false ∧ canGo none cs = true) := by
  cases cs with
  | nil => simp [validGo, canGo]
  | cons x r =>
    rw [validGo, canGo, Bool.and_eq_true, valid_eq, clause_eq0, List.any_cons]
    simp only [Bool.or_eq_false_iff, Bool.and_eq_true, Bool.not_eq_true']
    constructor
    · rintro ⟨⟨h1, h2, h3⟩, h5, h6⟩
      exact ⟨⟨h1, h5⟩, h2, h3, h6⟩
    · rintro ⟨⟨h1, h5⟩, h2, h3, h6⟩
      exact ⟨⟨h1, h2, h3⟩, h5, h6⟩
theorem valid_check (vars keep : Int) (cs : List (List Int)) : validM vars keep cs = true ↔ checkM vars keep cs = 0 := by
  unfold validM checkM
  by_cases h1 : vars < 0 ∨ keep < 0 ∨ vars < keep
  · rw [if_pos (by omega), if_pos h1]; simp
  rw [if_neg h1]
  by_cases h2 : 20000 < vars ∨ 60000 < cs.length
  · rw [if_pos (by omega), if_pos h2]; simp
  rw [if_neg h2, if_neg (by omega), valid_eq0]
  cases (cs.any fun c => c.any (outB vars.toNat)) <;> cases canGo none cs <;> simp
end Go.Proofs.Ytjbhglmmakkkgaa
