/- Plain: the statement's least and the search agree. No program in sight. -/
import Derived.Test.YtjbhglmmakkkgaaSz3
import Derived.Test.YtjbhglmmakkkgaaSw15
namespace Go.Proofs.Ytjbhglmmakkkgaa
theorem holds_model {x : List Bool} : ∀ (cs : List (List Int)) (n : Nat), n = cs.length → holdsGo x cs (List.replicate n true) = modelB cs x
  | [], _, _ => by simp [holdsGo, modelB]
  | c :: r, n, h => by
    obtain ⟨m, rfl⟩ : ∃ m, n = m + 1 := ⟨r.length, by simpa using h⟩
    have ih := holds_model (x := x) r m (by simpa using h)
    rw [holdsGo, List.replicate_succ]
    simp only [List.headD_cons, List.tail_cons]
    show (if c.any (litT x) = false then false else holdsGo x r (List.replicate m true)) = _
    rw [ih]
    unfold modelB
    rw [List.all_cons]
    generalize c.any (litT x) = b
    generalize List.all r _ = d
    cases b
    · rfl
    · rfl
theorem leastGo_spec {V : Nat} {cs : List (List Int)} {ks : List Bool} : ∀ (f k : Nat),
    (leastGo V cs ks f k = -1 ∧ ∀ i, k ≤ i → i < k + f → holdsGo (asgM V i) cs ks = false) ∨
    ∃ i : Nat, leastGo V cs ks f k = (i : Int) ∧ k ≤ i ∧ i < k + f ∧ holdsGo (asgM V i) cs ks = true ∧ ∀ j, k ≤ j → j < i → holdsGo (asgM V j) cs ks = false
  | 0, k => .inl ⟨rfl, fun i h1 h2 => by omega⟩
  | f + 1, k => by
    rcases h : holdsGo (asgM V k) cs ks with _ | _
    · rcases leastGo_spec f (k + 1) with ⟨h1, h2⟩ | ⟨i, h1, h2, h3, h4, h5⟩
      · refine .inl ⟨by rw [leastGo, h, if_neg (by simp), h1], fun i k1 k2 => ?_⟩
        by_cases e : i = k
        · subst e; exact h
        · exact h2 i (by omega) (by omega)
      · refine .inr ⟨i, by rw [leastGo, h, if_neg (by simp), h1], by omega, by omega, h4, fun j k1 k2 => ?_⟩
        by_cases e : j = k
        · subst e; exact h
        · exact h5 j (by omega) k2
    · exact .inr ⟨k, by rw [leastGo, h, if_pos rfl], Nat.le_refl _, by omega, h, fun j k1 k2 => by omega⟩
theorem app_nil_lits {cs : List (List Int)} : cs ++ ([] : List Int).map (fun l => [l]) = cs := by simp
/-- the least model's number is what the search finds -/
theorem least_solve {V : Nat} {cs : List (List Int)} (hcs : LitsOk V cs) :
    leastM V cs (List.replicate cs.length true) = (match (solveM V cs []).1 with | none => -1 | some x => (val x : Int)) := by
  have hok := solveM_ok (lits := []) hcs (by simp)
  rw [app_nil_lits] at hok
  have hh : ∀ i, holdsGo (asgM V i) cs (List.replicate cs.length true) = modelB cs (asgM V i) := fun i => holds_model cs _ rfl
  rcases leastGo_spec (V := V) (cs := cs) (ks := List.replicate cs.length true) (2 ^ V) 0 with ⟨h1, h2⟩ | ⟨i, h1, h2, h3, h4, h5⟩
  · rw [leastM, h1]
    rcases hr : (solveM V cs []).1 with _ | x
    · rfl
    · obtain ⟨⟨k1, k2, _⟩, _⟩ := hok.found x hr
      have h6 := val_lt x
      rw [k1] at h6
      have h3 := h2 (val x) (by omega) (by omega)
      have h7 := asg_of_val x
      rw [k1] at h7
      rw [hh, h7, k2] at h3
      cases h3
  · rw [leastM, h1]
    rw [hh] at h4
    have hm : Mod V cs [] (asgM V i) := ⟨asg_len _ _, h4, by simp⟩
    rcases hr : (solveM V cs []).1 with _ | x
    · exact absurd hm ((hok.absent hr).1 _)
    · obtain ⟨⟨k1, k2, _⟩, k3⟩ := hok.found x hr
      have h6 := val_lt x
      rw [k1] at h6
      have h7 := k3 _ hm
      rw [asg_val, Nat.mod_eq_of_lt (by omega)] at h7
      simp only
      have h8 := asg_of_val x
      rw [k1] at h8
      rcases Nat.lt_or_ge (val x) i with h9 | h9
      · have := h5 (val x) (by omega) h9
        rw [hh, h8, k2] at this
        cases this
      · omega
end Go.Proofs.Ytjbhglmmakkkgaa
