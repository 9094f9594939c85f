/- Plain: the cores of both sides. No program in sight. -/
import Derived.Test.YtjbhglmmakkkgaaSu
namespace Go.Proofs.Ytjbhglmmakkkgaa
/-- the clauses that are neither dropped nor the i-th -/
def restGo (dr : List Bool) (i : Nat) : List (List Int) → Nat → List (List Int)
  | [], _ => []
  | c :: r, k => if k ≠ i ∧ dr.getD k false = false then c :: restGo dr i r (k + 1) else restGo dr i r (k + 1)
def dropGo (V : Nat) (cs : List (List Int)) : Nat → Nat → List Bool → List Bool
  | 0, _, dr => dr
  | f + 1, i, dr => dropGo V cs f (i + 1) (dr.set i (solveM V (restGo dr i cs 0) []).1.isNone)
/-- the places of what is not dropped -/
def leftGo : List Bool → Nat → List Int
  | [], _ => []
  | d :: r, k => if d = true then leftGo r (k + 1) else (k : Int) :: leftGo r (k + 1)
/-- sat's Core -/
def coreM (vars keep : Int) (cs : List (List Int)) : List Int × Int :=
  if checkM vars keep cs ≠ 0 then ([], 1) else if (solveM vars.toNat cs []).1.isSome = true then ([], 11)
  else (leftGo (dropGo vars.toNat cs cs.length 0 (List.replicate cs.length false)) 0, 0)
/-- the statement's core -/
def coreGo (V : Nat) (cs : List (List Int)) : Nat → Nat → List Bool → List Int
  | 0, _, _ => []
  | f + 1, i, ks => if 0 ≤ leastM V cs (ks.set i false) then (i : Int) :: coreGo V cs f (i + 1) ((ks.set i false).set i true) else coreGo V cs f (i + 1) (ks.set i false)
def scoreM (V : Nat) (cs : List (List Int)) : List Int := coreGo V cs cs.length 0 (List.replicate cs.length true)

theorem rest_mem {dr : List Bool} {i : Nat} : ∀ (cs : List (List Int)) (k : Nat) (c : List Int), c ∈ restGo dr i cs k ↔ ∃ j, cs[j]? = some c ∧ k + j ≠ i ∧ dr.getD (k + j) false = false
  | [], k, c => by simp [restGo]
  | a :: r, k, c => by
    have ih := rest_mem (dr := dr) (i := i) r (k + 1) c
    rw [restGo]
    have key : (∃ j, (a :: r)[j]? = some c ∧ k + j ≠ i ∧ dr.getD (k + j) false = false) ↔ (a = c ∧ k ≠ i ∧ dr.getD k false = false) ∨ ∃ j, r[j]? = some c ∧ k + 1 + j ≠ i ∧ dr.getD (k + 1 + j) false = false := by
      constructor
      · rintro ⟨j, h1, h2, h3⟩
        rcases j with _ | j
        · exact .inl ⟨by simpa using h1, h2, h3⟩
        · exact .inr ⟨j, by simpa using h1, by omega, by rwa [show k + 1 + j = k + (j + 1) by omega]⟩
      · rintro (⟨h1, h2, h3⟩ | ⟨j, h1, h2, h3⟩)
        · exact ⟨0, by simp [h1], h2, h3⟩
        · exact ⟨j + 1, by simpa using h1, by omega, by rwa [show k + (j + 1) = k + 1 + j by omega]⟩
    rw [key]
    split
    · rename_i h
      rw [List.mem_cons, ih]
      constructor
      · rintro (h1 | h1)
        · exact .inl ⟨h1.symm, h⟩
        · exact .inr h1
      · rintro (h1 | h1)
        · exact .inl h1.1.symm
        · exact .inr h1
    · rename_i h
      rw [ih]
      constructor
      · exact .inr
      · rintro (h1 | h1)
        · exact absurd h1.2 h
        · exact h1
theorem rest_sub {dr : List Bool} {i : Nat} {cs : List (List Int)} {c : List Int} (h : c ∈ restGo dr i cs 0) : c ∈ cs := by
  obtain ⟨j, h1, _⟩ := (rest_mem cs 0 c).1 h
  exact List.mem_of_getElem? h1
theorem holds_iff {x : List Bool} : ∀ (cs : List (List Int)) (ks : List Bool), holdsGo x cs ks = true ↔ ∀ (j : Nat) (c : List Int), cs[j]? = some c → ks.getD j false = true → c.any (litT x) = true
  | [], ks => by simp [holdsGo]
  | a :: r, ks => by
    have ih := holds_iff (x := x) r ks.tail
    have h0 : ks.headD false = ks.getD 0 false := by cases ks <;> rfl
    have ht : ∀ j, ks.tail.getD j false = ks.getD (j + 1) false := fun j => by cases ks <;> simp
    rw [holdsGo, h0]
    constructor
    · intro h j c hc hk
      rcases j with _ | j
      · simp at hc
        subst hc
        rw [hk] at h
        rcases ha : a.any (litT x) with _ | _
        · rw [ha] at h
          simp at h
        · rfl
      · have h2 : holdsGo x r ks.tail = true := by
          split at h
          · exact h
          · split at h
            · cases h
            · exact h
        exact (ih.1 h2) j c (by simpa using hc) (by rw [ht]; exact hk)
    · intro h
      have h2 : holdsGo x r ks.tail = true := ih.2 fun j c hc hk => h (j + 1) c (by simpa using hc) (by rw [← ht]; exact hk)
      split
      · exact h2
      · rename_i hk
        rw [h 0 a (by simp) (by simpa using hk)]
        simpa using h2
theorem model_iff {x : List Bool} {cs : List (List Int)} : modelB cs x = true ↔ ∀ c ∈ cs, c.any (litT x) = true := List.all_eq_true
/-- flags without the i-th: the same clauses as rest's -/
theorem holds_rest {x : List Bool} {cs : List (List Int)} {dr : List Bool} {i : Nat} (hl : dr.length = cs.length) : holdsGo x cs ((dr.map fun d => !d).set i false) = modelB (restGo dr i cs 0) x := by
  rw [Bool.eq_iff_iff, holds_iff, model_iff]
  have key : ∀ j, j < cs.length → (((dr.map fun d => !d).set i false).getD j false = true ↔ j ≠ i ∧ dr.getD j false = false) := by
    intro j hj
    rw [List.getD, List.getElem?_set]
    by_cases e : i = j
    · subst e
      simp [hl, hj]
    · rw [if_neg e, List.getElem?_map, List.getD, List.getElem?_eq_getElem (show j < dr.length by omega)]
      simp
      intro _ h
      exact e h.symm
  constructor
  · intro h c hc
    obtain ⟨j, h1, h2, h3⟩ := (rest_mem cs 0 c).1 hc
    rw [Nat.zero_add] at h2 h3
    exact h j c h1 ((key j (List.getElem?_eq_some_iff.1 h1).1).2 ⟨h2, h3⟩)
  · intro h j c h1 hk
    obtain ⟨h2, h3⟩ := (key j (List.getElem?_eq_some_iff.1 h1).1).1 hk
    exact h c ((rest_mem cs 0 c).2 ⟨j, h1, by omega, by rwa [Nat.zero_add]⟩)
/-- least with flags says whether what is kept has a model -/
theorem least_flags {V : Nat} {cs : List (List Int)} {ks : List Bool} : 0 ≤ leastM V cs ks ↔ ∃ x, x.length = V ∧ holdsGo x cs ks = true := by
  unfold leastM
  rcases leastGo_spec (V := V) (cs := cs) (ks := ks) (2 ^ V) 0 with ⟨h1, h2⟩ | ⟨i, h1, _, _, h4, _⟩
  · rw [h1]
    constructor
    · intro h; omega
    · rintro ⟨x, h3, h4⟩
      have h5 := val_lt x
      have h6 := asg_of_val x
      rw [h3] at h5 h6
      have := h2 (val x) (by omega) (by omega)
      rw [h6, h4] at this
      cases this
  · rw [h1]
    exact ⟨fun _ => ⟨_, asg_len _ _, h4⟩, fun _ => by omega⟩
theorem sat_iff {V : Nat} {cs : List (List Int)} (hcs : LitsOk V cs) : (solveM V cs []).1.isSome = true ↔ ∃ x, x.length = V ∧ modelB cs x = true := by
  have hok := solveM_ok (lits := []) hcs (by simp)
  rw [app_nil_lits] at hok
  rcases hr : (solveM V cs []).1 with _ | x
  · simp only [Option.isSome_none, Bool.false_eq_true, false_iff]
    rintro ⟨x, h1, h2⟩
    exact (hok.absent hr).1 x ⟨h1, h2, by simp⟩
  · simp only [Option.isSome_some, true_iff]
    obtain ⟨⟨h1, h2, _⟩, _⟩ := hok.found x hr
    exact ⟨x, h1, h2⟩
theorem restLits {V : Nat} {cs : List (List Int)} {dr : List Bool} {i : Nat} (hcs : LitsOk V cs) : LitsOk V (restGo dr i cs 0) := fun c hc => hcs c (rest_sub hc)
theorem dropGo_len {V : Nat} {cs : List (List Int)} : ∀ (f i : Nat) (dr : List Bool), (dropGo V cs f i dr).length = dr.length
  | 0, _, _ => rfl
  | f + 1, i, dr => by rw [dropGo, dropGo_len f]; simp
theorem dropGo_low {V : Nat} {cs : List (List Int)} : ∀ (f i : Nat) (dr : List Bool) (j : Nat), j < i → (dropGo V cs f i dr)[j]? = dr[j]?
  | 0, _, _, _, _ => rfl
  | f + 1, i, dr, j, h => by
    rw [dropGo, dropGo_low f (i + 1) _ j (by omega), List.getElem?_set, if_neg (by omega)]
theorem leftGo_drop {D : List Bool} {i : Nat} {d : Bool} (h : D[i]? = some d) : leftGo (D.drop i) i = if d = true then leftGo (D.drop (i + 1)) (i + 1) else (i : Int) :: leftGo (D.drop (i + 1)) (i + 1) := by
  obtain ⟨h1, h2⟩ := List.getElem?_eq_some_iff.1 h
  rw [List.drop_eq_getElem_cons h1, h2, leftGo]
theorem core_eq {V : Nat} {cs : List (List Int)} (hcs : LitsOk V cs) : ∀ (f i : Nat) (dr : List Bool), dr.length = cs.length → i + f = cs.length →
    leftGo ((dropGo V cs f i dr).drop i) i = coreGo V cs f i (dr.map fun d => !d)
  | 0, i, dr, hl, hi => by
    rw [List.drop_eq_nil_of_le (by rw [dropGo_len]; omega)]
    rfl
  | f + 1, i, dr, hl, hi => by
    obtain ⟨d, hd⟩ : ∃ d, (solveM V (restGo dr i cs 0) []).1.isNone = d := ⟨_, rfl⟩
    have ih := core_eq hcs f (i + 1) (dr.set i d) (by simpa using hl) (by omega)
    have hD : (dropGo V cs (f + 1) i dr)[i]? = some d := by
      rw [dropGo, hd, dropGo_low f (i + 1) _ i (by omega), List.getElem?_set, if_pos rfl, if_pos (by omega)]
    rw [leftGo_drop hD, coreGo]
    rw [dropGo, hd, ih]
    have hm : (dr.set i d).map (fun d => !d) = (dr.map fun d => !d).set i (!d) := by rw [List.map_set]
    have hs : 0 ≤ leastM V cs ((dr.map fun d => !d).set i false) ↔ d = false := by
      rw [least_flags]
      simp only [holds_rest hl]
      rw [← sat_iff (restLits hcs), ← hd]
      cases (solveM V (restGo dr i cs 0) []).1 <;> simp
    rw [hm]
    rcases d with _ | _
    · rw [if_neg (by simp), if_pos (hs.2 rfl), List.set_set]
      rfl
    · rw [if_pos rfl, if_neg (fun h => by have := hs.1 h; cases this)]
      rfl
theorem core_score {V : Nat} {cs : List (List Int)} (hcs : LitsOk V cs) : leftGo (dropGo V cs cs.length 0 (List.replicate cs.length false)) 0 = scoreM V cs := by
  have := core_eq hcs cs.length 0 (List.replicate cs.length false) (by simp) (by omega)
  rw [List.drop_zero, List.map_replicate] at this
  exact this
end Go.Proofs.Ytjbhglmmakkkgaa
