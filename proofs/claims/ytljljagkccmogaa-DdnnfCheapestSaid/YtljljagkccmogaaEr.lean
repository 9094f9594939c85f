/- Plain: the statement's own search for the least cost. No program in sight. -/
import Derived.Test.YtljljagkccmogaaEw4
import Derived.Test.YtljljagkccmogaaCw5
namespace Go.Proofs.Ytljljagkccmogaa

/-- the best of a list, from (b, w) on: -1 stands for none -/
def bestL (no yes : List Int) : List (List Bool) → Int → List Bool → Int × List Bool
  | [], b, w => (b, w)
  | a :: r, b, w => if b < 0 ∨ costL no yes 0 a < b then bestL no yes r (costL no yes 0 a) a else bestL no yes r b w
theorem costL_bd {no yes : List Int} {V : Nat} (h1 : CostOk V no) (h2 : CostOk V yes) : ∀ (a : List Bool) (i : Nat), 0 ≤ costL no yes i a ∧ costL no yes i a ≤ 1048576 * a.length
  | [], _ => by simp [costL]
  | b :: r, i => by
    have h := costL_bd h1 h2 r (i + 1)
    have w := wOf_bd h1 h2 i b
    simp only [costL, List.length_cons]
    omega
theorem bestL_keep {no yes : List Int} : ∀ (L : List (List Bool)) (b : Int) (w : List Bool), 0 ≤ b → (∀ a ∈ L, b ≤ costL no yes 0 a) → bestL no yes L b w = (b, w)
  | [], _, _, _, _ => rfl
  | a :: r, b, w, h0, h => by
    have ha := h a (by simp)
    rw [bestL, if_neg (by omega)]
    exact bestL_keep r b w h0 fun x hx => h x (by simp [hx])
theorem bestL_find {no yes : List Int} {c : Int} (hc : 0 ≤ c) : ∀ (L : List (List Bool)) (b : Int) (w x : List Bool), (∀ a ∈ L, c ≤ costL no yes 0 a) → L.find? (fun a => costL no yes 0 a == c) = some x → (b < 0 ∨ c < b) → bestL no yes L b w = (c, x)
  | [], _, _, _, _, h, _ => by simp at h
  | a :: r, b, w, x, h, hf, hb => by
    have ha := h a (by simp)
    rw [List.find?_cons] at hf
    rw [bestL]
    by_cases he : costL no yes 0 a = c
    · rw [he] at hf ⊢
      simp at hf
      subst hf
      rw [if_pos hb]
      exact bestL_keep r c a hc fun x hx => h x (by simp [hx])
    · have hne : (costL no yes 0 a == c) = false := by simp [he]
      rw [hne] at hf
      split
      · exact bestL_find hc r _ _ x (fun y hy => h y (by simp [hy])) hf (.inr (by omega))
      · exact bestL_find hc r _ _ x (fun y hy => h y (by simp [hy])) hf hb
theorem law_best {no yes : List Int} {V : Nat} {ps : List Part} (h : (checkedM ⟨V, ps⟩).1 = 0) (h1 : CostOk V no) (h2 : CostOk V yes) :
    bestL no yes (modelsM V ps) (-1) [] = if (cheapV no yes V ps).2 = true then ((cheapV no yes V ps).1, cgo (evalM ps) (costL no yes 0) (cheapV no yes V ps).1 V []) else (-1, []) := by
  obtain ⟨_, _, hm, hc0, _⟩ := cheap_ok h h1 h2
  rw [show cheapM no yes V ps (checkedM ⟨V, ps⟩).2 = cheapV no yes V ps from rfl] at hm hc0
  generalize cheapV no yes V ps = b at *
  have hall : ∀ a ∈ modelsM V ps, b.2 = true ∧ b.1 ≤ costL no yes 0 a := fun a ha => by
    have hl := models_mem ha
    have := hm.1 a hl (List.mem_filter.1 ha).2
    rw [costA_list hl] at this
    exact this
  by_cases hb : b.2 = true
  · rw [if_pos hb]
    obtain ⟨a, hal, hf, hc⟩ := hm.2 hb
    rw [costA_list hal] at hc
    have hmem : a ∈ modelsM V ps := List.mem_filter.2 ⟨mem_allA V a hal, hf⟩
    rcases hx : (modelsM V ps).find? (fun a => costL no yes 0 a == b.1) with _ | x
    · have := List.find?_eq_none.1 hx a hmem
      simp [hc] at this
    · have h3 := bestL_find hc0 (modelsM V ps) (-1) [] x (fun y hy => (hall y hy).2) hx (.inl (by omega))
      rw [h3]
      have h4 : (allA V).find? (fun y => evalM ps ([] ++ y) && (costL no yes 0 ([] ++ y) == b.1)) = some x := by
        have := hx
        unfold modelsM at this
        rw [List.find?_filter] at this
        rw [← this]
        congr 1
        funext a
        simp only [List.nil_append]
        generalize (costL no yes 0 a == b.1) = t
        generalize evalM ps a = s
        cases s <;> cases t <;> rfl
      rw [cgo_spec _ _ _ V [] x h4]
      simp
  · rw [if_neg hb]
    have : modelsM V ps = [] := by
      rcases hM : modelsM V ps with _ | ⟨a, r⟩
      · rfl
      · exact absurd (hall a (by rw [hM]; simp)).1 hb
    rw [this]
    rfl
end Go.Proofs.Ytljljagkccmogaa
