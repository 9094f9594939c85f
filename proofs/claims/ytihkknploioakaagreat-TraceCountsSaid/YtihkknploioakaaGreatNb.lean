/- Plain: the canonical form has the same models. Walk: the statement CnfModels. No condition. -/
import Derived.Test.YtihkknploioakaaGreatKt
namespace Go.Proofs.YtihkknploioakaaGreat
open Go.ChangeShapes Go.WideShapes Go.ChangeAt Go.RowKit
set_option linter.unusedVariables false

theorem cptG_has {α : Type} [DecidableEq α] : ∀ (p : Option α) (l : List α) (x : α), x ∈ l → x ∈ cptG p l ∨ p = some x
  | p, y :: r, x, h => by
    rw [cptG]
    split
    · rename_i e
      rcases List.mem_cons.1 h with rfl | h
      · exact .inr e
      · rcases cptG_has (some y) r x h with h1 | h1
        · exact .inl h1
        · exact .inr (e.trans h1)
    · rcases List.mem_cons.1 h with rfl | h
      · exact .inl (List.mem_cons_self ..)
      · rcases cptG_has (some y) r x h with h1 | h1
        · exact .inl (List.mem_cons_of_mem _ h1)
        · injection h1 with h1
          subst h1
          exact .inl (List.mem_cons_self ..)
theorem cptM_mem {α : Type} [DecidableEq α] {l : List α} {x : α} : x ∈ cptM l ↔ x ∈ l :=
  ⟨fun h => cptG_sub none l x h, fun h => (cptG_has none l x h).resolve_right fun e => by cases e⟩
theorem claM_iff {c : List Int} {x : Int} : x ∈ claM c ↔ x ∈ c := by
  unfold claM
  rw [cptM_mem]
  exact (srtC_perm litC c).mem_iff
theorem canM_iff {cs : List (List Int)} {d : List Int} : d ∈ canM cs ↔ oppM d = false ∧ ∃ c ∈ cs, claM c = d := by
  unfold canM
  rw [cptM_mem, (srtC_perm clsC _).mem_iff, List.mem_filter, List.mem_map]
  constructor
  · rintro ⟨h1, h2⟩
    exact ⟨by simpa using h2, h1⟩
  · rintro ⟨h1, h2⟩
    exact ⟨h2, by simpa using h1⟩
theorem oppM_has : ∀ (l : List Int), oppM l = true → ∃ x ∈ l, x ≠ 0 ∧ -x ∈ l
  | [], h => by simp [oppM] at h
  | [_], h => by simp [oppM] at h
  | a :: b :: r, h => by
    rw [oppM, Bool.or_eq_true] at h
    rcases h with h | h
    · simp only [Bool.and_eq_true, decide_eq_true_eq] at h
      exact ⟨a, List.mem_cons_self .., by omega, by rw [← h.1.2]; simp⟩
    · obtain ⟨x, h1, h2, h3⟩ := oppM_has (b :: r) h
      exact ⟨x, List.mem_cons_of_mem _ h1, h2, List.mem_cons_of_mem _ h3⟩
theorem any_mem {α : Type} {f : α → Bool} {l m : List α} (h : ∀ x, x ∈ l ↔ x ∈ m) : l.any f = m.any f := by
  rw [Bool.eq_iff_iff, List.any_eq_true, List.any_eq_true]
  exact ⟨fun ⟨x, h1, h2⟩ => ⟨x, (h x).1 h1, h2⟩, fun ⟨x, h1, h2⟩ => ⟨x, (h x).2 h1, h2⟩⟩
end Go.Proofs.YtihkknploioakaaGreat
