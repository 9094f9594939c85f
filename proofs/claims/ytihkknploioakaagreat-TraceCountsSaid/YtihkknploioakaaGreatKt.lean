/- Plain: a list of clauses is canonical exactly if its canonical form is itself. No program in sight. -/
import Derived.Test.YtihkknploioakaaGreatKp
namespace Go.Proofs.YtihkknploioakaaGreat

/-- strictly ascending -/
def Strict {α : Type} (c : α → α → Int) (l : List α) : Prop := l.Pairwise fun a b => c a b < 0
theorem Strict.weak {α : Type} {c : α → α → Int} (h : Cmp c) {l : List α} (hs : Strict c l) : l.Pairwise fun a b => ¬ c b a < 0 :=
  hs.imp fun {a b} hab => by have := h.flip a b; omega
theorem Strict.srt {α : Type} {c : α → α → Int} (h : Cmp c) {l : List α} (hs : Strict c l) : srtC c l = l := (srtC_unique h (List.Perm.refl l) (hs.weak h)).symm
theorem Strict.cpt {α : Type} [DecidableEq α] {c : α → α → Int} (h : Cmp c) : ∀ (p : Option α) (l : List α), Strict c l → (∀ q, p = some q → ∀ x ∈ l, c q x < 0) → cptG p l = l
  | p, [], _, _ => rfl
  | p, x :: r, hs, hp => by
    obtain ⟨h1, h2⟩ := List.pairwise_cons.1 hs
    rw [cptG, if_neg]
    · rw [Strict.cpt h (some x) r h2 fun q hq y hy => by injection hq with hq; subst hq; exact h1 y hy]
    · intro e
      have h3 := hp x e x (List.mem_cons_self ..)
      have h4 := (h.eq x x).2 rfl
      omega
theorem cpt_strict {α : Type} [DecidableEq α] {c : α → α → Int} (h : Cmp c) : ∀ (p : Option α) (l : List α), (l.Pairwise fun a b => ¬ c b a < 0) → (∀ q, p = some q → ∀ x ∈ l, ¬ c x q < 0) → Strict c (cptG p l) ∧ ∀ q, p = some q → ∀ x ∈ cptG p l, c q x < 0
  | p, [], _, _ => ⟨List.Pairwise.nil, fun q _ x hx => by cases hx⟩
  | p, x :: r, hs, hp => by
    obtain ⟨h1, h2⟩ := List.pairwise_cons.1 hs
    have ih := cpt_strict h (some x) r h2 fun q hq y hy => by injection hq with hq; subst hq; exact h1 y hy
    rw [cptG]
    split
    · rename_i e
      refine ⟨ih.1, fun q hq y hy => ?_⟩
      rw [e] at hq
      exact ih.2 q hq y hy
    · rename_i e
      refine ⟨List.pairwise_cons.2 ⟨fun y hy => ih.2 x rfl y hy, ih.1⟩, fun q hq y hy => ?_⟩
      have hqx : c q x < 0 := by
        rcases h.le (hp q hq x (List.mem_cons_self ..)) with h3 | h3
        · exact h3
        · exact absurd (by rw [hq, h3]) e
      rcases List.mem_cons.1 hy with rfl | hy
      · exact hqx
      · exact h.tr q x y hqx (ih.2 x rfl y hy)
theorem cptM_strict {α : Type} [DecidableEq α] {c : α → α → Int} (h : Cmp c) (l : List α) : Strict c (cptM (srtC c l)) := (cpt_strict h none _ (srtC_sorted h l) fun q hq => by cases hq).1
theorem Strict.cptM {α : Type} [DecidableEq α] {c : α → α → Int} (h : Cmp c) {l : List α} (hs : Strict c l) : cptM (srtC c l) = l := by
  rw [hs.srt h]
  exact hs.cpt h none l fun q hq => by cases hq
theorem claM_strict (x : List Int) : Strict litC (claM x) := cptM_strict litCmp x
theorem Strict.cla {x : List Int} (h : Strict litC x) : claM x = x := h.cptM litCmp
theorem srtM_strict : ∀ (x : List Int), srtM x = true ↔ Strict litC x
  | [] => by simp [srtM, Strict]
  | [a] => by simp [srtM, Strict]
  | a :: b :: r => by
    rw [srtM, Bool.and_eq_true, decide_eq_true_eq, srtM_strict (b :: r)]
    constructor
    · rintro ⟨h1, h2⟩
      refine List.pairwise_cons.2 ⟨fun y hy => ?_, h2⟩
      rcases List.mem_cons.1 hy with rfl | hy
      · exact h1
      · exact litC_tr h1 ((List.pairwise_cons.1 h2).1 y hy)
    · intro h
      obtain ⟨h1, h2⟩ := List.pairwise_cons.1 h
      exact ⟨h1 b (List.mem_cons_self ..), h2⟩
theorem canGo_iff : ∀ (p : Option (List Int)) (cs : List (List Int)), canGo p cs = true ↔ (∀ x ∈ cs, oppM x = false ∧ Strict litC x) ∧ Strict clsC cs ∧ ∀ q, p = some q → ∀ x ∈ cs, clsC q x < 0
  | p, [] => by
    have : canGo p [] = true := by cases p <;> rfl
    simp [this, Strict]
  | p, x :: r => by
    have e : canGo p (x :: r) = true ↔ (oppM x = false ∧ srtM x = true) ∧ canGo (some x) r = true ∧ ∀ q, p = some q → clsC q x < 0 := by
      rcases p with _ | q
      · rw [canGo]
        cases oppM x <;> cases srtM x <;> cases canGo (some x) r <;> simp
      · rw [canGo]
        by_cases hq : clsC q x < 0
        · rw [decide_eq_false (by omega)]
          cases oppM x <;> cases srtM x <;> cases canGo (some x) r <;> simp [hq]
        · rw [decide_eq_true (by omega)]
          simp [hq]
    rw [e, srtM_strict, canGo_iff (some x) r]
    constructor
    · rintro ⟨⟨h1, h2⟩, ⟨h3, h4, h5⟩, h6⟩
      refine ⟨fun y hy => ?_, List.pairwise_cons.2 ⟨h5 x rfl, h4⟩, fun q hq y hy => ?_⟩
      · rcases List.mem_cons.1 hy with rfl | hy
        · exact ⟨h1, h2⟩
        · exact h3 y hy
      · rcases List.mem_cons.1 hy with rfl | hy
        · exact h6 q hq
        · exact clsC_tr (h6 q hq) (h5 x rfl y hy)
    · rintro ⟨h1, h2, h3⟩
      obtain ⟨h4, h5⟩ := List.pairwise_cons.1 h2
      exact ⟨h1 x (List.mem_cons_self ..), ⟨fun y hy => h1 y (List.mem_cons_of_mem _ hy), h5, fun q hq y hy => by injection hq with hq; subst hq; exact h4 y hy⟩, fun q hq => h3 q hq x (List.mem_cons_self ..)⟩
theorem cptG_sub {α : Type} [DecidableEq α] : ∀ (p : Option α) (l : List α), ∀ x ∈ cptG p l, x ∈ l
  | _, [], x, h => h
  | p, y :: r, x, h => by
    rw [cptG] at h
    split at h
    · exact List.mem_cons_of_mem _ (cptG_sub _ r x h)
    · rcases List.mem_cons.1 h with rfl | h
      · exact List.mem_cons_self ..
      · exact List.mem_cons_of_mem _ (cptG_sub _ r x h)
/-- what stands in the canonical form -/
theorem canM_mem {cs : List (List Int)} {x : List Int} (h : x ∈ canM cs) : oppM x = false ∧ Strict litC x ∧ ∃ c ∈ cs, x = claM c := by
  have h1 := (srtC_perm clsC _).subset (cptG_sub _ _ x h)
  rw [List.mem_filter] at h1
  obtain ⟨h2, h3⟩ := h1
  obtain ⟨c, hc, rfl⟩ := List.mem_map.1 h2
  exact ⟨by simpa using h3, claM_strict c, c, hc, rfl⟩
theorem canGo_canM (cs : List (List Int)) : canGo none cs = true ↔ canM cs = cs := by
  rw [canGo_iff]
  constructor
  · rintro ⟨h1, h2, _⟩
    have e1 : cs.map claM = cs := by
      conv => rhs; rw [← List.map_id cs]
      exact List.map_congr_left fun x hx => (h1 x hx).2.cla
    have e2 : cs.filter (fun c => !oppM c) = cs := List.filter_eq_self.2 fun x hx => by rw [(h1 x hx).1]; rfl
    unfold canM
    rw [e1, e2]
    exact h2.cptM clsCmp
  · intro h
    refine ⟨fun x hx => ?_, ?_, fun q hq => by cases hq⟩
    · rw [← h] at hx
      exact ⟨(canM_mem hx).1, (canM_mem hx).2.1⟩
    · rw [← h]
      exact cptM_strict clsCmp _
end Go.Proofs.YtihkknploioakaaGreat
