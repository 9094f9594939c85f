/- Plain: the canonical form of a list of clauses; a sorted list is told by its members. No program in sight. -/
import Derived.Test.YteadlkecngfcoaaGreatKa
namespace Go.Proofs.YteadlkecngfcoaaGreat
/-! ### orders -/
theorem cmpM_self (x : Int) : cmpM x x = 0 := by unfold cmpM; rw [if_neg (by omega), if_neg (by omega)]
theorem cmpM_flip (x y : Int) : cmpM y x = - cmpM x y := by
  unfold cmpM
  rcases Int.lt_trichotomy x y with h | h | h
  · rw [if_neg (by omega), if_pos h, if_pos h]; rfl
  · rw [if_neg (by omega), if_neg (by omega), if_neg (by omega), if_neg (by omega)]; rfl
  · rw [if_pos h, if_neg (by omega), if_pos h]
theorem cmpM_zero {x y : Int} : cmpM x y = 0 ↔ x = y := by
  unfold cmpM
  by_cases h : x < y
  · rw [if_pos h]; constructor
    · intro h1; cases h1
    · intro h1; omega
  · rw [if_neg h]
    by_cases h2 : y < x
    · rw [if_pos h2]; constructor
      · intro h1; cases h1
      · intro h1; omega
    · rw [if_neg h2]; exact ⟨fun _ => by omega, fun _ => rfl⟩
theorem cmpM_lt {x y : Int} : cmpM x y < 0 ↔ x < y := by
  unfold cmpM
  by_cases h : x < y
  · rw [if_pos h]; exact ⟨fun _ => h, fun _ => by decide⟩
  · rw [if_neg h]
    by_cases h2 : y < x
    · rw [if_pos h2]; constructor
      · intro h1; exact absurd h1 (by decide)
      · intro h1; omega
    · rw [if_neg h2]; constructor
      · intro h1; exact absurd h1 (by decide)
      · intro h1; omega
theorem litC_neg {a b : Int} : litC a b < 0 ↔ varM a < varM b ∨ (varM a = varM b ∧ a < b) := by
  unfold litC
  by_cases h : varM a = varM b
  · rw [h, cmpM_self, if_neg (by simp), cmpM_lt]; constructor
    · intro h1; exact .inr ⟨rfl, h1⟩
    · rintro (h1 | h1)
      · omega
      · exact h1.2
  · rw [if_pos (fun e => h (cmpM_zero.1 e)), cmpM_lt]; constructor
    · exact .inl
    · rintro (h1 | h1)
      · exact h1
      · exact absurd h1.1 h
theorem litC_flip (a b : Int) : litC b a = - litC a b := by
  unfold litC
  by_cases h : varM a = varM b
  · rw [h, cmpM_self, if_neg (by simp), if_neg (by simp), cmpM_flip]
  · rw [if_pos (fun e => h (cmpM_zero.1 e).symm), if_pos (fun e => h (cmpM_zero.1 e)), cmpM_flip]
theorem litC_eq {a b : Int} : litC a b = 0 ↔ a = b := by
  constructor
  · intro h
    have h1 : ¬ litC a b < 0 := by omega
    have h2 : ¬ litC b a < 0 := by rw [litC_flip]; omega
    rw [litC_neg] at h1 h2
    by_cases h3 : varM a = varM b
    · have := fun h => h1 (.inr ⟨h3, h⟩)
      have := fun h => h2 (.inr ⟨h3.symm, h⟩)
      omega
    · have := fun h => h1 (.inl h)
      have := fun h => h2 (.inl h)
      omega
  · rintro rfl
    unfold litC
    rw [cmpM_self, if_neg (by simp), cmpM_self]
theorem litC_tr {a b c : Int} (h1 : litC a b < 0) (h2 : litC b c < 0) : litC a c < 0 := by
  rw [litC_neg] at *
  omega
theorem clsC_flip : ∀ (a b : List Int), clsC b a = - clsC a b
  | [], [] => rfl
  | [], _ :: _ => rfl
  | _ :: _, [] => rfl
  | a :: r, b :: s => by
    rw [clsC, clsC, litC_flip a b]
    by_cases h : litC a b = 0
    · rw [if_neg (by omega), if_neg (by omega), clsC_flip r s]
    · rw [if_pos (by omega), if_pos h]
theorem clsC_eq : ∀ {a b : List Int}, clsC a b = 0 ↔ a = b
  | [], [] => by simp [clsC]
  | [], _ :: _ => by simp [clsC]
  | _ :: _, [] => by simp [clsC]
  | a :: r, b :: s => by
    rw [clsC]
    by_cases h : litC a b = 0
    · rw [if_neg (by omega), clsC_eq, List.cons.injEq]
      exact ⟨fun h2 => ⟨litC_eq.1 h, h2⟩, fun h2 => h2.2⟩
    · rw [if_pos h]
      constructor
      · intro h2; exact absurd h2 h
      · intro h2
        injection h2 with h3
        exact absurd (litC_eq.2 h3) h
theorem clsC_tr : ∀ {a b c : List Int}, clsC a b < 0 → clsC b c < 0 → clsC a c < 0
  | [], [], _, h, _ => by simp [clsC] at h
  | _ :: _, [], _, h, _ => by simp [clsC] at h
  | [], _ :: _, [], _, h => by simp [clsC] at h
  | [], _ :: _, _ :: _, _, _ => by simp [clsC]
  | _ :: _, _ :: _, [], _, h => by simp [clsC] at h
  | x :: a, y :: b, z :: c, h1, h2 => by
    rw [clsC] at *
    by_cases e1 : x = y
    · subst e1
      rw [if_neg (by simpa using litC_eq.2 rfl)] at h1
      by_cases e2 : x = z
      · subst e2
        rw [if_neg (by simpa using litC_eq.2 rfl)] at h2 ⊢
        exact clsC_tr h1 h2
      · have : litC x z ≠ 0 := fun h => e2 (litC_eq.1 h)
        rw [if_pos this] at h2 ⊢
        exact h2
    · have n1 : litC x y ≠ 0 := fun h => e1 (litC_eq.1 h)
      rw [if_pos n1] at h1
      by_cases e2 : y = z
      · subst e2
        rw [if_pos n1]
        exact h1
      · have n2 : litC y z ≠ 0 := fun h => e2 (litC_eq.1 h)
        rw [if_pos n2] at h2
        have h3 := litC_tr h1 h2
        rw [if_pos (by omega)]
        exact h3
/-! ### a sorted list is told by its members -/
/-- an order by comparison: antisymmetric, and told by its sign -/
structure Cmp {α : Type} (c : α → α → Int) : Prop where
  flip : ∀ a b, c b a = - c a b
  eq : ∀ a b, c a b = 0 ↔ a = b
  tr : ∀ a b d, c a b < 0 → c b d < 0 → c a d < 0
theorem litCmp : Cmp litC := ⟨litC_flip, fun _ _ => litC_eq, fun _ _ _ => litC_tr⟩
theorem clsCmp : Cmp clsC := ⟨clsC_flip, fun _ _ => clsC_eq, fun _ _ _ => clsC_tr⟩
theorem Cmp.le {α : Type} {c : α → α → Int} (h : Cmp c) {a b : α} (h1 : ¬ c b a < 0) : c a b < 0 ∨ a = b := by
  have h2 := h.flip b a
  by_cases h3 : c a b = 0
  · exact .inr ((h.eq a b).1 h3)
  · exact .inl (by omega)
theorem Cmp.unique {α : Type} {c : α → α → Int} (h : Cmp c) : ∀ (x y : List α), x.Perm y → (x.Pairwise fun a b => ¬ c b a < 0) → (y.Pairwise fun a b => ¬ c b a < 0) → x = y
  | [], y, hp, _, _ => by rw [List.nil_perm.1 hp]
  | a :: r, [], hp, _, _ => by have := hp.length_eq; simp at this
  | a :: r, b :: s, hp, hx, hy => by
    obtain ⟨x1, x2⟩ := List.pairwise_cons.1 hx
    obtain ⟨y1, y2⟩ := List.pairwise_cons.1 hy
    have hab : a = b := by
      rcases List.mem_cons.1 (hp.subset (List.mem_cons_self ..)) with h1 | h1
      · exact h1
      · rcases List.mem_cons.1 (hp.symm.subset (List.mem_cons_self ..)) with h2 | h2
        · exact h2.symm
        · have k1 := x1 b h2
          have k2 := y1 a h1
          have := h.flip a b
          exact (h.eq a b).1 (by omega)
    subst hab
    rw [Cmp.unique h r s (List.Perm.cons_inv hp) x2 y2]
/-- insertion by comparison -/
def insC {α : Type} (c : α → α → Int) (x : α) : List α → List α
  | [] => [x]
  | y :: r => if c y x < 0 then y :: insC c x r else x :: y :: r
def srtC {α : Type} (c : α → α → Int) : List α → List α
  | [] => []
  | x :: r => insC c x (srtC c r)
theorem insC_perm {α : Type} (c : α → α → Int) (x : α) : ∀ (l : List α), (insC c x l).Perm (x :: l)
  | [] => List.Perm.refl _
  | y :: r => by
    rw [insC]
    split
    · exact ((insC_perm c x r).cons y).trans (List.Perm.swap x y r)
    · exact List.Perm.refl _
theorem srtC_perm {α : Type} (c : α → α → Int) : ∀ (l : List α), (srtC c l).Perm l
  | [] => List.Perm.refl _
  | x :: r => (insC_perm c x _).trans ((srtC_perm c r).cons x)
theorem insC_sorted {α : Type} {c : α → α → Int} (h : Cmp c) (x : α) : ∀ (l : List α), (l.Pairwise fun a b => ¬ c b a < 0) → (insC c x l).Pairwise fun a b => ¬ c b a < 0
  | [], _ => by simp [insC]
  | y :: r, hl => by
    obtain ⟨h1, h2⟩ := List.pairwise_cons.1 hl
    rw [insC]
    split
    · rename_i hyx
      refine List.pairwise_cons.2 ⟨fun b hb => ?_, insC_sorted h x r h2⟩
      rcases List.mem_cons.1 ((insC_perm c x r).subset hb) with rfl | hb
      · have := h.flip y b
        omega
      · exact h1 b hb
    · rename_i hyx
      refine List.pairwise_cons.2 ⟨fun b hb => ?_, hl⟩
      rcases List.mem_cons.1 hb with rfl | hb
      · exact hyx
      · intro h3
        rcases h.le (h1 b hb) with h4 | h4
        · exact hyx (h.tr y b x h4 h3)
        · subst h4
          exact hyx h3
theorem srtC_sorted {α : Type} {c : α → α → Int} (h : Cmp c) : ∀ (l : List α), (srtC c l).Pairwise fun a b => ¬ c b a < 0
  | [] => List.Pairwise.nil
  | x :: r => insC_sorted h x _ (srtC_sorted h r)
theorem srtC_unique {α : Type} {c : α → α → Int} (h : Cmp c) {x y : List α} (hp : y.Perm x) (hs : y.Pairwise fun a b => ¬ c b a < 0) : y = srtC c x :=
  h.unique y (srtC c x) (hp.trans (srtC_perm c x).symm) hs (srtC_sorted h x)
/-- neighbours that are equal, once -/
def cptG {α : Type} [DecidableEq α] : Option α → List α → List α
  | _, [] => []
  | p, x :: r => if p = some x then cptG (some x) r else x :: cptG (some x) r
def cptM {α : Type} [DecidableEq α] (l : List α) : List α := cptG none l
/-- clause -/
def claM (c : List Int) : List Int := cptM (srtC litC c)
/-- Canonical -/
def canM (cs : List (List Int)) : List (List Int) := cptM (srtC clsC ((cs.map claM).filter fun c => !oppM c))

/- Plain: a list of clauses is canonical exactly if its canonical form is itself. No program in sight. -/

/-- strictly ascending -/
def Strict {α : Type} (c : α → α → Int) (l : List α) : Prop := l.Pairwise fun a b => c a b < 0
theorem Strict.weak {α : Type} {c : α → α → Int} (h : Cmp c) {l : List α} (hs : Strict c l) : l.Pairwise fun a b => ¬ c b a < 0 :=
  hs.imp fun {a b} hab => by have := h.flip a b; omega
theorem Strict.srt {α : Type} {c : α → α → Int} (h : Cmp c) {l : List α} (hs : Strict c l) : srtC c l = l := (srtC_unique h (List.Perm.refl l) (hs.weak h)).symm
theorem Strict.cpt {α : Type} [DecidableEq α] {c : α → α → Int} (h : Cmp c) : ∀ (p : Option α) (l : List α), Strict c l → (∀ q, p = some q → ∀ x ∈ l, c q x < 0) → cptG p l = l
  | p, [], _, _ => rfl
  | p, x :: r, hs, hp => by
    obtain ⟨h1, h2⟩ := List.pairwise_cons.1 hs
    rw [cptG, if_neg]
    · rw [Strict.cpt h (some x) r h2 fun q hq y hy => by injection hq with hq; subst hq; exact h1 y hy]
    · intro e
      have h3 := hp x e x (List.mem_cons_self ..)
      have h4 := (h.eq x x).2 rfl
      omega
theorem cpt_strict {α : Type} [DecidableEq α] {c : α → α → Int} (h : Cmp c) : ∀ (p : Option α) (l : List α), (l.Pairwise fun a b => ¬ c b a < 0) → (∀ q, p = some q → ∀ x ∈ l, ¬ c x q < 0) → Strict c (cptG p l) ∧ ∀ q, p = some q → ∀ x ∈ cptG p l, c q x < 0
  | p, [], _, _ => ⟨List.Pairwise.nil, fun q _ x hx => by cases hx⟩
  | p, x :: r, hs, hp => by
    obtain ⟨h1, h2⟩ := List.pairwise_cons.1 hs
    have ih := cpt_strict h (some x) r h2 fun q hq y hy => by injection hq with hq; subst hq; exact h1 y hy
    rw [cptG]
    split
    · rename_i e
      refine ⟨ih.1, fun q hq y hy => ?_⟩
      rw [e] at hq
      exact ih.2 q hq y hy
    · rename_i e
      refine ⟨List.pairwise_cons.2 ⟨fun y hy => ih.2 x rfl y hy, ih.1⟩, fun q hq y hy => ?_⟩
      have hqx : c q x < 0 := by
        rcases h.le (hp q hq x (List.mem_cons_self ..)) with h3 | h3
        · exact h3
        · exact absurd (by rw [hq, h3]) e
      rcases List.mem_cons.1 hy with rfl | hy
      · exact hqx
      · exact h.tr q x y hqx (ih.2 x rfl y hy)
theorem cptM_strict {α : Type} [DecidableEq α] {c : α → α → Int} (h : Cmp c) (l : List α) : Strict c (cptM (srtC c l)) := (cpt_strict h none _ (srtC_sorted h l) fun q hq => by cases hq).1
theorem Strict.cptM {α : Type} [DecidableEq α] {c : α → α → Int} (h : Cmp c) {l : List α} (hs : Strict c l) : cptM (srtC c l) = l := by
  rw [hs.srt h]
  exact hs.cpt h none l fun q hq => by cases hq
theorem claM_strict (x : List Int) : Strict litC (claM x) := cptM_strict litCmp x
theorem Strict.cla {x : List Int} (h : Strict litC x) : claM x = x := h.cptM litCmp
theorem srtM_strict : ∀ (x : List Int), srtM x = true ↔ Strict litC x
  | [] => by simp [srtM, Strict]
  | [a] => by simp [srtM, Strict]
  | a :: b :: r => by
    rw [srtM, Bool.and_eq_true, decide_eq_true_eq, srtM_strict (b :: r)]
    constructor
    · rintro ⟨h1, h2⟩
      refine List.pairwise_cons.2 ⟨fun y hy => ?_, h2⟩
      rcases List.mem_cons.1 hy with rfl | hy
      · exact h1
      · exact litC_tr h1 ((List.pairwise_cons.1 h2).1 y hy)
    · intro h
      obtain ⟨h1, h2⟩ := List.pairwise_cons.1 h
      exact ⟨h1 b (List.mem_cons_self ..), h2⟩
theorem canGo_iff : ∀ (p : Option (List Int)) (cs : List (List Int)), canGo p cs = true ↔ (∀ x ∈ cs, oppM x = false ∧ Strict litC x) ∧ Strict clsC cs ∧ ∀ q, p = some q → ∀ x ∈ cs, clsC q x < 0
  | p, [] => by
    have : canGo p [] = true := by cases p <;> rfl
    simp [this, Strict]
  | p, x :: r => by
    have e : canGo p (x :: r) = true ↔ (oppM x = false ∧ srtM x = true) ∧ canGo (some x) r = true ∧ ∀ q, p = some q → clsC q x < 0 := by
      rcases p with _ | q
      · rw [canGo]
        cases oppM x <;> cases srtM x <;> cases canGo (some x) r <;> simp
      · rw [canGo]
        by_cases hq : clsC q x < 0
        · rw [decide_eq_false (by omega)]
          cases oppM x <;> cases srtM x <;> cases canGo (some x) r <;> simp [hq]
        · rw [decide_eq_true (by omega)]
          simp [hq]
    rw [e, srtM_strict, canGo_iff (some x) r]
    constructor
    · rintro ⟨⟨h1, h2⟩, ⟨h3, h4, h5⟩, h6⟩
      refine ⟨fun y hy => ?_, List.pairwise_cons.2 ⟨h5 x rfl, h4⟩, fun q hq y hy => ?_⟩
      · rcases List.mem_cons.1 hy with rfl | hy
        · exact ⟨h1, h2⟩
        · exact h3 y hy
      · rcases List.mem_cons.1 hy with rfl | hy
        · exact h6 q hq
        · exact clsC_tr (h6 q hq) (h5 x rfl y hy)
    · rintro ⟨h1, h2, h3⟩
      obtain ⟨h4, h5⟩ := List.pairwise_cons.1 h2
      exact ⟨h1 x (List.mem_cons_self ..), ⟨fun y hy => h1 y (List.mem_cons_of_mem _ hy), h5, fun q hq y hy => by injection hq with hq; subst hq; exact h4 y hy⟩, fun q hq => h3 q hq x (List.mem_cons_self ..)⟩
theorem cptG_sub {α : Type} [DecidableEq α] : ∀ (p : Option α) (l : List α), ∀ x ∈ cptG p l, x ∈ l
  | _, [], x, h => h
  | p, y :: r, x, h => by
    rw [cptG] at h
    split at h
    · exact List.mem_cons_of_mem _ (cptG_sub _ r x h)
    · rcases List.mem_cons.1 h with rfl | h
      · exact List.mem_cons_self ..
      · exact List.mem_cons_of_mem _ (cptG_sub _ r x h)
/-- what stands in the canonical form -/
theorem canM_mem {cs : List (List Int)} {x : List Int} (h : x ∈ canM cs) : oppM x = false ∧ Strict litC x ∧ ∃ c ∈ cs, x = claM c := by
  have h1 := (srtC_perm clsC _).subset (cptG_sub _ _ x h)
  rw [List.mem_filter] at h1
  obtain ⟨h2, h3⟩ := h1
  obtain ⟨c, hc, rfl⟩ := List.mem_map.1 h2
  exact ⟨by simpa using h3, claM_strict c, c, hc, rfl⟩
theorem canGo_canM (cs : List (List Int)) : canGo none cs = true ↔ canM cs = cs := by
  rw [canGo_iff]
  constructor
  · rintro ⟨h1, h2, _⟩
    have e1 : cs.map claM = cs := by
      conv => rhs; rw [← List.map_id cs]
      exact List.map_congr_left fun x hx => (h1 x hx).2.cla
    have e2 : cs.filter (fun c => !oppM c) = cs := List.filter_eq_self.2 fun x hx => by rw [(h1 x hx).1]; rfl
    unfold canM
    rw [e1, e2]
    exact h2.cptM clsCmp
  · intro h
    refine ⟨fun x hx => ?_, ?_, fun q hq => by cases hq⟩
    · rw [← h] at hx
      exact ⟨(canM_mem hx).1, (canM_mem hx).2.1⟩
    · rw [← h]
      exact cptM_strict clsCmp _

/- Plain: the canonical form has the same models. Walk: the statement CnfModels. No condition. -/
open Go.ChangeShapes Go.WideShapes Go.ChangeAt Go.RowKit
set_option linter.unusedVariables false

theorem cptG_has {α : Type} [DecidableEq α] : ∀ (p : Option α) (l : List α) (x : α), x ∈ l → x ∈ cptG p l ∨ p = some x
  | p, y :: r, x, h => by
    rw [cptG]
    split
    · rename_i e
      rcases List.mem_cons.1 h with rfl | h
      · exact .inr e
      · rcases cptG_has (some y) r x h with h1 | h1
        · exact .inl h1
        · exact .inr (e.trans h1)
    · rcases List.mem_cons.1 h with rfl | h
      · exact .inl (List.mem_cons_self ..)
      · rcases cptG_has (some y) r x h with h1 | h1
        · exact .inl (List.mem_cons_of_mem _ h1)
        · injection h1 with h1
          subst h1
          exact .inl (List.mem_cons_self ..)
theorem cptM_mem {α : Type} [DecidableEq α] {l : List α} {x : α} : x ∈ cptM l ↔ x ∈ l :=
  ⟨fun h => cptG_sub none l x h, fun h => (cptG_has none l x h).resolve_right fun e => by cases e⟩
theorem claM_iff {c : List Int} {x : Int} : x ∈ claM c ↔ x ∈ c := by
  unfold claM
  rw [cptM_mem]
  exact (srtC_perm litC c).mem_iff
theorem canM_iff {cs : List (List Int)} {d : List Int} : d ∈ canM cs ↔ oppM d = false ∧ ∃ c ∈ cs, claM c = d := by
  unfold canM
  rw [cptM_mem, (srtC_perm clsC _).mem_iff, List.mem_filter, List.mem_map]
  constructor
  · rintro ⟨h1, h2⟩
    exact ⟨by simpa using h2, h1⟩
  · rintro ⟨h1, h2⟩
    exact ⟨h2, by simpa using h1⟩
theorem oppM_has : ∀ (l : List Int), oppM l = true → ∃ x ∈ l, x ≠ 0 ∧ -x ∈ l
  | [], h => by simp [oppM] at h
  | [_], h => by simp [oppM] at h
  | a :: b :: r, h => by
    rw [oppM, Bool.or_eq_true] at h
    rcases h with h | h
    · simp only [Bool.and_eq_true, decide_eq_true_eq] at h
      exact ⟨a, List.mem_cons_self .., by omega, by rw [← h.1.2]; simp⟩
    · obtain ⟨x, h1, h2, h3⟩ := oppM_has (b :: r) h
      exact ⟨x, List.mem_cons_of_mem _ h1, h2, List.mem_cons_of_mem _ h3⟩
theorem any_mem {α : Type} {f : α → Bool} {l m : List α} (h : ∀ x, x ∈ l ↔ x ∈ m) : l.any f = m.any f := by
  rw [Bool.eq_iff_iff, List.any_eq_true, List.any_eq_true]
  exact ⟨fun ⟨x, h1, h2⟩ => ⟨x, (h x).1 h1, h2⟩, fun ⟨x, h1, h2⟩ => ⟨x, (h x).2 h1, h2⟩⟩
end Go.Proofs.YteadlkecngfcoaaGreat
