/- Plain: the canonical form of a list of clauses; a sorted list is told by its members. No program in sight. -/
import Derived.Test.YtihkknploioakaaGreatKb
namespace Go.Proofs.YtihkknploioakaaGreat
/-! ### orders -/
theorem cmpM_self (x : Int) : cmpM x x = 0 := by unfold cmpM; rw [if_neg (by omega), if_neg (by omega)]
theorem cmpM_flip (x y : Int) : cmpM y x = - cmpM x y := by
  unfold cmpM
  rcases Int.lt_trichotomy x y with h | h | h
  · rw [if_neg (by omega), if_pos h, if_pos h]; rfl
  · rw [if_neg (by omega), if_neg (by omega), if_neg (by omega), if_neg (by omega)]; rfl
  · rw [if_pos h, if_neg (by omega), if_pos h]
theorem cmpM_zero {x y : Int} : cmpM x y = 0 ↔ x = y := by
  unfold cmpM
  by_cases h : x < y
  · rw [if_pos h]; constructor
    · intro h1; cases h1
    · intro h1; omega
  · rw [if_neg h]
    by_cases h2 : y < x
    · rw [if_pos h2]; constructor
      · intro h1; cases h1
      · intro h1; omega
    · rw [if_neg h2]; exact ⟨fun _ => by omega, fun _ => rfl⟩
theorem cmpM_lt {x y : Int} : cmpM x y < 0 ↔ x < y := by
  unfold cmpM
  by_cases h : x < y
  · rw [if_pos h]; exact ⟨fun _ => h, fun _ => by decide⟩
  · rw [if_neg h]
    by_cases h2 : y < x
    · rw [if_pos h2]; constructor
      · intro h1; exact absurd h1 (by decide)
      · intro h1; omega
    · rw [if_neg h2]; constructor
      · intro h1; exact absurd h1 (by decide)
      · intro h1; omega
theorem litC_neg {a b : Int} : litC a b < 0 ↔ varM a < varM b ∨ (varM a = varM b ∧ a < b) := by
  unfold litC
  by_cases h : varM a = varM b
  · rw [h, cmpM_self, if_neg (by simp), cmpM_lt]; constructor
    · intro h1; exact .inr ⟨rfl, h1⟩
    · rintro (h1 | h1)
      · omega
      · exact h1.2
  · rw [if_pos (fun e => h (cmpM_zero.1 e)), cmpM_lt]; constructor
    · exact .inl
    · rintro (h1 | h1)
      · exact h1
      · exact absurd h1.1 h
theorem litC_flip (a b : Int) : litC b a = - litC a b := by
  unfold litC
  by_cases h : varM a = varM b
  · rw [h, cmpM_self, if_neg (by simp), if_neg (by simp), cmpM_flip]
  · rw [if_pos (fun e => h (cmpM_zero.1 e).symm), if_pos (fun e => h (cmpM_zero.1 e)), cmpM_flip]
theorem litC_eq {a b : Int} : litC a b = 0 ↔ a = b := by
  constructor
  · intro h
    have h1 : ¬ litC a b < 0 := by omega
    have h2 : ¬ litC b a < 0 := by rw [litC_flip]; omega
    rw [litC_neg] at h1 h2
    by_cases h3 : varM a = varM b
    · have := fun h => h1 (.inr ⟨h3, h⟩)
      have := fun h => h2 (.inr ⟨h3.symm, h⟩)
      omega
    · have := fun h => h1 (.inl h)
      have := fun h => h2 (.inl h)
      omega
  · rintro rfl
    unfold litC
    rw [cmpM_self, if_neg (by simp), cmpM_self]
theorem litC_tr {a b c : Int} (h1 : litC a b < 0) (h2 : litC b c < 0) : litC a c < 0 := by
  rw [litC_neg] at *
  omega
theorem clsC_flip : ∀ (a b : List Int), clsC b a = - clsC a b
  | [], [] => rfl
  | [], _ :: _ => rfl
  | _ :: _, [] => rfl
  | a :: r, b :: s => by
    rw [clsC, clsC, litC_flip a b]
    by_cases h : litC a b = 0
    · rw [if_neg (by omega), if_neg (by omega), clsC_flip r s]
    · rw [if_pos (by omega), if_pos h]
theorem clsC_eq : ∀ {a b : List Int}, clsC a b = 0 ↔ a = b
  | [], [] => by simp [clsC]
  | [], _ :: _ => by simp [clsC]
  | _ :: _, [] => by simp [clsC]
  | a :: r, b :: s => by
    rw [clsC]
    by_cases h : litC a b = 0
    · rw [if_neg (by omega), clsC_eq, List.cons.injEq]
      exact ⟨fun h2 => ⟨litC_eq.1 h, h2⟩, fun h2 => h2.2⟩
    · rw [if_pos h]
      constructor
      · intro h2; exact absurd h2 h
      · intro h2
        injection h2 with h3
        exact absurd (litC_eq.2 h3) h
theorem clsC_tr : ∀ {a b c : List Int}, clsC a b < 0 → clsC b c < 0 → clsC a c < 0
  | [], [], _, h, _ => by simp [clsC] at h
  | _ :: _, [], _, h, _ => by simp [clsC] at h
  | [], _ :: _, [], _, h => by simp [clsC] at h
  | [], _ :: _, _ :: _, _, _ => by simp [clsC]
  | _ :: _, _ :: _, [], _, h => by simp [clsC] at h
  | x :: a, y :: b, z :: c, h1, h2 => by
    rw [clsC] at *
    by_cases e1 : x = y
    · subst e1
      rw [if_neg (by simpa using litC_eq.2 rfl)] at h1
      by_cases e2 : x = z
      · subst e2
        rw [if_neg (by simpa using litC_eq.2 rfl)] at h2 ⊢
        exact clsC_tr h1 h2
      · have : litC x z ≠ 0 := fun h => e2 (litC_eq.1 h)
        rw [if_pos this] at h2 ⊢
        exact h2
    · have n1 : litC x y ≠ 0 := fun h => e1 (litC_eq.1 h)
      rw [if_pos n1] at h1
      by_cases e2 : y = z
      · subst e2
        rw [if_pos n1]
        exact h1
      · have n2 : litC y z ≠ 0 := fun h => e2 (litC_eq.1 h)
        rw [if_pos n2] at h2
        have h3 := litC_tr h1 h2
        rw [if_pos (by omega)]
        exact h3
/-! ### a sorted list is told by its members -/
/-- an order by comparison: antisymmetric, and told by its sign -/
structure Cmp {α : Type} (c : α → α → Int) : Prop where
  flip : ∀ a b, c b a = - c a b
  eq : ∀ a b, c a b = 0 ↔ a = b
  tr : ∀ a b d, c a b < 0 → c b d < 0 → c a d < 0
theorem litCmp : Cmp litC := ⟨litC_flip, fun _ _ => litC_eq, fun _ _ _ => litC_tr⟩
theorem clsCmp : Cmp clsC := ⟨clsC_flip, fun _ _ => clsC_eq, fun _ _ _ => clsC_tr⟩
theorem Cmp.le {α : Type} {c : α → α → Int} (h : Cmp c) {a b : α} (h1 : ¬ c b a < 0) : c a b < 0 ∨ a = b := by
  have h2 := h.flip b a
  by_cases h3 : c a b = 0
  · exact .inr ((h.eq a b).1 h3)
  · exact .inl (by omega)
theorem Cmp.unique {α : Type} {c : α → α → Int} (h : Cmp c) : ∀ (x y : List α), x.Perm y → (x.Pairwise fun a b => ¬ c b a < 0) → (y.Pairwise fun a b => ¬ c b a < 0) → x = y
  | [], y, hp, _, _ => by rw [List.nil_perm.1 hp]
  | a :: r, [], hp, _, _ => by have := hp.length_eq; simp at this
  | a :: r, b :: s, hp, hx, hy => by
    obtain ⟨x1, x2⟩ := List.pairwise_cons.1 hx
    obtain ⟨y1, y2⟩ := List.pairwise_cons.1 hy
    have hab : a = b := by
      rcases List.mem_cons.1 (hp.subset (List.mem_cons_self ..)) with h1 | h1
      · exact h1
      · rcases List.mem_cons.1 (hp.symm.subset (List.mem_cons_self ..)) with h2 | h2
        · exact h2.symm
        · have k1 := x1 b h2
          have k2 := y1 a h1
          have := h.flip a b
          exact (h.eq a b).1 (by omega)
    subst hab
    rw [Cmp.unique h r s (List.Perm.cons_inv hp) x2 y2]
/-- insertion by comparison -/
def insC {α : Type} (c : α → α → Int) (x : α) : List α → List α
  | [] => [x]
  | y :: r => if c y x < 0 then y :: insC c x r else x :: y :: r
def srtC {α : Type} (c : α → α → Int) : List α → List α
  | [] => []
  | x :: r => insC c x (srtC c r)
theorem insC_perm {α : Type} (c : α → α → Int) (x : α) : ∀ (l : List α), (insC c x l).Perm (x :: l)
  | [] => List.Perm.refl _
  | y :: r => by
    rw [insC]
    split
    · exact ((insC_perm c x r).cons y).trans (List.Perm.swap x y r)
    · exact List.Perm.refl _
theorem srtC_perm {α : Type} (c : α → α → Int) : ∀ (l : List α), (srtC c l).Perm l
  | [] => List.Perm.refl _
  | x :: r => (insC_perm c x _).trans ((srtC_perm c r).cons x)
theorem insC_sorted {α : Type} {c : α → α → Int} (h : Cmp c) (x : α) : ∀ (l : List α), (l.Pairwise fun a b => ¬ c b a < 0) → (insC c x l).Pairwise fun a b => ¬ c b a < 0
  | [], _ => by simp [insC]
  | y :: r, hl => by
    obtain ⟨h1, h2⟩ := List.pairwise_cons.1 hl
    rw [insC]
    split
    · rename_i hyx
      refine List.pairwise_cons.2 ⟨fun b hb => ?_, insC_sorted h x r h2⟩
      rcases List.mem_cons.1 ((insC_perm c x r).subset hb) with rfl | hb
      · have := h.flip y b
        omega
      · exact h1 b hb
    · rename_i hyx
      refine List.pairwise_cons.2 ⟨fun b hb => ?_, hl⟩
      rcases List.mem_cons.1 hb with rfl | hb
      · exact hyx
      · intro h3
        rcases h.le (h1 b hb) with h4 | h4
        · exact hyx (h.tr y b x h4 h3)
        · subst h4
          exact hyx h3
theorem srtC_sorted {α : Type} {c : α → α → Int} (h : Cmp c) : ∀ (l : List α), (srtC c l).Pairwise fun a b => ¬ c b a < 0
  | [] => List.Pairwise.nil
  | x :: r => insC_sorted h x _ (srtC_sorted h r)
theorem srtC_unique {α : Type} {c : α → α → Int} (h : Cmp c) {x y : List α} (hp : y.Perm x) (hs : y.Pairwise fun a b => ¬ c b a < 0) : y = srtC c x :=
  h.unique y (srtC c x) (hp.trans (srtC_perm c x).symm) hs (srtC_sorted h x)
/-- neighbours that are equal, once -/
def cptG {α : Type} [DecidableEq α] : Option α → List α → List α
  | _, [] => []
  | p, x :: r => if p = some x then cptG (some x) r else x :: cptG (some x) r
def cptM {α : Type} [DecidableEq α] (l : List α) : List α := cptG none l
/-- clause -/
def claM (c : List Int) : List Int := cptM (srtC litC c)
/-- Canonical -/
def canM (cs : List (List Int)) : List (List Int) := cptM (srtC clsC ((cs.map claM).filter fun c => !oppM c))
end Go.Proofs.YtihkknploioakaaGreat
