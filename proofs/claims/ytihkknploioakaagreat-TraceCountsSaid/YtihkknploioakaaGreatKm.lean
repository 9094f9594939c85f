/- Walk: cnf.Canonical. No condition but the lengths. -/
import Derived.Test.YtihkknploioakaaGreatKl
namespace Go.Proofs.YtihkknploioakaaGreat
open Go.ChangeShapes Go.WideShapes Go.ChangeAt Go.RowKit
set_option linter.unusedVariables false

theorem cptG_mem {α : Type} [DecidableEq α] : ∀ (p : Option α) (l : List α), ∀ x ∈ cptG p l, x ∈ l
  | _, [], x, h => h
  | p, y :: r, x, h => by
    rw [cptG] at h
    split at h
    · exact List.mem_cons_of_mem _ (cptG_mem _ r x h)
    · rcases List.mem_cons.1 h with rfl | h
      · exact List.mem_cons_self ..
      · exact List.mem_cons_of_mem _ (cptG_mem _ r x h)
theorem cptG_len {α : Type} [DecidableEq α] : ∀ (p : Option α) (l : List α), (cptG p l).length ≤ l.length
  | _, [] => Nat.le_refl _
  | p, y :: r => by
    rw [cptG]
    split
    · exact Nat.le_succ_of_le (cptG_len _ r)
    · exact Nat.succ_le_succ (cptG_len _ r)
theorem claM_mem {xs : List Int} {x : Int} (h : x ∈ claM xs) : x ∈ xs := (srtC_perm litC xs).subset (cptG_mem _ _ x h)
theorem claM_len (xs : List Int) : (claM xs).length ≤ xs.length := by
  have := cptG_len none (srtC litC xs)
  rw [(srtC_perm litC xs).length_eq] at this
  exact this
theorem Clss.lt {F : Nat → Prop} {w : World} {v : Value} {cs : List (List Int)} (h : Clss F w v cs) : Clss (fun b => b < w.heap.size) w v cs := by
  obtain ⟨us, h1, h2, h3⟩ := h
  exact ⟨us, h1.lt.mono fun b hb => hb.2, h2, fun j u c hu hc => (h3 j u c hu hc).lt.mono fun b hb => hb.2⟩
/-- an owned slice of rows that the call made -/
def Out (B : Nat) (w : World) (v : Value) (ps : List (Value × List Int)) : Prop :=
  w.ownsRow B 40 1 v ps.length (ps.map Prod.fst) ∧ ∀ p ∈ ps, Ints (fun b => B ≤ b ∧ v.ownBlock ≠ some b) w p.1 p.2
theorem Out.nil (B : Nat) (w : World) : Out B w (.slice none 0 0) [] := ⟨World.ownsRow_nil _ _ _ _, by simp⟩
theorem Out.below {B : Nat} {w w' : World} {v : Value} {ps : List (Value × List Int)} (h : Out B w v ps) (hb : Below w.heap.size w w') : Out B w' v ps :=
  ⟨own_below h.1 hb, fun p hp => (h.2 p hp).below hb⟩
/-- one append -/
theorem Out.push {B g cap : Nat} {w w' : World} {v rv : Value} {ps : List (Value × List Int)} {c : List Int} (h : Out B w v ps) (hr : Ints (fun b => B ≤ b ∧ v.ownBlock ≠ some b) w rv c)
    (hown : w'.ownsRow B 40 1 (.slice (some ⟨g, 0, none⟩) (ps.length + 1) cap) (ps.length + 1) (ps.map Prod.fst ++ [rv])) (hg : w.grownBy w' v.ownBlock) (hat : v.ownBlock = some g ∨ w.heap.size ≤ g) :
    Out B w' (.slice (some ⟨g, 0, none⟩) (ps.length + 1) cap) (ps ++ [(rv, c)]) := by
  have mv : ∀ u x, Ints (fun b => B ≤ b ∧ v.ownBlock ≠ some b) w u x → Ints (fun b => B ≤ b ∧ (Value.slice (some ⟨g, 0, none⟩) (ps.length + 1) cap).ownBlock ≠ some b) w' u x := fun u x hx =>
    (hx.lt.move fun k hk _ => hg.block k hk.2 fun e => hk.1.2 e.symm).mono fun k hk => ⟨hk.1.1, fun e => by
      simp [Value.ownBlock] at e
      subst e
      rcases hat with h1 | h1
      · exact hk.1.2 h1
      · omega⟩
  refine ⟨by simpa using hown, fun p hp => ?_⟩
  rcases List.mem_append.1 hp with hp | hp
  · exact mv _ _ (h.2 p hp)
  · rw [List.mem_singleton] at hp
    subst hp
    exact mv _ _ hr
end Go.Proofs.YtihkknploioakaaGreat
