/- (Trace text seat) The claim that the reader makes, in memory. No condition. -/
import Derived.Test.YtljaegmmfjllkaaGreatDoorN3
namespace Go.Proofs.YtljaegmmfjllkaaGreatDoor
open Go.ChangeShapes Go.WideShapes Go.ChangeAt Go.RowKit Go.Lib
set_option linter.unusedVariables false
set_option linter.unusedSimpArgs false

/-- the claim's block C (five cells), its kids between C and Q, its clauses' own row from Q on -/
structure ClS (w : World) (R C Q : Nat) (rule lit count : Int) (kv : Value) (kids : List Int) (v : Value) (cs : List (List Int)) : Prop where
  c0 : w.cell? ⟨C, 0, none⟩ = some v
  c1 : w.cell? ⟨C, 1, none⟩ = some (.int .i64 rule)
  c2 : w.cell? ⟨C, 2, none⟩ = some (.int .i64 lit)
  c3 : w.cell? ⟨C, 3, none⟩ = some kv
  c4 : w.cell? ⟨C, 4, none⟩ = some (.int .i64 count)
  fz : ∀ o, w.frozen? ⟨C, o, none⟩ = false
  kd : Ints (fun b => C < b ∧ b < Q) w kv kids
  rows : ∃ us, w.ownsRow Q 43 1 v cs.length us ∧ us.length = cs.length ∧ ∀ (j : Nat) u x, us[j]? = some u → cs[j]? = some x → Ints (fun b => Q ≤ b ∧ v.ownBlock ≠ some b) w u x
  lt : R < C
  lq : C < Q
theorem ClS.kp {w w' : World} {R C Q : Nat} {rule lit count : Int} {kv v : Value} {kids : List Int} {cs : List (List Int)} (h : ClS w R C Q rule lit count kv kids v cs) (hk : KpR R w w') : ClS w' R C Q rule lit count kv kids v cs := by
  have hm : ∀ b, b < w.heap.size → C ≤ b → w'.heap[b]? = w.heap[b]? := fun b hb hC => hk.block b hb (fun e => by injection e with e; have := h.lt; omega)
  have hC := hm C (block_lt h.c0) (Nat.le_refl _)
  have hq := h.lq
  obtain ⟨us, h1, h2, h3⟩ := h.rows
  exact ⟨(World.cell?_of_block hC).trans h.c0, (World.cell?_of_block hC).trans h.c1, (World.cell?_of_block hC).trans h.c2, (World.cell?_of_block hC).trans h.c3, (World.cell?_of_block hC).trans h.c4, fun o => (World.frozen?_of_block (a := ⟨C, o, none⟩) hC).trans (h.fz o),
    h.kd.move fun b hb hl => hm b hl (by omega),
    ⟨us, own_same h1 fun b e => hm b (h1.lt b e).2 (by have := (h1.lt b e).1; omega), h2, fun j u x hu hx => (h3 j u x hu hx).move fun b hb hl => hm b hl (by have := hb.1; omega)⟩, h.lt, h.lq⟩
theorem ClS.below {w w' : World} {R C Q : Nat} {rule lit count : Int} {kv v : Value} {kids : List Int} {cs : List (List Int)} (h : ClS w R C Q rule lit count kv kids v cs) (hb : Below w.heap.size w w') : ClS w' R C Q rule lit count kv kids v cs := h.kp (kpr_below hb)
theorem ClS.push {w w' : World} {R C Q g cap n : Nat} {rule lit count : Int} {kv v rv : Value} {kids : List Int} {cs : List (List Int)} {x : List Int} {us : List Value} (h : ClS w R C Q rule lit count kv kids v cs) (hn : n = cs.length)
    (h1 : w.ownsRow Q 43 1 v n us) (h2 : us.length = cs.length) (h3 : ∀ (j : Nat) u x, us[j]? = some u → cs[j]? = some x → Ints (fun b => Q ≤ b ∧ v.ownBlock ≠ some b) w u x)
    (hr : Ints (fun b => Q ≤ b ∧ v.ownBlock ≠ some b) w rv x)
    (hown : w'.ownsRow Q 43 1 (.slice (some ⟨g, 0, none⟩) (n + 1) cap) (n + 1) (us ++ [rv])) (hg : w.grownBy w' v.ownBlock) (hat : v.ownBlock = some g ∨ w.heap.size ≤ g) :
    ClS (w'.setCell ⟨C, 0, none⟩ (.slice (some ⟨g, 0, none⟩) (n + 1) cap)) R C Q rule lit count kv kids (.slice (some ⟨g, 0, none⟩) (n + 1) cap) (cs ++ [x]) := by
  subst hn
  have hlt := block_lt h.c0
  have hq := h.lq
  have hne : some C ≠ v.ownBlock := fun e => by have := (h1.lt C e.symm).1; omega
  have hgD : Q ≤ g := (hown.lt g rfl).1
  have gc : ∀ {o : Nat} {u : Value}, w.cell? ⟨C, o, none⟩ = some u → w'.cell? ⟨C, o, none⟩ = some u := fun hc => (World.cell?_of_block (hg.block C hlt hne)).trans hc
  have mv : ∀ u y, Ints (fun b => Q ≤ b ∧ v.ownBlock ≠ some b) w u y → Ints (fun b => Q ≤ b ∧ (Value.slice (some ⟨g, 0, none⟩) (cs.length + 1) cap).ownBlock ≠ some b) (w'.setCell ⟨C, 0, none⟩ (.slice (some ⟨g, 0, none⟩) (cs.length + 1) cap)) u y := fun u y hu =>
    ((hu.lt.mono (G := fun b => b < w.heap.size ∧ Q ≤ b ∧ v.ownBlock ≠ some b) fun b hb => ⟨hb.2, hb.1⟩).move fun b hb _ => (Below.heap_setCell _ _ _ _ (show b ≠ C by have := hb.2.1; omega)).trans (hg.block b hb.1 fun e => hb.2.2 e.symm)).mono fun b hb => ⟨hb.2.1, by
      simp only [Value.ownBlock]
      intro e
      injection e with e
      subst e
      rcases hat with h | h
      · exact hb.2.2 h
      · have := hb.1; omega⟩
  refine ⟨set_eq (gc h.c0), set_ne (by omega) (gc h.c1), set_ne (by omega) (gc h.c2), set_ne (by omega) (gc h.c3), set_ne (by omega) (gc h.c4), fun o => ?_, ?_, ⟨us ++ [rv], ?_, by simp [h2], fun j u y hu hy => ?_⟩, h.lt, h.lq⟩
  · rw [World.frozen?_setCell]
    exact (World.frozen?_of_block (a := ⟨C, o, none⟩) (hg.block C hlt hne)).trans (h.fz o)
  · exact h.kd.move fun b hb hl => (Below.heap_setCell _ _ _ _ (show b ≠ C by omega)).trans (hg.block b hl fun e => by have := (h1.lt b e.symm).1; omega)
  · rw [List.length_append]
    refine own_same hown fun b e => Below.heap_setCell _ _ _ _ ?_
    have : g = b := by simpa [Value.ownBlock] using e
    show b ≠ C
    omega
  · rcases Nat.lt_or_ge j us.length with hj | hj
    · rw [List.getElem?_append_left hj] at hu
      rw [List.getElem?_append_left (by omega)] at hy
      exact mv u y (h3 j u y hu hy)
    · rw [List.getElem?_append_right hj] at hu
      rw [List.getElem?_append_right (by omega)] at hy
      rw [h2] at hu
      rcases hk : j - cs.length with _ | k
      · rw [hk] at hu hy
        simp at hu hy
        subst hu hy
        exact mv _ _ hr
      · rw [hk] at hu
        simp at hu
end Go.Proofs.YtljaegmmfjllkaaGreatDoor
