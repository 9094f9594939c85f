/- (Text seat) The formula that Parse reads, in memory; plain steps of the reader. No condition. -/
import Derived.Test.YthkpobipndifoaaGreatDoorMv
import Derived.Test.YthkpobipndifoaaGreatDoorKf
namespace Go.Proofs.YthkpobipndifoaaGreatDoor
open Go.ChangeShapes Go.WideShapes Go.ChangeAt Go.RowKit Go.Lib
set_option linter.unusedVariables false
set_option linter.unusedSimpArgs false

theorem out_stop (f : Nat) (r : Bts) (b : Bool) (cs : List (List Int)) (h : b = true ∨ r = []) : outM f r b cs = (cs, r, b) := by
  rcases f with _ | f
  · rfl
  · rw [outM, if_pos h]
/-- what the inner loop has at its head: a number was read -/
def inH (f : Nat) (r : Bts) (b : Bool) (n : Int) (l : List Int) : List Int × Bts × Bool :=
  if n = 0 ∨ b = true then (l, r, b) else inM f (wordR wSp r) (wordB wSp r) (l ++ [n])
theorem in_head (f : Nat) (r : Bts) (b : Bool) (l : List Int) : inM (f + 1) r b l = inH f (numR r) (b || numB r) (numV r) l := by rw [inM]; rfl
theorem or_false' {a b : Bool} (h : (a || b) = false) : a = false ∧ b = false := by simpa using h
/-- the rows that Parse makes: the formula's block C, its clauses' own row behind it -/
structure PaS (w : World) (R C : Nat) (vars keep : Int) (v : Value) (cs : List (List Int)) : Prop where
  c0 : w.cell? ⟨C, 0, none⟩ = some (.int .i64 vars)
  c1 : w.cell? ⟨C, 1, none⟩ = some (.int .i64 keep)
  c2 : w.cell? ⟨C, 2, none⟩ = some v
  fz : ∀ o, w.frozen? ⟨C, o, none⟩ = false
  rows : ∃ us, w.ownsRow (C + 1) 38 1 v cs.length us ∧ us.length = cs.length ∧ ∀ (j : Nat) u x, us[j]? = some u → cs[j]? = some x → Ints (fun b => C + 1 ≤ b ∧ v.ownBlock ≠ some b) w u x
  lt : R < C
theorem PaS.kp {w w' : World} {R C : Nat} {vars keep : Int} {v : Value} {cs : List (List Int)} (h : PaS w R C vars keep v cs) (hk : KpR R w w') : PaS w' R C vars keep v cs := by
  have hm : ∀ b, b < w.heap.size → C ≤ b → w'.heap[b]? = w.heap[b]? := fun b hb hC => hk.block b hb (fun e => by injection e with e; have := h.lt; omega)
  have hC := hm C (block_lt h.c0) (Nat.le_refl _)
  obtain ⟨us, h1, h2, h3⟩ := h.rows
  exact ⟨(World.cell?_of_block hC).trans h.c0, (World.cell?_of_block hC).trans h.c1, (World.cell?_of_block hC).trans h.c2, fun o => (World.frozen?_of_block (a := ⟨C, o, none⟩) hC).trans (h.fz o),
    ⟨us, own_same h1 fun b e => hm b (h1.lt b e).2 (by have := (h1.lt b e).1; omega), h2, fun j u x hu hx => (h3 j u x hu hx).move fun b hb hl => hm b hl (by have := hb.1; omega)⟩, h.lt⟩
theorem PaS.below {w w' : World} {R C : Nat} {vars keep : Int} {v : Value} {cs : List (List Int)} (h : PaS w R C vars keep v cs) (hb : Below w.heap.size w w') : PaS w' R C vars keep v cs := h.kp (kpr_below hb)
theorem PaS.grown {w w' : World} {R C : Nat} {vars keep : Int} {v : Value} {cs : List (List Int)} {row : Option Nat} (h : PaS w R C vars keep v cs) (hg : w.grownBy w' row) (hr : ∀ b, row = some b → C + 1 ≤ b ∧ v.ownBlock ≠ some b ∧ ∀ (us : List Value), w.ownsRow (C + 1) 38 1 v cs.length us → True) (hn : ∀ us, w.ownsRow (C + 1) 38 1 v cs.length us → ∀ (j : Nat) u x, us[j]? = some u → cs[j]? = some x → Ints (fun b => (C + 1 ≤ b ∧ v.ownBlock ≠ some b) ∧ row ≠ some b) w u x) : PaS w' R C vars keep v cs := by
  have hC : w'.heap[C]? = w.heap[C]? := hg.block C (block_lt h.c0) (fun e => by have := (hr C e.symm).1; omega)
  obtain ⟨us, h1, h2, h3⟩ := h.rows
  exact ⟨(World.cell?_of_block hC).trans h.c0, (World.cell?_of_block hC).trans h.c1, (World.cell?_of_block hC).trans h.c2, fun o => (World.frozen?_of_block (a := ⟨C, o, none⟩) hC).trans (h.fz o),
    ⟨us, own_same h1 fun b e => hg.block b (h1.lt b e).2 (fun e2 => (hr b e2.symm).2.1 e), h2, fun j u x hu hx => ((hn us h1 j u x hu hx).move fun b hb hl => hg.block b hl fun e => hb.2 e.symm).mono fun b hb => hb.1⟩, h.lt⟩
theorem PaS.clss {w : World} {R C : Nat} {vars keep : Int} {v : Value} {cs : List (List Int)} (h : PaS w R C vars keep v cs) (hn : cs.length ≤ 9223372036854775807) : Clss (fun b => C + 1 ≤ b) w v cs := by
  obtain ⟨us, h1, h2, h3⟩ := h.rows
  exact ⟨us, (ownsRow_sl1 h1 hn).mono fun b hb => hb.1, h2, fun j u x hu hx => (h3 j u x hu hx).mono fun b hb => hb.1⟩
theorem PaS.push {w w' : World} {R C g cap n : Nat} {vars keep : Int} {v rv : Value} {cs : List (List Int)} {x : List Int} {us : List Value} (h : PaS w R C vars keep v cs) (hn : n = cs.length)
    (h1 : w.ownsRow (C + 1) 38 1 v n us) (h2 : us.length = cs.length) (h3 : ∀ (j : Nat) u x, us[j]? = some u → cs[j]? = some x → Ints (fun b => C + 1 ≤ b ∧ v.ownBlock ≠ some b) w u x)
    (hr : Ints (fun b => C + 1 ≤ b ∧ v.ownBlock ≠ some b) w rv x)
    (hown : w'.ownsRow (C + 1) 38 1 (.slice (some ⟨g, 0, none⟩) (n + 1) cap) (n + 1) (us ++ [rv])) (hg : w.grownBy w' v.ownBlock) (hat : v.ownBlock = some g ∨ w.heap.size ≤ g) :
    PaS (w'.setCell ⟨C, 2, none⟩ (.slice (some ⟨g, 0, none⟩) (n + 1) cap)) R C vars keep (.slice (some ⟨g, 0, none⟩) (n + 1) cap) (cs ++ [x]) := by
  subst hn
  have hlt := block_lt h.c0
  have hne : some C ≠ v.ownBlock := fun e => by have := (h1.lt C e.symm).1; omega
  have hgD : C + 1 ≤ g := (hown.lt g rfl).1
  have mv : ∀ u y, Ints (fun b => C + 1 ≤ b ∧ v.ownBlock ≠ some b) w u y → Ints (fun b => C + 1 ≤ b ∧ (Value.slice (some ⟨g, 0, none⟩) (cs.length + 1) cap).ownBlock ≠ some b) (w'.setCell ⟨C, 2, none⟩ (.slice (some ⟨g, 0, none⟩) (cs.length + 1) cap)) u y := fun u y hu =>
    ((hu.lt.mono (G := fun b => b < w.heap.size ∧ C + 1 ≤ b ∧ v.ownBlock ≠ some b) fun b hb => ⟨hb.2, hb.1⟩).move fun b hb _ => (Below.heap_setCell _ _ _ _ (show b ≠ C by have := hb.2.1; omega)).trans (hg.block b hb.1 fun e => hb.2.2 e.symm)).mono fun b hb => ⟨hb.2.1, by
      simp only [Value.ownBlock]
      intro e
      injection e with e
      subst e
      rcases hat with h | h
      · exact hb.2.2 h
      · have := hb.1; omega⟩
  refine ⟨set_ne (by omega) (grown_c2' hg hne h.c0), set_ne (by omega) (grown_c2' hg hne h.c1), set_eq (grown_c2' hg hne h.c2), fun o => ?_, ⟨us ++ [rv], ?_, by simp [h2], fun j u y hu hy => ?_⟩, h.lt⟩
  · rw [World.frozen?_setCell]
    exact (World.frozen?_of_block (a := ⟨C, o, none⟩) (hg.block C hlt hne)).trans (h.fz o)
  · rw [List.length_append]
    refine own_same hown fun b e => Below.heap_setCell _ _ _ _ ?_
    have : g = b := by simpa [Value.ownBlock] using e
    show b ≠ C
    omega
  · rcases Nat.lt_or_ge j us.length with hj | hj
    · rw [List.getElem?_append_left hj] at hu
      rw [List.getElem?_append_left (by omega)] at hy
      exact mv u y (h3 j u y hu hy)
    · rw [List.getElem?_append_right hj] at hu
      rw [List.getElem?_append_right (by omega)] at hy
      rw [h2] at hu
      rcases hk : j - cs.length with _ | k
      · rw [hk] at hu hy
        simp at hu hy
        subst hu hy
        exact mv _ _ hr
      · rw [hk] at hu
        simp at hu
where
  grown_c2' {w w' : World} {row : Option Nat} {b o : Nat} {v : Value} (h : w.grownBy w' row) (hb : some b ≠ row) (hc : w.cell? ⟨b, o, none⟩ = some v) : w'.cell? ⟨b, o, none⟩ = some v :=
    (World.cell?_of_block (h.block b (block_lt hc) hb)).trans hc
end Go.Proofs.YthkpobipndifoaaGreatDoor
