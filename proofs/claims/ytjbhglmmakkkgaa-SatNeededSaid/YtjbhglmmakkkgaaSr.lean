/- The search of layer 31: its block, its lemmas, and the plain mirror of run. No condition. -/
import Derived.Test.YtjbhglmmakkkgaaSq
import Derived.Test.YtjbhglmmakkkgaaSw4
import Derived.Test.YtjbhglmmakkkgaaSw8
import Derived.Test.YtjbhglmmakkkgaaSx5
namespace Go.Proofs.Ytjbhglmmakkkgaa
open Go.ChangeShapes Go.WideShapes Go.ChangeAt Go.RowKit
set_option linter.unusedVariables false

/-! ### plain: run -/
/-- the first open variable from v on -/
def openGo (m : List Bool) : Nat → Nat → Option Nat
  | 0, _ => none
  | f + 1, v => if (!m.getD (v * 2) false && !m.getD (v * 2 + 1) false) = true then some v else openGo m f (v + 1)
def openM (V : Nat) (m : List Bool) : Option Nat := openGo m V 1
def bitsM (V : Nat) (m : List Bool) : List Bool := (List.range V).map fun i => m.getD ((i + 1) * 2 + 1) false
def okM (V : Nat) (cs : List (List Int)) (ds : List Int) : Bool := (startM V ds).2 && (propM cs (startM V ds).1).1
def marksM (V : Nat) (cs : List (List Int)) (ds : List Int) : List Bool := (propM cs (startM V ds).1).2
abbrev Rrun := Option (List Bool) × List (List Int)
/-- the second run's result, behind the first's -/
def secondM (ng : List Int) (l : List (List Int)) : Rrun → Rrun
  | (some x, l2) => (some x, l ++ l2)
  | (none, l2) => (none, l ++ l2 ++ [ng])
def firstM (ng : List Int) (r2 : Rrun) : Rrun → Rrun
  | (some x, l) => (some x, l)
  | (none, l) => secondM ng l r2
def branchM (V : Nat) (cs : List (List Int)) (rec : List Int → Rrun) (ds : List Int) : Option Nat → Rrun
  | none => (some (bitsM V (marksM V cs ds)), [])
  | some v => firstM (ds.map fun l => -l) (rec (ds ++ [(v : Int)])) (rec (ds ++ [-(v : Int)]))
def runStep (V : Nat) (cs : List (List Int)) (rec : List Int → Rrun) (ds : List Int) : Rrun :=
  if okM V cs ds = false then (none, [ds.map fun l => -l]) else branchM V cs rec ds (openM V (marksM V cs ds))
def runM (V : Nat) (cs : List (List Int)) : Nat → List Int → Rrun
  | 0 => runStep V cs fun _ => (none, [])
  | n + 1 => runStep V cs (runM V cs n)
/-- how much a search may use up -/
def bud : Nat → Nat
  | 0 => 1
  | n + 1 => 2 * bud n + 1
theorem bud_pow : ∀ n, bud n + 1 = 2 ^ (n + 1)
  | 0 => rfl
  | n + 1 => by have := bud_pow n; rw [Nat.pow_succ, ← this, bud]; omega
theorem bud_le {n : Nat} (h : n ≤ 24) : bud n ≤ 33554432 := by
  have h1 := bud_pow n
  have h2 : (2 : Nat) ^ (n + 1) ≤ 2 ^ 25 := Nat.pow_le_pow_right (by decide) (by omega)
  omega

/-! ### worlds -/
/-- everything but the blocks in A stays -/
structure Kept (A : Nat → Prop) (w w' : World) : Prop where
  os : w'.os = w.os
  tape : w'.tape = w.tape
  output : w'.output = w.output
  size : w.heap.size ≤ w'.heap.size
  block : ∀ k, k < w.heap.size → ¬ A k → w'.heap[k]? = w.heap[k]?
theorem Kept.refl (A : Nat → Prop) (w : World) : Kept A w w := ⟨rfl, rfl, rfl, Nat.le_refl _, fun _ _ _ => rfl⟩
theorem Kept.trans {A A' : Nat → Prop} {a b c : World} (h : Kept A a b) (k : Kept A' b c) (hA : ∀ i, i < a.heap.size → A' i → A i) : Kept A a c :=
  ⟨k.os.trans h.os, k.tape.trans h.tape, k.output.trans h.output, Nat.le_trans h.size k.size, fun i hi hn => (k.block i (Nat.lt_of_lt_of_le hi h.size) fun h' => hn (hA i hi h')).trans (h.block i hi hn)⟩
theorem Kept.of_below {A : Nat → Prop} {a b : World} (h : Below a.heap.size a b) : Kept A a b := ⟨h.os, h.tape, h.output, h.size, fun i hi _ => h.block i hi⟩
theorem Kept.below {A : Nat → Prop} {B : Nat} {a b : World} (h : Kept A a b) (hB : B ≤ a.heap.size) (hA : ∀ i, A i → B ≤ i) : Below B a b :=
  ⟨h.os, h.tape, h.output, h.size, fun i hi => h.block i (by omega) fun h' => by have := hA i h'; omega⟩
theorem Kept.set {A : Nat → Prop} {a b : World} (h : Kept A a b) {p : Addr} (hp : A p.block) (u : Value) : Kept A a (b.setCell p u) :=
  ⟨h.os, h.tape, h.output, by have := h.size; simp [World.setCell]; omega, fun k hk hn => (Below.heap_setCell b p u k fun e => hn (by rw [e]; exact hp)).trans (h.block k hk hn)⟩
theorem Kept.grown {A : Nat → Prop} {a b c : World} {row : Option Nat} (h : Kept A a b) (hg : b.grownBy c row) (hr : ∀ k, k < a.heap.size → row = some k → A k) : Kept A a c :=
  ⟨hg.os.trans h.os, hg.tape.trans h.tape, hg.output.trans h.output, Nat.le_trans h.size hg.size, fun k hk hn => (hg.block k (Nat.lt_of_lt_of_le hk h.size) fun e => hn (hr k hk e.symm)).trans (h.block k hk hn)⟩
theorem Kept.alloc {A : Nat → Prop} {a b : World} (h : Kept A a b) (o : Obj) : Kept A a (b.alloc o) := h.grown (World.grownBy_alloc b o none) fun _ _ e => by cases e
theorem Kept.drewN {A : Nat → Prop} {a b : World} (h : Kept A a b) (n : Nat) : Kept A a (b.drewN n) := ⟨h.os, h.tape, h.output, h.size, h.block⟩

/-- the search's block -/
structure Srch (w : World) (p V : Nat) (cv lv mv : Value) (L : Int) : Prop where
  c0 : w.cell? ⟨p, 0, none⟩ = some cv
  c1 : w.cell? ⟨p, 1, none⟩ = some (.int .i64 V)
  c2 : w.cell? ⟨p, 2, none⟩ = some (.int .i64 L)
  c3 : w.cell? ⟨p, 3, none⟩ = some lv
  c4 : w.cell? ⟨p, 4, none⟩ = some mv
  fz : ∀ i, w.frozen? ⟨p, i, none⟩ = false
theorem Srch.lt {w : World} {p V : Nat} {cv lv mv : Value} {L : Int} (h : Srch w p V cv lv mv L) : p < w.heap.size := block_lt h.c0
theorem Srch.same {w w' : World} {p V : Nat} {cv lv mv : Value} {L : Int} (h : Srch w p V cv lv mv L) (hb : w'.heap[p]? = w.heap[p]?) : Srch w' p V cv lv mv L :=
  ⟨(World.cell?_of_block hb).trans h.c0, (World.cell?_of_block hb).trans h.c1, (World.cell?_of_block hb).trans h.c2, (World.cell?_of_block hb).trans h.c3, (World.cell?_of_block hb).trans h.c4, fun i => (World.frozen?_of_block hb).trans (h.fz i)⟩
theorem Srch.set2 {w : World} {p V : Nat} {cv lv mv : Value} {L : Int} (h : Srch w p V cv lv mv L) (L' : Int) : Srch (w.setCell ⟨p, 2, none⟩ (.int .i64 L')) p V cv lv mv L' :=
  ⟨set_ne (by omega) h.c0, set_ne (by omega) h.c1, set_eq h.c2, set_ne (by omega) h.c3, set_ne (by omega) h.c4, fun i => by rw [World.frozen?_setCell]; exact h.fz i⟩
theorem Srch.set3 {w : World} {p V : Nat} {cv lv mv : Value} {L : Int} (h : Srch w p V cv lv mv L) (lv' : Value) : Srch (w.setCell ⟨p, 3, none⟩ lv') p V cv lv' mv L :=
  ⟨set_ne (by omega) h.c0, set_ne (by omega) h.c1, set_ne (by omega) h.c2, set_eq h.c3, set_ne (by omega) h.c4, fun i => by rw [World.frozen?_setCell]; exact h.fz i⟩
theorem Srch.set4 {w : World} {p V : Nat} {cv lv mv : Value} {L : Int} (h : Srch w p V cv lv mv L) (mv' : Value) : Srch (w.setCell ⟨p, 4, none⟩ mv') p V cv lv mv' L :=
  ⟨set_ne (by omega) h.c0, set_ne (by omega) h.c1, set_ne (by omega) h.c2, set_ne (by omega) h.c3, set_eq h.c4, fun i => by rw [World.frozen?_setCell]; exact h.fz i⟩

/-- a row stays whose block is not written -/
theorem own_set {w : World} {base : Nat} {e : TypeId} {size : Nat} {v : Value} {n : Nat} {xs : List Value} (h : w.ownsRow base e size v n xs) {p : Addr} (hp : v.ownBlock ≠ some p.block) (u : Value) : (w.setCell p u).ownsRow base e size v n xs :=
  h.kept (row := some p.block) ⟨rfl, rfl, rfl, by simp [World.setCell], fun k _ hk => Below.heap_setCell w p u k (fun e => hk (by rw [e]))⟩ (.inr hp)
theorem own_form {w : World} {base : Nat} {e : TypeId} {size : Nat} {v : Value} {n : Nat} {xs : List Value} (h : w.ownsRow base e size v n xs) : ∃ a c, v = .slice a n c := by
  rcases h.2 with ⟨rfl, h0⟩ | ⟨g, cap, cur, rfl, _⟩
  · exact ⟨none, 0, by rw [h0]⟩
  · exact ⟨_, _, rfl⟩
/-- a row whose block stays -/
theorem own_same {w w' : World} {base : Nat} {e : TypeId} {size : Nat} {v : Value} {n : Nat} {xs : List Value} (h : w.ownsRow base e size v n xs) (hb : ∀ k, v.ownBlock = some k → w'.heap[k]? = w.heap[k]?) : w'.ownsRow base e size v n xs := by
  refine ⟨h.1, ?_⟩
  rcases h.2 with h0 | ⟨g, cap, cur, rfl, e2, e3, e4⟩
  · exact .inl h0
  · exact .inr ⟨g, cap, cur, rfl, e2, (hb g rfl).trans e3, e4⟩

theorem made_ints (n : Nat) : (madeCells (Value.cells (.int .i64 0)) (n * 1)).toList = (List.replicate n 0).map (.int .i64) := by
  apply List.ext_getElem?
  intro i
  by_cases h : i < n <;> simp [madeCells, Value.cells, h, Nat.mod_one]
/-- the lemmas: a slice that the search owns, of rows that lie elsewhere behind the search -/
def LemO (w : World) (p : Nat) (v : Value) (ls : List (List Int)) : Prop :=
  ∃ us, w.ownsRow (p + 1) 25 1 v ls.length us ∧ us.length = ls.length ∧ ∀ (j : Nat) u c, us[j]? = some u → ls[j]? = some c → Ints (fun b => p < b ∧ v.ownBlock ≠ some b) w u c
theorem LemO.nil (w : World) (p : Nat) : LemO w p (.slice none 0 0) [] := ⟨[], World.ownsRow_nil _ _ _ _, rfl, by simp⟩
theorem LemO.block {w : World} {p : Nat} {v : Value} {ls : List (List Int)} (h : LemO w p v ls) : ∀ k, v.ownBlock = some k → p < k ∧ k < w.heap.size := by
  obtain ⟨us, h1, _⟩ := h
  exact fun k hk => by have := h1.lt k hk; omega
theorem LemO.move {w w' : World} {p : Nat} {v : Value} {ls : List (List Int)} (h : LemO w p v ls) (hm : ∀ b, p < b → b < w.heap.size → w'.heap[b]? = w.heap[b]?) : LemO w' p v ls := by
  have hb := h.block
  obtain ⟨us, h1, h2, h3⟩ := h
  exact ⟨us, own_same h1 fun k hk => hm k (hb k hk).1 (hb k hk).2, h2, fun j u c hu hc => (h3 j u c hu hc).move fun b hb hl => hm b hb.1 hl⟩
theorem LemO.form {w : World} {p : Nat} {v : Value} {ls : List (List Int)} (h : LemO w p v ls) : ∃ a c, v = .slice a ls.length c := by
  obtain ⟨us, h1, _⟩ := h
  exact own_form h1
theorem LemO.below {w w' : World} {p : Nat} {v : Value} {ls : List (List Int)} (h : LemO w p v ls) (hb : Below w.heap.size w w') : LemO w' p v ls := h.move fun b _ hl => hb.block b hl
theorem LemO.rows {w : World} {p : Nat} {v : Value} {ls : List (List Int)} (h : LemO w p v ls) (hn : ls.length ≤ 9223372036854775807) : Clss (fun b => p < b) w v ls := by
  obtain ⟨us, h1, h2, h3⟩ := h
  have hs := ownsRow_sl1 h1 hn
  exact ⟨us, hs.mono fun b hb => by omega, h2, fun j u c hu hc => (h3 j u c hu hc).mono fun b hb => hb.1⟩
theorem LemO.push {w w' : World} {p g cap : Nat} {v rv : Value} {ls : List (List Int)} {c : List Int} {us : List Value}
    (h2 : us.length = ls.length) (h3 : ∀ (j : Nat) u c, us[j]? = some u → ls[j]? = some c → Ints (fun b => p < b ∧ v.ownBlock ≠ some b) w u c) (hr : Ints (fun b => p < b ∧ v.ownBlock ≠ some b) w rv c)
    (hown : w'.ownsRow (p + 1) 25 1 (.slice (some ⟨g, 0, none⟩) (ls.length + 1) cap) (ls.length + 1) (us ++ [rv])) (hg : w.grownBy w' v.ownBlock) (hat : v.ownBlock = some g ∨ w.heap.size ≤ g) :
    LemO w' p (.slice (some ⟨g, 0, none⟩) (ls.length + 1) cap) (ls ++ [c]) := by
  have mv : ∀ u m, Ints (fun b => p < b ∧ v.ownBlock ≠ some b) w u m → Ints (fun b => p < b ∧ (Value.slice (some ⟨g, 0, none⟩) (ls.length + 1) cap).ownBlock ≠ some b) w' u m := by
    intro u m hu
    refine (hu.lt.move (w' := w') fun b hb hlt => hg.block b hlt (fun e => hb.1.2 e.symm)).mono fun b hb => ⟨hb.1.1, ?_⟩
    simp only [Value.ownBlock]
    intro e
    injection e with e
    subst e
    rcases hat with h | h
    · exact hb.1.2 h
    · omega
  refine ⟨_, by rw [List.length_append]; exact hown, by simp [h2], fun j u x hu hx => ?_⟩
  rcases Nat.lt_or_ge j us.length with hj | hj
  · rw [List.getElem?_append_left hj] at hu
    rw [List.getElem?_append_left (by omega)] at hx
    exact mv u x (h3 j u x hu hx)
  · rw [List.getElem?_append_right hj] at hu
    rw [List.getElem?_append_right (by omega)] at hx
    rw [h2] at hu
    rcases hk : j - ls.length with _ | k
    · rw [hk] at hu hx
      simp at hu hx
      subst hu hx
      exact mv rv c hr
    · rw [hk] at hu
      simp at hu

/-- how far the two runs have come -/
def StepR (ng : List Int) (r1 r2 : Rrun) (j : Int) (l2 : List (List Int)) (R : Rrun) : Prop :=
  (j = 0 → l2 = [] ∧ R = firstM ng r2 r1) ∧ (j = 1 → R = secondM ng l2 r2) ∧ (j = 2 → R = (none, l2 ++ [ng]))
theorem StepR.none {ng : List Int} {r1 r2 R r : Rrun} {j : Int} {l2 : List (List Int)} (h : StepR ng r1 r2 j l2 R) (hr : j = 0 ∧ r = r1 ∨ j = 1 ∧ r = r2) (hn : r.1 = none) : StepR ng r1 r2 (j + 1) (l2 ++ r.2) R := by
  obtain ⟨h0, h1, _⟩ := h
  obtain ⟨r_1, r_2⟩ := r
  subst hn
  rcases hr with ⟨rfl, rfl⟩ | ⟨rfl, rfl⟩
  · obtain ⟨rfl, rfl⟩ := h0 rfl
    exact ⟨fun h => by omega, fun _ => by simp [firstM], fun h => by omega⟩
  · have := h1 rfl
    subst this
    exact ⟨fun h => by omega, fun h => by omega, fun _ => by simp [secondM]⟩
theorem StepR.some {ng : List Int} {r1 r2 R r : Rrun} {j : Int} {l2 : List (List Int)} {x : List Bool} (h : StepR ng r1 r2 j l2 R) (hr : j = 0 ∧ r = r1 ∨ j = 1 ∧ r = r2) (hn : r.1 = some x) : R = (some x, l2 ++ r.2) := by
  obtain ⟨h0, h1, _⟩ := h
  obtain ⟨r_1, r_2⟩ := r
  subst hn
  rcases hr with ⟨rfl, rfl⟩ | ⟨rfl, rfl⟩
  · obtain ⟨rfl, rfl⟩ := h0 rfl
    simp [firstM]
  · rw [h1 rfl]
    simp [secondM]
/-- what a run finds -/
structure RunPre (F : Nat → Prop) (p V : Nat) (cs : List (List Int)) (w : World) (cv lv mv dv : Value) (L : Int) (ls : List (List Int)) (ds : List Int) (b : Nat) : Prop where
  srch : Srch w p V cv lv mv L
  cls : Clss F w cv cs
  lem : LemO w p lv ls
  dec : Ints (fun b => b ≠ p ∧ lv.ownBlock ≠ some b) w dv ds
  L1 : L ≤ -1
  L0 : -1099511627776 + (b : Int) ≤ L
  nl : ls.length + b ≤ 1099511627776
/-- what a run leaves -/
def RunPost (p V : Nat) (W : World) (cv lv mv : Value) (L : Int) (ls : List (List Int)) (b : Nat) (r : Rrun) (e : Ending) (w' : World) : Prop :=
  ∃ (o : Int) (L' : Int) (lv' mv' : Value), e = .returned (.int .i64 o) ∧ o = (if r.1.isSome = true then 1 else 0) ∧ Srch w' p V cv lv' mv' L' ∧ L' ≤ -1 ∧ L - (b : Int) ≤ L' ∧ LemO w' p lv' (ls ++ r.2) ∧ r.2.length ≤ b ∧
    (∀ x, r.1 = some x → Bools (fun k => p < k) w' mv' x) ∧ (r.1 = none → mv' = mv) ∧ Kept (fun k => k = p ∨ lv.ownBlock = some k) W w' ∧ (∀ k, lv'.ownBlock = some k → lv.ownBlock = some k ∨ W.heap.size ≤ k)
end Go.Proofs.Ytjbhglmmakkkgaa
