/- Walk: ddnnf.OfBdd for a canonical diagram. Condition: the diagram's code is 0. -/
import Derived.Test.YtelobilhppoooaaUb
import Derived.Test.YtelobilhppoooaaKz
import Derived.Test.YtelobilhppoooaaQy
import Derived.Test.YtelobilhppoooaaDd
namespace Go.Proofs.Ytelobilhppoooaa
open Go.ChangeShapes Go.WideShapes Go.ChangeAt Go.RowKit
set_option linter.unusedVariables false

/-! ### slices of parts that the call owns -/
def cells3 (us : List (Value × Value × Value)) : List Value := us.flatMap fun u => [u.1, u.2.1, u.2.2]
theorem cells3_get : ∀ (us : List (Value × Value × Value)) (j : Nat) (u : Value × Value × Value), us[j]? = some u → (cells3 us)[j * 3]? = some u.1 ∧ (cells3 us)[j * 3 + 1]? = some u.2.1 ∧ (cells3 us)[j * 3 + 2]? = some u.2.2
  | [], j, u, h => by simp at h
  | x :: r, 0, u, h => by simp at h; subst h; simp [cells3]
  | x :: r, j + 1, u, h => by
    have := cells3_get r j u (by simpa using h)
    simp only [cells3, List.flatMap_cons] at this ⊢
    rw [show (j + 1) * 3 = j * 3 + 3 by omega]
    simpa [List.getElem?_append_right] using this
theorem cells3_snoc (us : List (Value × Value × Value)) (u : Value × Value × Value) : cells3 (us ++ [u]) = cells3 us ++ [u.1, u.2.1, u.2.2] := by simp [cells3]
theorem cells3_len (us : List (Value × Value × Value)) : (cells3 us).length = us.length * 3 := by
  induction us with
  | nil => rfl
  | cons u r ih => simp only [cells3, List.flatMap_cons, List.length_append, List.length_cons, List.length_nil] at ih ⊢; omega

/-- a slice of parts that the call owns: the kids lie elsewhere -/
def PartsOwn (w : World) (base : Nat) (E : TypeId) (v : Value) (ps : List Part) : Prop :=
  ∃ us, w.ownsRow base E 3 v ps.length (cells3 us) ∧ us.length = ps.length ∧ ∀ (j : Nat) u p, us[j]? = some u → ps[j]? = some p →
    u.1 = .int .i64 p.kind ∧ u.2.1 = .int .i64 p.lit ∧ Ints (fun b => base ≤ b ∧ v.ownBlock ≠ some b) w u.2.2 p.kids ∧ I64 p.kind ∧ I64 p.lit
theorem PartsOwn.nil (w : World) (base : Nat) (E : TypeId) : PartsOwn w base E (.slice none 0 0) [] := ⟨[], World.ownsRow_nil _ _ _ _, rfl, by simp⟩
theorem PartsOwn.below {w w' : World} {base : Nat} {E : TypeId} {v : Value} {ps : List Part} (h : PartsOwn w base E v ps) (hb : Below w.heap.size w w') : PartsOwn w' base E v ps := by
  obtain ⟨us, h1, h2, h3⟩ := h
  exact ⟨us, own_below h1 hb, h2, fun j u p hu hp => let ⟨a, b, c, d⟩ := h3 j u p hu hp; ⟨a, b, c.below hb, d⟩⟩
theorem PartsOwn.lt {w : World} {base : Nat} {E : TypeId} {v : Value} {ps : List Part} (h : PartsOwn w base E v ps) : ∀ k, v.ownBlock = some k → base ≤ k ∧ k < w.heap.size := by
  obtain ⟨us, h1, _⟩ := h
  exact h1.lt
theorem PartsOwn.move {w w' : World} {base : Nat} {E : TypeId} {v : Value} {ps : List Part} (h : PartsOwn w base E v ps) (hm : ∀ b, base ≤ b → b < w.heap.size → w'.heap[b]? = w.heap[b]?) : PartsOwn w' base E v ps := by
  obtain ⟨us, h1, h2, h3⟩ := h
  refine ⟨us, ?_, h2, fun j u p hu hp => let ⟨a, b, c, d⟩ := h3 j u p hu hp; ⟨a, b, c.move fun b hb hlt => hm b hb.1 hlt, d⟩⟩
  refine ⟨h1.1, ?_⟩
  rcases h1.2 with h0 | ⟨g, cap, cur, e1, e2, e3, e4⟩
  · exact .inl h0
  · exact .inr ⟨g, cap, cur, e1, e2, (hm g e2 (Array.getElem?_eq_some_iff.1 e3).1).trans e3, e4⟩
theorem PartsOwn.parts {w : World} {base : Nat} {E : TypeId} {v : Value} {ps : List Part} (h : PartsOwn w base E v ps) (hn : ps.length ≤ 9223372036854775807) : Parts (fun b => base ≤ b) w v ps := by
  obtain ⟨us, h1, h2, h3⟩ := h
  refine ⟨us, ?_, h2, fun j u p hu hp => let ⟨a, b, c, d⟩ := h3 j u p hu hp; ⟨a, b, c.mono fun _ h => h.1, d⟩⟩
  rcases h1.2 with ⟨rfl, h0⟩ | ⟨g, cap, cur, rfl, hb, _⟩
  · have : us = [] := List.eq_nil_of_length_eq_zero (by omega)
    subst this
    exact Sl3.nil _ _
  · refine ⟨some ⟨g, 0, none⟩, cap, by rw [h2], by omega, fun j u hu => ⟨g, 0, rfl, hb, ?_⟩⟩
    have hc := h1.cells (g := g) rfl
    obtain ⟨e1, e2, e3⟩ := cells3_get us j u hu
    have f1 := hc _ _ e1
    have f2 := hc _ _ e2
    have f3 := hc _ _ e3
    rw [add_at] at f1 f2 f3
    rw [Nat.zero_add] at f1 f2 f3 ⊢
    exact ⟨f1, f2, f3⟩
theorem PartsOwn.push {w w' : World} {base : Nat} {E : TypeId} {v : Value} {g cap : Nat} {ps : List Part} {us : List (Value × Value × Value)} {kv : Value} {p : Part}
    (h2 : us.length = ps.length) (h3 : ∀ (j : Nat) u p, us[j]? = some u → ps[j]? = some p → u.1 = .int .i64 p.kind ∧ u.2.1 = .int .i64 p.lit ∧ Ints (fun b => base ≤ b ∧ v.ownBlock ≠ some b) w u.2.2 p.kids ∧ I64 p.kind ∧ I64 p.lit)
    (hr : Ints (fun b => base ≤ b ∧ v.ownBlock ≠ some b) w kv p.kids) (i1 : I64 p.kind) (i2 : I64 p.lit)
    (hown : w'.ownsRow base E 3 (.slice (some ⟨g, 0, none⟩) (ps.length + 1) cap) (ps.length + 1) (cells3 us ++ [.int .i64 p.kind, .int .i64 p.lit, kv])) (hg : w.grownBy w' v.ownBlock) (hat : v.ownBlock = some g ∨ w.heap.size ≤ g) :
    PartsOwn w' base E (.slice (some ⟨g, 0, none⟩) (ps.length + 1) cap) (ps ++ [p]) := by
  have mv : ∀ u m, Ints (fun b => base ≤ b ∧ v.ownBlock ≠ some b) w u m → Ints (fun b => base ≤ b ∧ (Value.slice (some ⟨g, 0, none⟩) (ps.length + 1) cap).ownBlock ≠ some b) w' u m := by
    intro u m hu
    refine (hu.lt.move (w' := w') fun b hb hlt => hg.block b hlt (fun e => hb.1.2 e.symm)).mono fun b hb => ⟨hb.1.1, ?_⟩
    simp only [Value.ownBlock]
    intro e
    injection e with e
    subst e
    rcases hat with h | h
    · exact hb.1.2 h
    · omega
  refine ⟨us ++ [(.int .i64 p.kind, .int .i64 p.lit, kv)], by rw [cells3_snoc]; simpa using hown, by simp [h2], fun j u x hu hx => ?_⟩
  rcases Nat.lt_or_ge j us.length with hj | hj
  · rw [List.getElem?_append_left hj] at hu
    rw [List.getElem?_append_left (by omega)] at hx
    obtain ⟨a, b, c, d⟩ := h3 j u x hu hx
    exact ⟨a, b, mv _ _ c, d⟩
  · rw [List.getElem?_append_right hj] at hu
    rw [List.getElem?_append_right (by omega)] at hx
    rw [h2] at hu
    rcases hk : j - ps.length with _ | k
    · rw [hk] at hu hx
      simp at hu hx
      subst hu hx
      exact ⟨rfl, rfl, mv _ _ hr, i1, i2⟩
    · rw [hk] at hu
      simp at hu


theorem part_one {w : World} {b : Nat} {k : Int} {fr : Nat × Nat} {T : TypeId} (h : w.heap[b]? = some (.cells #[.int .i64 k, .int .i64 0, .slice none 0 0] T fr)) (hk : I64 k) : Parts (fun c => c = b) w (.slice (some ⟨b, 0, none⟩) 1 1) [⟨k, 0, []⟩] := by
  refine ⟨[(.int .i64 k, .int .i64 0, .slice none 0 0)], sl3_block [(.int .i64 k, .int .i64 0, .slice none 0 0)] 1 h (by simp) (fun j u hu => ?_), rfl, fun j u p hu hp => ?_⟩
  · match j, hu with
    | 0, hu => simp at hu; subst hu; exact ⟨rfl, rfl, rfl⟩
  · match j, hu, hp with
    | 0, hu, hp => simp at hu hp; subst hu hp; exact ⟨rfl, rfl, Ints.nil _ _, hk, show I64 0 from ⟨by omega, by omega⟩⟩
def DofPost (W : World) (vars root : Int) (ns : List Fork) (e : Ending) (w' : World) : Prop :=
  ∃ a n c, e = .returned (.tuple #[.agg #[.int .i64 vars, .slice a n c], .int .i64 0]) ∧ Parts (fun b => W.heap.size ≤ b) w' (.slice a n c) (dnfM root ns) ∧ Below W.heap.size W w'
set_option maxRecDepth 100000 in
set_option maxHeartbeats 8000000 in
theorem dof_any (F : Nat → Prop) (vars root : Int) (nv : Value) (ns : List Fork) (w : World) (hx : Forks F w nv ns) (hv : I64 vars) (hr : I64 root) (hok : bddM vars root ns = 0) :
    Calls Try.prog 15 #[.agg #[.int .i64 vars, nv, .int .i64 root]] w (DofPost w vars root ns) := by
  obtain ⟨hv0, hv1, hnl, hbk, ⟨hr0, hr1⟩, hfv⟩ := bdd_ok hok
  obtain ⟨a, n, c, rfl, HN, hn⟩ := hx.form
  obtain ⟨W1, hW1⟩ : ∃ W, w.alloc (.cells #[.int .i64 vars, .slice a n c, .int .i64 root] 24) = W := ⟨_, rfl⟩
  obtain ⟨W2, hW2⟩ : ∃ W, W1.alloc (.cells #[.int .i64 0, .slice none 0 0] 42) = W := ⟨_, rfl⟩
  have hb1 : Below w.heap.size w W1 := by rw [← hW1]; exact (Below.refl _ _).alloc (Nat.le_refl _) _
  have hs1 : W1.heap.size = w.heap.size + 1 := by rw [← hW1]; simp
  have hb2 : Below w.heap.size w W2 := by rw [← hW2]; exact hb1.alloc (by omega) _
  have hs2 : W2.heap.size = w.heap.size + 1 + 1 := by rw [← hW2]; simp; omega
  obtain ⟨BB, hBB⟩ : ∃ B, w.heap.size = B := ⟨_, rfl⟩
  have k0 : ∀ o v, #[Value.int .i64 vars, .slice a n c, .int .i64 root][o]? = some v → W2.cell? ⟨w.heap.size, o, none⟩ = some v := fun o v h => by rw [← hW2, ← hW1]; refine cell_alloc _ ?_; rw [cell_of_row _ _ _ _ _ _ (new_at _ _)]; exact h
  have k1 : ∀ o v, #[Value.int .i64 0, .slice none 0 0][o]? = some v → W2.cell? ⟨w.heap.size + 1, o, none⟩ = some v := fun o v h => by rw [← hW2, cell_of_row _ _ _ _ _ _ (new_at' _ _ hs1.symm)]; exact h
  have kf : ∀ o, W2.frozen? ⟨w.heap.size + 1, o, none⟩ = false := fun o => by rw [← hW2]; simp only [World.frozen?, new_at' W1 (.cells #[.int .i64 0, .slice none 0 0] 42) hs1.symm]; simp
  have c0 := k0 0 _ rfl
  have c1 := k0 1 _ rfl
  have c2 := k0 2 _ rfl
  have d0 := k1 0 _ rfl
  have d1 := k1 1 _ rfl
  have hck := bddcheck_any F vars root (.slice a n c) ns W2 (hx.below hb2) hv hr
  rw [hok] at hck
  rw [hBB] at c0 c1 c2 d0 d1 hs2
  have HX2 := Lib.hid (hx.below hb2)
  have HCK := Lib.hid hck
  have HB2 := Lib.hid hb2
  have HW1 := Lib.hid hW1
  have HW2 := Lib.hid hW2
  have HKF : Hid (∀ o, W2.frozen? ⟨BB + 1, o, none⟩ = false) := Lib.hid (by rw [← hBB]; exact kf)
  have HBB := Lib.hid hBB
  have HBK := Lib.hid hbk
  have HFV := Lib.hid hfv
  have hnn : n ≤ 4096 := by rw [HN.out]; exact hnl
  clear hx hok hck hb1 hb2 hW1 hW2 k0 k1 kf hBB hs1 hbk hfv hv hr hnl
  go_enter Try.func15, Try.ntmps15
  go_wp2_with fail
  rw [HW1.out, HW2.out]
  refine HCK.out.mono ?_
  rintro e w3 ⟨rfl, hb3⟩
  have e0 := below_c hb3 (by omega) c0
  have e1 := below_c hb3 (by omega) c1
  have e2 := below_c hb3 (by omega) c2
  have g0 := below_c hb3 (by omega) d0
  have g1 := below_c hb3 (by omega) d1
  have gf : ∀ o, w3.frozen? ⟨BB + 1, o, none⟩ = false := fun o => below_z hb3 (by omega) (HKF.out o)
  have HB3 : Hid (Below w.heap.size w w3) := Lib.hid (HB2.out.trans (hb3.mono (by have := HB2.out.size; omega)))
  have HX3 := Lib.hid (HX2.out.below hb3)
  have hs3 : BB + 1 + 1 ≤ w3.heap.size := by have := hb3.size; omega
  have q0 := cell_alloc (.cells #[.int .i64 vars, .slice none 0 0] 42) e0
  have q1 := cell_alloc (.cells #[.int .i64 vars, .slice none 0 0] 42) e1
  have q2 := cell_alloc (.cells #[.int .i64 vars, .slice none 0 0] 42) e2
  clear hb3 HX2 HCK c0 c1 c2 d0 d1 HB2 HW2 HW1 hs2
  rw [HBB.out]
  by_cases hr0 : root = 0
  · subst hr0
    obtain ⟨X, hX⟩ : ∃ X, (w3.alloc (.cells #[.int .i64 vars, .slice (some ⟨w3.heap.size + 1, 0, none⟩) 1 1] 42)).alloc (.cells #[.int .i64 1, .int .i64 0, .slice none 0 0] 52) = X := ⟨_, rfl⟩
    have hbX : Below w3.heap.size w3 X := by rw [← hX]; exact ((Below.refl _ _).alloc (Nat.le_refl _) _).alloc (by simp) _
    have p0 := below_c hbX (by omega) g0
    have p1 := below_c hbX (by omega) g1
    have pf0 := below_z hbX (by omega) (gf 0)
    have pf1 := below_z hbX (by omega) (gf 1)
    have hpt := part_one (k := 1) (w := X) (by rw [← hX]; exact new_at' _ _ (n := w3.heap.size + 1) (by simp)) (show I64 1 from ⟨by omega, by omega⟩)
    rw [← hX] at p0 p1 pf0 pf1
    have HPT := Lib.hid hpt
    have HBX := Lib.hid hbX
    have HX := Lib.hid hX
    clear hpt hbX hX gf
    go_wp2_with fail
    rw [HX.out] at p0 p1 ⊢
    have v0 := set_ne (b := BB + 1) (b' := BB + 1) (o := 0) (o' := 1) (u := .slice (some ⟨w3.heap.size + 1, 0, none⟩) 1 1) (by omega) (set_eq (u := .int .i64 vars) p0)
    have v1 := set_eq (u := .slice (some ⟨w3.heap.size + 1, 0, none⟩) 1 1) (set_ne (o' := 0) (b' := BB + 1) (u := .int .i64 vars) (by omega) p1)
    refine bodyPost_ret (v := .tuple #[.agg #[.int .i64 vars, .slice (some ⟨w3.heap.size + 1, 0, none⟩) 1 1], .int .i64 0]) (by simp [results, Try.results15, go_sem, v0, v1]) rfl ?_
    have hB := HBB.out
    refine ⟨_, _, _, rfl, ?_, ((HB3.out.trans (HBX.out.mono (by omega))).setCell (by show w.heap.size ≤ BB + 1; omega) _).setCell (by show w.heap.size ≤ BB + 1; omega) _⟩
    exact (HPT.out.move fun b hb _ => by subst hb; rw [Below.heap_setCell _ _ _ _ (by show w3.heap.size + 1 ≠ BB + 1; omega), Below.heap_setCell _ _ _ _ (by show w3.heap.size + 1 ≠ BB + 1; omega)]).mono fun b hb => by subst hb; omega
  by_cases hr1 : root = 1
  · subst hr1
    obtain ⟨X, hX⟩ : ∃ X, (w3.alloc (.cells #[.int .i64 vars, .slice (some ⟨w3.heap.size + 1, 0, none⟩) 1 1] 42)).alloc (.cells #[.int .i64 0, .int .i64 0, .slice none 0 0] 52) = X := ⟨_, rfl⟩
    have hbX : Below w3.heap.size w3 X := by rw [← hX]; exact ((Below.refl _ _).alloc (Nat.le_refl _) _).alloc (by simp) _
    have p0 := below_c hbX (by omega) g0
    have p1 := below_c hbX (by omega) g1
    have pf0 := below_z hbX (by omega) (gf 0)
    have pf1 := below_z hbX (by omega) (gf 1)
    have hpt := part_one (k := 0) (w := X) (by rw [← hX]; exact new_at' _ _ (n := w3.heap.size + 1) (by simp)) (show I64 0 from ⟨by omega, by omega⟩)
    rw [← hX] at p0 p1 pf0 pf1
    have HPT := Lib.hid hpt
    have HBX := Lib.hid hbX
    have HX := Lib.hid hX
    clear hpt hbX hX gf
    go_wp2_with fail
    rw [HX.out] at p0 p1 ⊢
    have v0 := set_ne (b := BB + 1) (b' := BB + 1) (o := 0) (o' := 1) (u := .slice (some ⟨w3.heap.size + 1, 0, none⟩) 1 1) (by omega) (set_eq (u := .int .i64 vars) p0)
    have v1 := set_eq (u := .slice (some ⟨w3.heap.size + 1, 0, none⟩) 1 1) (set_ne (o' := 0) (b' := BB + 1) (u := .int .i64 vars) (by omega) p1)
    refine bodyPost_ret (v := .tuple #[.agg #[.int .i64 vars, .slice (some ⟨w3.heap.size + 1, 0, none⟩) 1 1], .int .i64 0]) (by simp [results, Try.results15, go_sem, v0, v1]) rfl ?_
    have hB := HBB.out
    refine ⟨_, _, _, rfl, ?_, ((HB3.out.trans (HBX.out.mono (by omega))).setCell (by show w.heap.size ≤ BB + 1; omega) _).setCell (by show w.heap.size ≤ BB + 1; omega) _⟩
    exact (HPT.out.move fun b hb _ => by subst hb; rw [Below.heap_setCell _ _ _ _ (by show w3.heap.size + 1 ≠ BB + 1; omega), Below.heap_setCell _ _ _ _ (by show w3.heap.size + 1 ≠ BB + 1; omega)]).mono fun b hb => by subst hb; omega
  have t0 : (root == 0) = false := by simp; exact hr0
  have t1 : (root == 1) = false := by simp; exact hr1
  have hns : n = n := rfl
  obtain ⟨D, hD⟩ : ∃ D, w3.heap.size = D := ⟨_, rfl⟩
  obtain ⟨X, hX⟩ : ∃ X, (w3.alloc (.cells #[.int .i64 vars, .slice (some ⟨w3.heap.size + 1, 0, none⟩) 2 2] 42)).alloc (.cells #[.int .i64 1, .int .i64 0, .slice none 0 0, .int .i64 0, .int .i64 0, .slice none 0 0] 52) = X := ⟨_, rfl⟩
  have hbX : Below w3.heap.size w3 X := by rw [← hX]; exact ((Below.refl _ _).alloc (Nat.le_refl _) _).alloc (by simp) _
  have hsX : X.heap.size = D + 1 + 1 := by rw [← hX]; simp; omega
  have hPX : X.heap[D + 1]? = some (.cells #[.int .i64 1, .int .i64 0, .slice none 0 0, .int .i64 0, .int .i64 0, .slice none 0 0] 52) := by rw [← hX]; exact new_at' _ _ (by simp; omega)
  have hDX : X.heap[D]? = some (.cells #[.int .i64 vars, .slice (some ⟨w3.heap.size + 1, 0, none⟩) 2 2] 42) := by rw [← hX]; exact old_at _ _ _ (new_at' _ _ hD.symm)
  have D0 : X.cell? ⟨D, 0, none⟩ = some (.int .i64 vars) := by rw [cell_of_row _ _ _ _ _ _ hDX]; rfl
  have D1 : X.cell? ⟨D, 1, none⟩ = some (.slice (some ⟨w3.heap.size + 1, 0, none⟩) 2 2) := by rw [cell_of_row _ _ _ _ _ _ hDX]; rfl
  have DF : X.frozen? ⟨D, 1, none⟩ = false := by simp only [World.frozen?, hDX]; simp
  have hpo : PartsOwn X (D + 1) 52 (.slice (some ⟨w3.heap.size + 1, 0, none⟩) 2 2) ([⟨1, 0, []⟩, ⟨0, 0, []⟩] ++ (ns.take 0).map forkP) := by
    rw [hD]
    refine ⟨[(.int .i64 1, .int .i64 0, .slice none 0 0), (.int .i64 0, .int .i64 0, .slice none 0 0)], ⟨rfl, .inr ⟨D + 1, 2, _, rfl, Nat.le_refl _, hPX, Nat.le_refl _, by unfold maxLen; omega, rfl, rfl⟩⟩, rfl, fun j u p hu hp => ?_⟩
    match j, hu, hp with
    | 0, hu, hp => simp at hu hp; subst hu hp; exact ⟨rfl, rfl, Ints.nil _ _, show I64 1 from ⟨by omega, by omega⟩, show I64 0 from ⟨by omega, by omega⟩⟩
    | 1, hu, hp => simp at hu hp; subst hu hp; exact ⟨rfl, rfl, Ints.nil _ _, show I64 0 from ⟨by omega, by omega⟩, show I64 0 from ⟨by omega, by omega⟩⟩
  have r1 := below_c hbX (by omega) e1
  rw [← hX] at r1
  have HPO0 := Lib.hid hpo
  have HX := Lib.hid hX
  have HBX := Lib.hid hbX
  have HHD := Lib.hid hD
  have HGF := Lib.hid gf
  have HBL : Hid (Below D X X) := Lib.hid (Below.refl _ _)
  have HXL := Lib.hid HX3.out.lt
  have HI3 := Lib.hid (show (Try.prog.info? 52).map (fun i => (i.zero, i.size, i.bytes)) = some (some (.agg #[.int .i64 0, .int .i64 0, .slice none 0 0]), 3, 40) by kernel_rfl)
  clear hpo hX hbX hPX hDX hD gf hns
  go_wp2_with fail
  rw [HX.out]
  try rw [HHD.out]
  clear r1
  rw [HHD.out] at D1 HPO0
  go_loopg [26] (n) (fun gg u26 wx => ∃ (k : Nat) (pvx : Value), k + gg = n ∧ u26 = .int .i64 k ∧ Hid (PartsOwn wx (D + 1) 52 pvx ([⟨1, 0, []⟩, ⟨0, 0, []⟩] ++ (ns.take k).map forkP)) ∧ wx.cell? ⟨D, 0, none⟩ = some (.int .i64 vars) ∧ wx.cell? ⟨D, 1, none⟩ = some pvx ∧ wx.frozen? ⟨D, 1, none⟩ = false ∧ Hid (Below D X wx))
  case atStart => exact ⟨0, _, by omega, rfl, HPO0, D0, D1, DF, HBL⟩
  case round =>
  obtain ⟨k, pvx, hkg, rfl, HPO, y0, y1, yf, HBW⟩ := hrel
  clear D0 D1 DF HPO0 HBL q0 q1 q2
  have hsx := HBW.out.size
  by_cases hk : k < n
  · obtain ⟨f, hf⟩ : ∃ f, ns[k]? = some f := ⟨_, List.getElem?_eq_getElem (by rw [← HN.out]; exact hk)⟩
    have hxr := HXL.out.move (w' := wr) fun b hb hlt => (HBW.out.block b (by have := HHD.out; have := hb.2; omega)).trans (HBX.out.block b (by have := hb.2; omega))
    obtain ⟨fb, fo, rfl, _, hfb, x0, x1, x2, hfo⟩ := hxr.at hf
    obtain ⟨b5, b6⟩ := HFV.out f (List.mem_of_getElem? hf)
    have hbk := HBK.out k f hf
    have HTK : Hid ((ns.take (k + 1)).map forkP = (ns.take k).map forkP ++ [forkP f]) := Lib.hid (by rw [show ns.take (k + 1) = ns.take k ++ [f] from by rw [List.take_add_one, hf]; rfl, List.map_append]; rfl)
    obtain ⟨fv, flo, fhi⟩ := f
    simp only at x0 x1 x2 b5 b6 hbk
    obtain ⟨⟨l0, l1⟩, h0, h1⟩ := hbk
    obtain ⟨w6, hw6⟩ : ∃ W, (wr.alloc (.cells #[.int .i64 fv, .int .i64 flo, .int .i64 fhi] 48)).alloc (.cells #[.int .i64 flo, .int .i64 fhi] 3) = W := ⟨_, rfl⟩
    have hb6 : Below wr.heap.size wr w6 := by rw [← hw6]; exact ((Below.refl _ _).alloc (Nat.le_refl _) _).alloc (by simp) _
    have hs6 : w6.heap.size = wr.heap.size + 1 + 1 := by rw [← hw6]; simp
    have hkids : Ints (fun b => b = wr.heap.size + 1) w6 (.slice (some ⟨wr.heap.size + 1, 0, none⟩) 2 2) [flo, fhi] := ints_block [flo, fhi] 2 (by rw [← hw6]; exact new_at' _ _ (by simp)) (by simp) (by simp) (by intro x hx; simp at hx; rcases hx with rfl | rfl; exact hfo.2.1; exact hfo.2.2)
    have hpo := HPO.out.below hb6
    obtain ⟨us, hown, hul, hel⟩ := hpo
    have hlk : (([⟨1, 0, []⟩, ⟨0, 0, []⟩] : List Part) ++ (ns.take k).map forkP).length = k + 2 := by simp; have := HN.out; omega
    rw [hlk] at hown
    have z0 := below_c hb6 (by omega) y0
    have z1 := below_c hb6 (by omega) y1
    have zf := below_z hb6 (by omega) yf
    rw [← hw6] at z1
    have hdk : decide ((k : Int) < n) = true := by simp; omega
    have hdk' : decide (k < n) = true := decide_eq_true hk
    have HEL := Lib.hid hel
    have HUL := Lib.hid hul
    have HKD := Lib.hid hkids
    have HB6 := Lib.hid hb6
    have HW6 := Lib.hid hw6
    have HLK := Lib.hid hlk
    have hka := cell_alloc (.cells #[.int .i64 fv, .int .i64 flo, .int .i64 fhi] 48) y1
    clear hb6 hw6 hlk hkids hul hel hfb hxr hf
    have HS6 := Lib.hid hs6
    go_wp2_with (at_builtin; rw [HW6.out]; go_loud (refine wpList_push3 rfl _ _ 40 rfl 52 (.agg #[.int .i64 0, .int .i64 0, .slice none 0 0]) 40 Try.underlying40 HI3.out rfl (D + 1) pvx (k + 2) _ w6 _ _ _ rfl (by rw [HS6.out]; rfl) hown rfl rfl rfl (by omega) (by omega) (by omega) ?_); intro g3 cap3 w7 hown3 hg3 hs3 hgb hgl hat; have HB9 := Lib.hid ((Below.refl (D + 1) w6).grown hg3 (by omega) (fun k hk => (hown.lt k hk).1)); have HG3 := Lib.hid hg3; have HO3 := Lib.hid hown3; have yy0 := below_c HB9.out (Nat.lt_succ_self D) z0; have yy1 := below_c HB9.out (Nat.lt_succ_self D) (by rw [← HW6.out]; exact z1); have yyf := below_z HB9.out (Nat.lt_succ_self D) zf; clear hown3 hg3 hown z0 z1 zf)
    have HPP := PartsOwn.push (p := forkP (fv, flo, fhi)) HUL.out HEL.out (HKD.out.mono (G := fun b => D + 1 ≤ b ∧ pvx.ownBlock ≠ some b) fun b hb => by
      refine ⟨by omega, fun e => ?_⟩
      have := (HPO.out.lt b e).2
      omega) (show I64 4 from ⟨by omega, by omega⟩) (show I64 (fv + 1) from ⟨by omega, by omega⟩) (by rw [HLK.out]; exact HO3.out) HG3.out hat
    rw [HLK.out, List.append_assoc, ← HTK.out] at HPP
    go_roundg (gk - 1)
    case measure => omega
    case rel =>
      refine ⟨k + 1, _, by omega, by go_num, Lib.hid (HPP.move fun b hb hlt => Below.heap_setCell _ _ _ _ (by show b ≠ D; omega)), set_ne (by omega) yy0, set_eq yy1, by rw [World.frozen?_setCell]; exact yyf, Lib.hid (((HBW.out.trans (HB6.out.mono (by omega))).trans (HB9.out.mono (by omega))).setCell (by show D ≤ D; omega) _)⟩
  · obtain rfl : k = n := by omega
    have hdk : decide ((k : Int) < k) = false := by simp
    have hdk' : decide (k < k) = false := decide_eq_false (by omega)
    have HPF := HPO.out.parts (by simp; have := HN.out; omega)
    rw [List.take_of_length_le (by rw [HN.out]; exact Nat.le_refl _)] at HPF
    have HPF2 := Lib.hid HPF
    obtain ⟨xa, xn, xc, hpx⟩ : ∃ a n c, pvx = .slice a n c := by
      obtain ⟨a, c, h, _⟩ := HPF.form
      exact ⟨a, _, c, h⟩
    subst hpx
    have p0 := below_c HBW.out (by have := HHD.out; omega) (below_c HBX.out (by omega) g0)
    have p1 := below_c HBW.out (by have := HHD.out; omega) (below_c HBX.out (by omega) g1)
    have pf0 := below_z HBW.out (by have := HHD.out; omega) (below_z HBX.out (by omega) (HGF.out 0))
    have pf1 := below_z HBW.out (by have := HHD.out; omega) (below_z HBX.out (by omega) (HGF.out 1))
    clear HPF g0 g1 e0 e1 e2
    go_wp2_with fail
    have v0 := set_ne (b := BB + 1) (b' := BB + 1) (o := 0) (o' := 1) (u := .slice xa xn xc) (by omega) (set_eq (u := .int .i64 vars) p0)
    have v1 := set_eq (u := .slice xa xn xc) (set_ne (o' := 0) (b' := BB + 1) (u := .int .i64 vars) (by omega) p1)
    refine bodyPost_ret (v := .tuple #[.agg #[.int .i64 vars, .slice xa xn xc], .int .i64 0]) (by simp [results, Try.results15, go_sem, v0, v1]) rfl ?_
    have hB := HBB.out
    have hDD := HHD.out
    refine ⟨_, _, _, rfl, ?_, (((HB3.out.trans (HBX.out.mono (by omega))).trans (HBW.out.mono (by omega))).setCell (by show w.heap.size ≤ BB + 1; omega) _).setCell (by show w.heap.size ≤ BB + 1; omega) _⟩
    have hdn : dnfM root ns = [⟨1, 0, []⟩, ⟨0, 0, []⟩] ++ ns.map forkP := by unfold dnfM; rw [if_neg hr0, if_neg hr1]
    rw [hdn]
    exact (HPF2.out.move fun b hb _ => by rw [Below.heap_setCell _ _ _ _ (by show b ≠ BB + 1; omega), Below.heap_setCell _ _ _ _ (by show b ≠ BB + 1; omega)]).mono fun b hb => by omega
end Go.Proofs.Ytelobilhppoooaa
