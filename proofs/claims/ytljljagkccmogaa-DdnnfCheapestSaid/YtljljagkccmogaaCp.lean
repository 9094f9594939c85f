/- Plain: a normal form with literals fixed: it stays valid, and its value is the value at the changed assignment. No program in sight. -/
import Derived.Test.YtljljagkccmogaaDe
namespace Go.Proofs.Ytljljagkccmogaa

/-- the literal that is fixed for the variable of a part, 0 if none is -/
def fixOf (fx : List Int) (lit : Int) : Int := if lit = 0 then 0 else fx.getD lit.natAbs 0
def condPart (fx : List Int) (p : Part) : Part :=
  if fixOf fx p.lit = 0 then p
  else if p.kind = 2 then ⟨if fixOf fx p.lit = p.lit then 0 else 1, 0, []⟩
  else ⟨3, 0, [if 0 < fixOf fx p.lit then p.kids.getD 1 0 else p.kids.getD 0 0]⟩
def fixGo : List Int → List Int → List Int
  | [], fx => fx
  | l :: r, fx => fixGo r (fx.set l.natAbs l)
def fixM (V : Nat) (lits : List Int) : List Int := fixGo lits (List.replicate (V + 1) 0)
def condM (d : Dnnf) (lits : List Int) : Dnnf := ⟨d.vars, d.parts.map (condPart (fixM d.vars.toNat lits))⟩

/-! ### masks -/
def Sub (a b : Nat) : Prop := ∀ i, a.testBit i = true → b.testBit i = true
theorem Sub.refl (a : Nat) : Sub a a := fun _ h => h
theorem Sub.zero (a : Nat) : Sub 0 a := fun i h => by simp at h
theorem Sub.or {a b c d : Nat} (h : Sub a c) (g : Sub b d) : Sub (a ||| b) (c ||| d) := fun i hi => by
  rw [Nat.testBit_or] at hi ⊢
  rw [Bool.or_eq_true] at hi ⊢
  exact hi.imp (h i) (g i)
theorem Sub.trans {a b c : Nat} (h : Sub a b) (g : Sub b c) : Sub a c := fun i hi => g i (h i hi)
theorem Sub.left (a b : Nat) : Sub a (a ||| b) := fun i hi => by rw [Nat.testBit_or, hi]; rfl
theorem Sub.right (a b : Nat) : Sub b (a ||| b) := fun i hi => by rw [Nat.testBit_or, hi]; simp
theorem and_zero_iff {a b : Nat} : a &&& b = 0 ↔ ∀ i, a.testBit i = true → b.testBit i = true → False := by
  constructor
  · intro h i ha hb
    have : (a &&& b).testBit i = true := by rw [Nat.testBit_and, ha, hb]; rfl
    rw [h] at this
    simp at this
  · intro h
    apply Nat.eq_of_testBit_eq
    intro i
    rw [Nat.testBit_and]
    cases ha : a.testBit i <;> cases hb : b.testBit i <;> simp
    exact h i ha hb
theorem Sub.and {a b c d : Nat} (h : Sub a c) (g : Sub b d) (z : c &&& d = 0) : a &&& b = 0 :=
  and_zero_iff.2 fun i ha hb => and_zero_iff.1 z i (h i ha) (g i hb)

theorem maskGo_sub {kind : Int} {own : Nat} {ms ms' : List Nat} (hms : ∀ j, Sub (ms'.getD j 0) (ms.getD j 0)) : ∀ (ks : List Int) (all all' m : Nat), Sub all' all → maskGo kind own ms ks all = some m →
    ∃ m', maskGo kind own ms' ks all' = some m' ∧ Sub m' m
  | [], all, all', m, h, e => by simp only [maskGo, Option.some.injEq] at e ⊢; exact ⟨_, rfl, e ▸ h⟩
  | k :: r, all, all', m, h, e => by
    simp only [maskGo] at e ⊢
    split at e
    · cases e
    · rename_i hn
      rw [if_neg]
      · exact maskGo_sub hms r _ _ m (h.or (hms _)) e
      · intro hc
        apply hn
        rcases hc with ⟨h1, h2⟩ | ⟨h1, h2⟩
        · exact .inl ⟨h1, fun z => h2 (h.and (hms _) z)⟩
        · exact .inr ⟨h1, fun z => h2 ((Sub.refl _).and (hms _) z)⟩
theorem maskGo_all {kind : Int} {own : Nat} {ms : List Nat} : ∀ (ks : List Int) (all m : Nat), maskGo kind own ms ks all = some m → Sub all m ∧ ∀ k ∈ ks, Sub (ms.getD k.toNat 0) m
  | [], all, m, e => by simp only [maskGo, Option.some.injEq] at e; exact ⟨e ▸ Sub.refl _, by simp⟩
  | k :: r, all, m, e => by
    simp only [maskGo] at e
    split at e
    · cases e
    · have ⟨h1, h2⟩ := maskGo_all r _ m e
      refine ⟨(Sub.left _ _).trans h1, fun x hx => ?_⟩
      rcases List.mem_cons.1 hx with rfl | hx
      · exact (Sub.right _ _).trans h1
      · exact h2 x hx

theorem shaped_kind {p : Part} {vars : Int} (h : shapedM p vars = 0) : 0 ≤ p.kind ∧ p.kind ≤ 4 ∧ ((p.kind = 0 ∨ p.kind = 1 ∨ p.kind = 2) → p.kids = []) ∧ ((p.kind = 0 ∨ p.kind = 1 ∨ p.kind = 3) → p.lit = 0) ∧ (p.kind = 4 → p.kids.length = 2 ∧ 1 ≤ p.lit ∧ p.lit ≤ vars) ∧
    (p.kind = 2 → p.lit ≠ 0 ∧ -vars ≤ p.lit ∧ p.lit ≤ vars) := by
  unfold shapedM shapedK at h
  split at h
  · cases h
  rename_i h1
  split at h
  · cases h
  rename_i h2
  refine ⟨by omega, by omega, fun hk => List.eq_nil_of_length_eq_zero (by omega), by omega, by omega, by omega⟩
theorem getD_mem2 {ks : List Int} (h : ks.length = 2) (b : Prop) [Decidable b] : (if b then ks.getD 1 0 else ks.getD 0 0) ∈ ks := by
  match ks, h with
  | [x, y], _ => split <;> simp
theorem shaped_cond {p : Part} {V : Nat} (fx : List Int) (h : shapedM p V = 0) : shapedM (condPart fx p) V = 0 := by
  unfold condPart
  split
  · exact h
  · split
    · split <;> simp [shapedM, shapedK]
    · simp [shapedM, shapedK]

theorem cond_checked (V : Nat) (fx : List Int) : ∀ (ps : List Part) (ms ms' : List Nat), (checkedGo V ps ms).1 = 0 → ms'.length = ms.length → (∀ j, Sub (ms'.getD j 0) (ms.getD j 0)) → (checkedGo V (ps.map (condPart fx)) ms').1 = 0
  | [], _, _, _, _, _ => rfl
  | p :: r, ms, ms', h, hl, hs => by
    simp only [List.map_cons, checkedGo] at h ⊢
    by_cases h1 : shapedM p V ≠ 0
    · rw [if_pos h1] at h; exact absurd h h1
    rw [if_neg h1] at h
    have h1' : shapedM p V = 0 := by simpa using h1
    rw [if_neg (by rw [shaped_cond fx h1']; simp)]
    by_cases h2 : (p.kids.any fun k => decide (k < 0 ∨ (ms.length : Int) ≤ k)) = true
    · rw [if_pos h2] at h; cases h
    rw [if_neg h2] at h
    have hk : ∀ k ∈ p.kids, 0 ≤ k ∧ k < (ms.length : Int) := by
      intro k hk
      have := List.any_eq_false.1 (Bool.eq_false_iff.2 h2) k hk
      simp at this
      omega
    cases hm : maskM p ms with
    | none => rw [hm] at h; cases h
    | some m =>
      rw [hm] at h
      simp only at h
      have hp := shaped_kind h1'
      have key : (((condPart fx p).kids.any fun k => decide (k < 0 ∨ (ms'.length : Int) ≤ k)) = false) ∧ ∃ m', maskM (condPart fx p) ms' = some m' ∧ Sub m' m := by
        unfold condPart
        split
        · refine ⟨?_, ?_⟩
          · rw [List.any_eq_false]; intro x hx; have := hk x hx; simp; omega
          · exact maskGo_sub hs _ _ _ m (Sub.refl _) hm
        · rename_i hf
          split
          · refine ⟨rfl, 0, ?_, Sub.zero _⟩
            split <;> rfl
          · rename_i h3
            have h4 : p.kind = 4 := by
              have hl0 : p.lit ≠ 0 := fun e => hf (by unfold fixOf; rw [if_pos e])
              have := hp.2.2.2.1
              omega
            have hkid := getD_mem2 (hp.2.2.2.2.1 h4).1 (0 < fixOf fx p.lit)
            generalize (if 0 < fixOf fx p.lit then p.kids.getD 1 0 else p.kids.getD 0 0) = kid at *
            have hb := hk kid hkid
            refine ⟨?_, ms'.getD kid.toNat 0, ?_, (hs _).trans ((maskGo_all _ _ _ hm).2 kid hkid)⟩
            · simp; omega
            · simp [maskM, maskGo, ownM]
      obtain ⟨hk1, m', hm', hsub⟩ := key
      rw [if_neg (by rw [hk1]; simp), hm']
      simp only
      refine cond_checked V fx r _ _ h (by simp [hl]) fun j => ?_
      rcases Nat.lt_trichotomy j ms.length with hj | hj | hj
      · have := hs j
        simp only [List.getD, List.getElem?_append_left hj, List.getElem?_append_left (show j < ms'.length by omega)] at this ⊢
        exact this
      · subst hj
        simp only [List.getD]
        rw [List.getElem?_append_right (by omega), List.getElem?_append_right (by omega), hl]
        simpa using hsub
      · simp only [List.getD]
        rw [List.getElem?_append_right (by omega), List.getElem?_append_right (by omega)]
        rw [List.getElem?_eq_none (by simp; omega), List.getElem?_eq_none (by simp; omega)]
        exact Sub.refl _

theorem condM_checked (d : Dnnf) (lits : List Int) (h : (checkedM d).1 = 0) : (checkedM (condM d lits)).1 = 0 := by
  unfold checkedM condM at *
  simp only [List.length_map]
  split at h
  · cases h
  rename_i g1
  split at h
  · cases h
  rename_i g2
  split at h
  · cases h
  rename_i g3
  rw [if_neg g1, if_neg g2, if_neg g3]
  have hv : d.vars = ((d.vars.toNat : Nat) : Int) := by omega
  rw [hv] at h ⊢
  exact cond_checked _ _ _ [] [] h rfl fun j => Sub.refl _

/-! ### the value -/
def shGo (V : Nat) (ps : List Part) : Prop := ∀ p ∈ ps, shapedM p V = 0
theorem sh_of_checked (V : Nat) : ∀ (ps : List Part) (ms : List Nat), (checkedGo V ps ms).1 = 0 → shGo V ps
  | [], _, _ => by intro p hp; simp at hp
  | p :: r, ms, h => by
    simp only [checkedGo] at h
    by_cases h1 : shapedM p V ≠ 0
    · rw [if_pos h1] at h; exact absurd h h1
    rw [if_neg h1] at h
    by_cases h2 : (p.kids.any fun k => decide (k < 0 ∨ (ms.length : Int) ≤ k)) = true
    · rw [if_pos h2] at h; cases h
    rw [if_neg h2] at h
    cases hm : maskM p ms with
    | none => rw [hm] at h; cases h
    | some m =>
      rw [hm] at h
      intro x hx
      rcases List.mem_cons.1 hx with rfl | hx
      · simpa using h1
      · exact sh_of_checked V r _ h x hx
theorem sh_of_checkedM (d : Dnnf) (h : (checkedM d).1 = 0) : shGo d.vars.toNat d.parts ∧ 0 ≤ d.vars ∧ d.vars ≤ 40 ∧ 0 < d.parts.length ∧ d.parts.length ≤ 16384 := by
  unfold checkedM at h
  split at h
  · cases h
  split at h
  · cases h
  split at h
  · cases h
  have hv : d.vars = ((d.vars.toNat : Nat) : Int) := by omega
  rw [hv] at h
  exact ⟨sh_of_checked _ _ _ h, by omega, by omega, by omega, by omega⟩

/-- the list fx fixes literals of the variables that are its places, and an assignment is changed by them -/
def FixedBy (V : Nat) (fx : List Int) (inp inp' : List Bool) : Prop :=
  ∀ v, v < V → (fx.getD (v + 1) 0 = 0 ∧ inp'.getD v false = inp.getD v false) ∨ ((fx.getD (v + 1) 0 = (v : Int) + 1 ∨ fx.getD (v + 1) 0 = -((v : Int) + 1)) ∧ inp'.getD v false = decide (0 < fx.getD (v + 1) 0))
theorem step_cond {V : Nat} {fx : List Int} {inp inp' : List Bool} (hf : FixedBy V fx inp inp') {p : Part} (h : shapedM p V = 0) (vs : List Bool) : evalStep inp (condPart fx p) vs = evalStep inp' p vs := by
  obtain ⟨k0, k4, _, kl, k4s, k2s⟩ := shaped_kind h
  unfold condPart
  by_cases hl : p.lit = 0
  · have : fixOf fx p.lit = 0 := by unfold fixOf; rw [if_pos hl]
    rw [if_pos this]
    have h2 : p.kind ≠ 2 := fun e => (k2s e).1 hl
    have h4 : p.kind ≠ 4 := fun e => by have := (k4s e).2.1; omega
    unfold evalStep
    simp [h2, h4]
  · have hfx : fixOf fx p.lit = fx.getD p.lit.natAbs 0 := by unfold fixOf; rw [if_neg hl]
    have hk : p.kind = 2 ∨ p.kind = 4 := by omega
    have hv : p.lit.natAbs - 1 < V := by omega
    have hh := hf _ hv
    rw [show p.lit.natAbs - 1 + 1 = p.lit.natAbs by omega] at hh
    rw [hfx]
    rcases hh with ⟨h0, he⟩ | ⟨h0, he⟩
    · rw [if_pos h0]
      rcases hk with hk | hk
      · rw [evalStep, evalStep, he]
        simp [hk]
      · have h1 := (k4s hk).2.1
        rw [show p.lit.natAbs - 1 = p.lit.toNat - 1 by omega] at he
        rw [evalStep, evalStep, he]
        simp [hk]
    · generalize fx.getD p.lit.natAbs 0 = f at *
      rw [if_neg (by omega)]
      rcases hk with hk | hk
      · rw [if_pos hk]
        have hn := k2s hk
        unfold evalStep
        simp only [hk, he]
        by_cases he2 : f = p.lit
        · simp [he2]
        · have : decide (0 < f) = !decide (0 < p.lit) := by
            by_cases h5 : 0 < p.lit <;> simp [h5] <;> omega
          rw [this]
          simp [he2]
      · rw [if_neg (by omega)]
        have h1 := (k4s hk).2.1
        rw [show p.lit.natAbs - 1 = p.lit.toNat - 1 by omega] at he
        unfold evalStep
        simp only [hk, he]
        simp only [allGo, Bool.true_and]
        by_cases h5 : 0 < f <;> simp [h5]
theorem eval_condGo {V : Nat} {fx : List Int} {inp inp' : List Bool} (hf : FixedBy V fx inp inp') : ∀ (ps : List Part) (vs : List Bool), shGo V ps → evalGo inp (ps.map (condPart fx)) vs = evalGo inp' ps vs
  | [], _, _ => rfl
  | p :: r, vs, h => by
    simp only [List.map_cons, evalGo]
    rw [step_cond hf (h p (by simp)), eval_condGo hf r _ fun x hx => h x (by simp [hx])]
theorem eval_cond {V : Nat} {fx : List Int} {inp inp' : List Bool} (hf : FixedBy V fx inp inp') {ps : List Part} (h : shGo V ps) : evalM (ps.map (condPart fx)) inp = evalM ps inp' := by
  unfold evalM
  rw [eval_condGo hf ps [] h, List.length_map]

/-- an assignment changed by literals, one after the other -/
def chGo : List Int → List Bool → List Bool
  | [], inp => inp
  | l :: r, inp => chGo r (inp.set (l.natAbs - 1) (decide (0 < l)))
theorem chGo_len : ∀ (ls : List Int) (inp : List Bool), (chGo ls inp).length = inp.length
  | [], _ => rfl
  | l :: r, inp => by rw [chGo, chGo_len]; simp
def LitsOk (V : Nat) (ls : List Int) : Prop := ∀ l ∈ ls, l ≠ 0 ∧ -(V : Int) ≤ l ∧ l ≤ V
theorem fixed_go {V : Nat} {inp : List Bool} : ∀ (ls : List Int) (fx : List Int) (inp' : List Bool), LitsOk V ls → fx.length = V + 1 → inp'.length = V → FixedBy V fx inp inp' → FixedBy V (fixGo ls fx) inp (chGo ls inp')
  | [], _, _, _, _, _, h => h
  | l :: r, fx, inp', hl, h1, h2, h => by
    rw [fixGo, chGo]
    have ⟨e1, e2, e3⟩ := hl l (by simp)
    refine fixed_go r _ _ (fun x hx => hl x (by simp [hx])) (by simpa using h1) (by simpa using h2) fun v hv => ?_
    by_cases he : l.natAbs = v + 1
    · right
      have hx : (fx.set l.natAbs l).getD (v + 1) 0 = l := by simp [List.getD, he, h1, hv]
      have hy : (inp'.set (l.natAbs - 1) (decide (0 < l))).getD v false = decide (0 < l) := by simp [List.getD, he, h2, hv]
      rw [hx, hy]
      exact ⟨by omega, rfl⟩
    · have hx : (fx.set l.natAbs l).getD (v + 1) 0 = fx.getD (v + 1) 0 := by simp [List.getD, he]
      have hy : (inp'.set (l.natAbs - 1) (decide (0 < l))).getD v false = inp'.getD v false := by
        have : l.natAbs - 1 ≠ v := by omega
        simp [List.getD, this]
      rw [hx, hy]
      exact h v hv
theorem fixed_by {V : Nat} {inp : List Bool} (ls : List Int) (hl : LitsOk V ls) (h2 : inp.length = V) : FixedBy V (fixM V ls) inp (chGo ls inp) :=
  fixed_go ls _ _ hl (by simp) h2 fun v hv => .inl ⟨by simp [List.getD, List.getElem?_replicate]; split <;> rfl, rfl⟩

/-! ### the codes -/
/-- what Condition asks of the literals -/
def seenGo (vars : Int) : List Int → List Bool → Int
  | [], _ => 0
  | l :: r, seen => if l = 0 ∨ l < -vars ∨ vars < l then 3 else if seen.getD l.natAbs false = true then 8 else seenGo vars r (seen.set l.natAbs true)
/-- what the statement asks of them -/
def dupGo (vars : Int) (pre : List Int) : List Int → Int
  | [] => 0
  | l :: r => if l = 0 ∨ vars < l ∨ l < -vars then 3 else if pre.contains l = true ∨ pre.contains (-l) = true then 8 else dupGo vars (pre ++ [l]) r
theorem seen_eq_dup (V : Nat) : ∀ (ls pre : List Int) (seen : List Bool), seen.length = V + 1 → LitsOk V pre → (∀ v, v ≤ V → (seen.getD v false = true ↔ ∃ l ∈ pre, l.natAbs = v)) → seenGo V ls seen = dupGo V pre ls
  | [], _, _, _, _, _ => rfl
  | l :: r, pre, seen, h1, h2, h3 => by
    simp only [seenGo, dupGo]
    by_cases hb : l = 0 ∨ l < -(V : Int) ∨ (V : Int) < l
    · rw [if_pos hb, if_pos (by omega)]
    have hb2 : ¬ (l = 0 ∨ (V : Int) < l ∨ l < -(V : Int)) := by omega
    rw [if_neg hb, if_neg hb2]
    have hb3 : l ≠ 0 ∧ -(V : Int) ≤ l ∧ l ≤ V := by omega
    have hs := h3 l.natAbs (by omega)
    have hc : (seen.getD l.natAbs false = true) ↔ (pre.contains l = true ∨ pre.contains (-l) = true) := by
      rw [hs, List.contains_iff_mem, List.contains_iff_mem]
      constructor
      · rintro ⟨x, hx, e⟩
        have : x = l ∨ x = -l := by omega
        rcases this with rfl | rfl
        · exact .inl hx
        · exact .inr hx
      · rintro (h | h)
        · exact ⟨_, h, rfl⟩
        · exact ⟨_, h, by omega⟩
    by_cases hd : seen.getD l.natAbs false = true
    · rw [if_pos hd, if_pos (hc.1 hd)]
    rw [if_neg hd, if_neg (fun h => hd (hc.2 h))]
    refine seen_eq_dup V r _ _ (by simpa using h1) ?_ ?_
    · intro x hx
      rcases List.mem_append.1 hx with hx | hx
      · exact h2 x hx
      · simp at hx; subst hx; exact hb3
    · intro v hv
      by_cases he : l.natAbs = v
      · subst he
        have : (seen.set l.natAbs true).getD l.natAbs false = true := by
          have : l.natAbs < seen.length := by omega
          simp [List.getD, this]
        rw [this]
        exact ⟨fun _ => ⟨l, by simp, rfl⟩, fun _ => rfl⟩
      · have : (seen.set l.natAbs true).getD v false = seen.getD v false := by simp [List.getD, he]
        rw [this, h3 v hv]
        constructor
        · rintro ⟨x, hx, e⟩; exact ⟨x, by simp [hx], e⟩
        · rintro ⟨x, hx, e⟩
          rcases List.mem_append.1 hx with hx | hx
          · exact ⟨x, hx, e⟩
          · simp at hx; subst hx; exact absurd e he
theorem seen_dup (V : Nat) (ls : List Int) : seenGo V ls (List.replicate (V + 1) false) = dupGo V [] ls :=
  seen_eq_dup V ls [] _ (by simp) (by intro x hx; simp at hx) fun v hv => by simp [List.getD, show v < V + 1 by omega]
theorem lits_ok (V : Nat) : ∀ (ls : List Int) (seen : List Bool), seenGo V ls seen = 0 → LitsOk V ls
  | [], _, _ => by intro l hl; simp at hl
  | l :: r, seen, h => by
    simp only [seenGo] at h
    split at h
    · cases h
    split at h
    · cases h
    intro x hx
    rcases List.mem_cons.1 hx with rfl | hx
    · omega
    · exact lits_ok V r _ h x hx
end Go.Proofs.Ytljljagkccmogaa
