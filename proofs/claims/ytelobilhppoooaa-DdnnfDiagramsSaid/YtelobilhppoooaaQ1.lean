/- Plain: the program's test of a diagram and the statement's one say the same. No program in sight. -/
import Derived.Test.YtelobilhppoooaaQf
namespace Go.Proofs.Ytelobilhppoooaa
open Go.RowKit
set_option linter.unusedVariables false

/-- the order is 2, 3, .. -/
def ordOk : List Int → Nat → Bool
  | [], _ => true
  | x :: r, i => if x ≠ 2 + i then false else ordOk r (i + 1)
def endM (ns : List Fork) (root : Int) : Bool := match layGo ns (ns.length + 2) ([], []) root with
  | none => false
  | some s => ordOk s.1 0 && decide (s.1.length = ns.length)
/-- diagram -/
def diaM (vars root : Int) (ns : List Fork) : Bool := frmGo vars ns ns 0 && endM ns root
/-- bddRight -/
def rigM (vars root : Int) (ns : List Fork) : Bool := if vars < 0 ∨ 40 < vars ∨ 4096 < ns.length ∨ root < 0 ∨ 1 + (ns.length : Int) < root then false else diaM vars root ns

def Rch (o : List Int) (x : Int) : Prop := x = 0 ∨ x = 1 ∨ x ∈ o
theorem Rch.ext {o e : List Int} {x : Int} (h : Rch o x) : Rch (o ++ e) x := by
  rcases h with h | h | h
  · exact .inl h
  · exact .inr (.inl h)
  · exact .inr (.inr (List.mem_append_left _ h))
theorem plc_ext {o e : List Int} {x : Int} (h : Rch o x) : plc (o ++ e) x = plc o x := by
  unfold plc
  split
  · rfl
  · rw [List.idxOf_append, if_pos]
    rcases h with h | h | h
    · omega
    · omega
    · exact h
/-- what the order and the laid nodes have in common -/
def LayI (ns : List Fork) (s : List Int × List Fork) : Prop :=
  s.1.length = s.2.length ∧ ∀ (j : Nat) (x : Int), s.1[j]? = some x → 2 ≤ x ∧ ∃ f, ns[(x - 2).toNat]? = some f ∧ s.2[j]? = some (f.1, plc s.1 f.2.1, plc s.1 f.2.2) ∧ Rch s.1 f.2.1 ∧ Rch s.1 f.2.2
theorem layGo_I (ns : List Fork) : ∀ (k : Nat) (s s' : List Int × List Fork) (r : Int), layGo ns k s r = some s' → LayI ns s → LayI ns s' ∧ (∃ e, s'.1 = s.1 ++ e) ∧ Rch s'.1 r
  | 0, _, _, _, h, _ => by cases h
  | k + 1, s, s', r, h, hI => by
    rw [layGo] at h
    split at h
    · rename_i hr
      cases h
      exact ⟨hI, ⟨[], by simp⟩, hr⟩
    split at h
    · cases h
    rename_i hn h2
    split at h
    · cases h
    rename_i f hf
    split at h
    · cases h
    rename_i s1 h1
    split at h
    · cases h
    rename_i s2 h2'
    split at h
    · cases h
    rename_i hno
    cases h
    obtain ⟨I1, ⟨e1, E1⟩, r1⟩ := layGo_I ns k _ _ _ h1 hI
    obtain ⟨I2, ⟨e2, E2⟩, r2⟩ := layGo_I ns k _ _ _ h2' I1
    have r1' : Rch s2.1 f.2.1 := by rw [E2]; exact r1.ext
    refine ⟨⟨by simp [I2.1], fun j x hx => ?_⟩, ⟨e1 ++ e2 ++ [r], by show s2.1 ++ [r] = _; rw [E2, E1]; simp⟩, .inr (.inr (by simp))⟩
    have hx : (s2.1 ++ [r])[j]? = some x := hx
    show 2 ≤ x ∧ ∃ f', ns[(x - 2).toNat]? = some f' ∧ (s2.2 ++ [(f.1, plc s1.1 f.2.1, plc s2.1 f.2.2)])[j]? = some (f'.1, plc (s2.1 ++ [r]) f'.2.1, plc (s2.1 ++ [r]) f'.2.2) ∧ Rch (s2.1 ++ [r]) f'.2.1 ∧ Rch (s2.1 ++ [r]) f'.2.2
    have hl := I2.1
    rcases Nat.lt_trichotomy j s2.1.length with hj | hj | hj
    · rw [List.getElem?_append_left hj] at hx
      obtain ⟨hx2, f', hf', ht, ra, rb⟩ := I2.2 j x hx
      refine ⟨hx2, f', hf', ?_, ra.ext, rb.ext⟩
      rw [List.getElem?_append_left (by omega), ht, plc_ext ra, plc_ext rb]
    · subst hj
      rw [List.getElem?_append_right (Nat.le_refl _)] at hx
      simp at hx
      subst hx
      refine ⟨by omega, f, hf, ?_, r1'.ext, r2.ext⟩
      rw [List.getElem?_append_right (by omega), plc_ext r1', plc_ext r2, E2, plc_ext r1]
      rw [E2] at hl
      simp [hl]
    · rw [List.getElem?_eq_none (by simp; omega)] at hx
      cases hx
theorem ordOk_iff : ∀ (o : List Int) (i : Nat), ordOk o i = true ↔ ∀ (j : Nat) (x : Int), o[j]? = some x → x = 2 + ((i + j : Nat) : Int)
  | [], i => by simp [ordOk]
  | y :: r, i => by
    rw [ordOk]
    constructor
    · intro h j x hx
      split at h
      · cases h
      rename_i hy
      rcases j with _ | j
      · simp at hx
        subst hx
        omega
      · have := (ordOk_iff r (i + 1)).1 h j x (by simpa using hx)
        omega
    · intro h
      have h0 := h 0 y (by simp)
      rw [if_neg (by omega)]
      refine (ordOk_iff r (i + 1)).2 fun j x hx => ?_
      have := h (j + 1) x (by simpa using hx)
      omega
theorem plc_id {o : List Int} (h : ∀ (j : Nat) (x : Int), o[j]? = some x → x = 2 + (j : Int)) {y : Int} (hy : Rch o y) : plc o y = y := by
  unfold plc
  split
  · rfl
  · have hm : y ∈ o := by
      rcases hy with h | h | h
      · omega
      · omega
      · exact h
    have hl := List.idxOf_lt_length_of_mem hm
    have := h (o.idxOf y) y (by rw [List.getElem?_eq_getElem hl, List.getElem_idxOf hl])
    omega
theorem end_iff {ns : List Fork} {root : Int} {s : List Int × List Fork} (hb : Back ns) (hn : ns.Nodup) (h : layGo ns (ns.length + 2) ([], []) root = some s) : endM ns root = true ↔ plc s.1 root = root ∧ s.2 = ns := by
  obtain ⟨⟨hl, hI⟩, _, hr⟩ := layGo_I ns _ _ _ _ h ⟨rfl, fun j x hx => by simp at hx⟩
  unfold endM
  rw [h]
  simp only [Bool.and_eq_true, decide_eq_true_eq]
  constructor
  · rintro ⟨h1, h2⟩
    have hO : ∀ (j : Nat) (x : Int), s.1[j]? = some x → x = 2 + (j : Int) := fun j x hx => by simpa using (ordOk_iff s.1 0).1 h1 j x hx
    refine ⟨plc_id hO hr, List.ext_getElem? fun j => ?_⟩
    by_cases hj : j < ns.length
    · obtain ⟨x, hx⟩ : ∃ x, s.1[j]? = some x := ⟨_, List.getElem?_eq_getElem (by omega)⟩
      obtain ⟨_, f, hf, ht, ra, rb⟩ := hI j x hx
      have := hO j x hx
      rw [ht, plc_id hO ra, plc_id hO rb, ← hf]
      congr 1
      omega
    · rw [List.getElem?_eq_none (by omega), List.getElem?_eq_none (by omega)]
  · rintro ⟨h1, h2⟩
    have hL : s.1.length = ns.length := by rw [hl, h2]
    refine ⟨(ordOk_iff s.1 0).2 fun j => ?_, hL⟩
    induction j using Nat.strongRecOn with
    | _ j ih =>
      intro x hx
      obtain ⟨hx2, f, hf, ht, ra, rb⟩ := hI j x hx
      rw [h2] at ht
      obtain ⟨⟨b1, b2⟩, b3, b4⟩ := hb j _ ht
      simp only at b1 b2 b3 b4
      have key : ∀ y, Rch s.1 y → plc s.1 y ≤ 1 + j → plc s.1 y = y := by
        intro y hy hle
        unfold plc at hle ⊢
        split
        · rfl
        · rename_i hy2
          rw [if_neg hy2] at hle
          have hm : y ∈ s.1 := by
            rcases hy with h | h | h
            · omega
            · omega
            · exact h
          have hli := List.idxOf_lt_length_of_mem hm
          have := ih (s.1.idxOf y) (by omega) y (by rw [List.getElem?_eq_getElem hli, List.getElem_idxOf hli])
          omega
      rw [key _ ra b2, key _ rb b4] at ht
      have hj : j < ns.length := by
        have := (List.getElem?_eq_some_iff.1 ht).1
        exact this
      have := (List.getElem?_inj hj hn).1 (ht.trans hf.symm)
      omega
theorem frmGo_new {vars : Int} {all : List Fork} : ∀ (r : List Fork) (i : Nat), all.drop i = r → frmGo vars all r i = true → ∀ (j : Nat) (f : Fork), i ≤ j → all[j]? = some f → f ∉ all.take j
  | [], i, he, _, j, f, hij, hf => by
    have := (List.getElem?_eq_some_iff.1 hf).1
    have := congrArg List.length he
    simp at this
    omega
  | g :: r, i, he, h, j, f, hij, hf => by
    obtain ⟨hg, hr, _⟩ := drop_cons he
    rw [frmGo] at h
    split at h
    · cases h
    rename_i hno
    rw [Bool.and_eq_true] at h
    obtain ⟨ha, hrest⟩ := h
    by_cases e : i = j
    · subst e
      rw [hg] at hf
      cases hf
      exact fun h => hno (.inr (.inr (.inr h)))
    · exact frmGo_new r (i + 1) hr hrest j f (by omega) hf
theorem frm_nodup {vars : Int} {ns : List Fork} (h : frmGo vars ns ns 0 = true) : ns.Nodup := by
  refine List.pairwise_iff_getElem.2 fun i j hi hj hij e => ?_
  refine frmGo_new ns 0 rfl h j _ (Nat.zero_le _) (List.getElem?_eq_getElem hj) ?_
  rw [← e]
  rw [List.mem_iff_getElem]
  exact ⟨i, by simp; omega, by simp⟩
theorem bdd_rig (vars root : Int) (ns : List Fork) : bddM vars root ns = 0 ↔ rigM vars root ns = true := by
  unfold bddM rigM
  by_cases h1 : vars < 0 ∨ 40 < vars
  · rw [if_pos h1, if_pos (by omega)]; simp
  rw [if_neg h1]
  by_cases h2 : 4096 < ns.length
  · rw [if_pos h2, if_pos (by omega)]; simp
  rw [if_neg h2]
  by_cases h3 : root < 0 ∨ 1 + (ns.length : Int) < root
  · have : frmM vars ns root = false := by
      unfold frmM
      rw [Bool.and_eq_false_iff]
      right
      simp
      omega
    rw [if_pos this, if_pos (by omega)]; simp
  have hf : frmM vars ns root = frmGo vars ns ns 0 := by
    unfold frmM
    rw [decide_eq_true (show 0 ≤ root by omega), decide_eq_true (show root ≤ 1 + (ns.length : Int) by omega)]
    simp
  unfold diaM
  rcases hg : frmGo vars ns ns 0 with _ | _
  · rw [hf, hg, if_pos rfl]; simp
  · rw [hf, hg, if_neg (show ¬ true = false by simp), if_neg (show ¬ (vars < 0 ∨ 40 < vars ∨ 4096 < ns.length ∨ root < 0 ∨ 1 + (ns.length : Int) < root) by omega)]
    obtain ⟨s, hs, _⟩ := lay_frm (hf.trans hg)
    rw [hs]
    simp only [Bool.true_and]
    rw [end_iff (frm_back (hf.trans hg)).1 (frm_nodup hg) hs]
    by_cases h : plc s.1 root ≠ root ∨ s.2 ≠ ns
    · rw [if_pos h]
      constructor
      · intro e; cases e
      · rintro ⟨a, b⟩
        rcases h with h | h
        · exact absurd a h
        · exact absurd b h
    · rw [if_neg h]
      refine ⟨fun _ => ?_, fun _ => rfl⟩
      exact ⟨Classical.byContradiction fun e => h (.inl e), Classical.byContradiction fun e => h (.inr e)⟩
end Go.Proofs.Ytelobilhppoooaa
