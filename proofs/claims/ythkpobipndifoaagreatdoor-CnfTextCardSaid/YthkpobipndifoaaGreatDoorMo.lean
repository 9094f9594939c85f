/- (Text seat) The text of a formula and its reader, as plain Lean: what is read is what is printed. No condition. -/
import Derived.Test.YthkpobipndifoaaGreatDoorMn
namespace Go.Proofs.YthkpobipndifoaaGreatDoor
open Go.RowKit Go.Lib
set_option linter.unusedVariables false
set_option linter.unusedSimpArgs false

def wPcnf : Bts := [112, 32, 99, 110, 102, 32]
def wSp : Bts := [32]
def wKeep : Bts := [10, 99, 32, 107, 101, 101, 112, 32]
def wNl : Bts := [10]
/-! ### the text -/
def litsT : List Int → Bts
  | [] => []
  | x :: r => itoa x ++ wSp ++ litsT r
def clsT : List (List Int) → Bts
  | [] => []
  | c :: r => litsT c ++ [48, 10] ++ clsT r
def headT (vars n keep : Int) : Bts := wPcnf ++ itoa vars ++ wSp ++ itoa n ++ wKeep ++ itoa keep ++ wNl
def textM (vars keep : Int) (cs : List (List Int)) : Bts := headT vars cs.length keep ++ clsT cs
theorem litsT_app : ∀ (l m : List Int), litsT (l ++ m) = litsT l ++ litsT m
  | [], m => rfl
  | x :: r, m => by rw [List.cons_append, litsT, litsT, litsT_app r m]; simp
theorem clsT_app : ∀ (l m : List (List Int)), clsT (l ++ m) = clsT l ++ clsT m
  | [], m => rfl
  | x :: r, m => by rw [List.cons_append, clsT, clsT, clsT_app r m]; simp
/-! ### the reader -/
def wordR (w r : Bts) : Bts := if w.isPrefixOf r = true then r.drop w.length else r
def wordB (w r : Bts) : Bool := !w.isPrefixOf r
def numV (r : Bts) : Int := valM (tokM r)
def numR (r : Bts) : Bts := r.drop (tokM r).length
def numB (r : Bts) : Bool := badM (tokM r)
/-- a clause: the numbers up to a 0; state: what is left, bad -/
def inM : Nat → Bts → Bool → List Int → List Int × Bts × Bool
  | 0, r, b, l => (l, r, b)
  | f + 1, r, b, l =>
    if numV r = 0 ∨ (b || numB r) = true then (l, numR r, b || numB r)
    else inM f (wordR wSp (numR r)) (wordB wSp (numR r)) (l ++ [numV r])
def outM : Nat → Bts → Bool → List (List Int) → List (List Int) × Bts × Bool
  | 0, r, b, cs => (cs, r, b)
  | f + 1, r, b, cs =>
    if b = true ∨ r = [] then (cs, r, b)
    else let x := inM (r.length + 2) r b []
      outM f (wordR wNl x.2.1) (x.2.2 || wordB wNl x.2.1) (cs ++ [x.1])
structure Hd where
  vars : Int
  count : Int
  keep : Int
  rest : Bts
  bad : Bool
def hdM (t : Bts) : Hd :=
  let r0 := wordR wPcnf t; let r1 := numR r0; let r2 := wordR wSp r1; let r3 := numR r2; let r4 := wordR wKeep r3; let r5 := numR r4; let r6 := wordR wNl r5
  ⟨numV r0, numV r2, numV r4, r6, wordB wPcnf t || numB r0 || wordB wSp r1 || numB r2 || wordB wKeep r3 || numB r4 || wordB wNl r5⟩

theorem itoa_zero : itoa 0 = [48] := by
  unfold itoa
  rw [if_neg (by decide)]
  show decDigits 0 = _
  rw [decDigits_one (by decide)]
  rfl
theorem word_no {w r : Bts} (h : wordB w r = false) : r = w ++ wordR w r := by
  unfold wordB at h
  unfold wordR
  have h1 : w.isPrefixOf r = true := by simpa using h
  rw [if_pos h1]
  obtain ⟨m, rfl⟩ := List.isPrefixOf_iff_prefix.1 h1
  simp
theorem word_yes (w m : Bts) : wordB w (w ++ m) = false ∧ wordR w (w ++ m) = m := by
  have h1 : w.isPrefixOf (w ++ m) = true := List.isPrefixOf_iff_prefix.2 (List.prefix_append w m)
  unfold wordB wordR
  rw [h1]
  simp
theorem word_len (w r : Bts) : (wordR w r).length ≤ r.length := by
  unfold wordR
  split <;> simp
theorem num_no {r : Bts} (h : numB r = false) : r = itoa (numV r) ++ numR r := by
  unfold numB at h
  have h1 := bad_no h
  obtain ⟨m, h2⟩ := tok_pre r
  unfold numV numR
  rw [← h1]
  conv => lhs; rw [h2]
  congr 1
  conv => rhs; rw [h2]
  simp [tokM_len_eq h2]
where
  tokM_len_eq {r m : Bts} (h : r = tokM r ++ m) : (tokM (tokM r ++ m)) = tokM r := by rw [← h]
theorem num_yes {n : Int} {m : Bts} (hl : (itoa n).length ≤ 10) (hm : ∀ b r, m = b :: r → isDig b = false) : numB (itoa n ++ m) = false ∧ numV (itoa n ++ m) = n ∧ numR (itoa n ++ m) = m := by
  unfold numB numV numR
  rw [tok_itoa hl hm]
  obtain ⟨h1, h2⟩ := bad_itoa n
  exact ⟨h1, h2, by simp⟩
theorem num_lt {r : Bts} (h : numB r = false) : (numR r).length < r.length := by
  have h1 := num_no h
  have h2 := congrArg List.length h1
  rw [List.length_append] at h2
  have := itoa_ne (numV r)
  have := List.length_pos_iff.2 this
  omega
theorem num_le (r : Bts) : (numR r).length ≤ r.length := by unfold numR; simp

/-! ### what is accepted is printed so -/
theorem in_no : ∀ (f : Nat) (r : Bts) (b : Bool) (l : List Int), r.length + (if b = true then 1 else 2) ≤ f → (inM f r b l).2.2 = false →
    b = false ∧ ∃ m, (inM f r b l).1 = l ++ m ∧ r = litsT m ++ [48] ++ (inM f r b l).2.1
  | 0, r, b, l, hf, _ => by split at hf <;> omega
  | f + 1, r, b, l, hf, h => by
    rw [inM] at h ⊢
    by_cases h1 : numV r = 0 ∨ (b || numB r) = true
    · rw [if_pos h1] at h ⊢
      have h2 : b = false ∧ numB r = false := by simpa using h
      refine ⟨h2.1, [], by simp, ?_⟩
      have h3 : numV r = 0 := by
        rcases h1 with h1 | h1
        · exact h1
        · rw [h2.1, h2.2] at h1; cases h1
      have h4 := num_no h2.2
      rw [h3, itoa_zero] at h4
      exact h4
    · rw [if_neg h1] at h ⊢
      have h2 : b = false ∧ numB r = false := by
        have : ¬ (b || numB r) = true := fun h => h1 (.inr h)
        simpa using this
      have hlt := num_lt h2.2
      have hwl := word_len wSp (numR r)
      rw [h2.1, if_neg (by simp)] at hf
      obtain ⟨e1, m, e2, e3⟩ := in_no f (wordR wSp (numR r)) (wordB wSp (numR r)) (l ++ [numV r]) (by split <;> omega) h
      refine ⟨h2.1, numV r :: m, by rw [e2]; simp, ?_⟩
      have h4 := num_no h2.2
      have h5 := word_no e1
      rw [litsT]
      conv => lhs; rw [h4, h5, e3]
      simp
theorem in_len : ∀ (f : Nat) (r : Bts) (b : Bool) (l : List Int), (inM f r b l).2.1.length ≤ r.length
  | 0, r, b, l => Nat.le_refl _
  | f + 1, r, b, l => by
    rw [inM]
    split
    · exact num_le r
    · have := in_len f (wordR wSp (numR r)) (wordB wSp (numR r)) (l ++ [numV r])
      have := word_len wSp (numR r)
      have := num_le r
      omega
theorem out_no : ∀ (f : Nat) (r : Bts) (b : Bool) (cs : List (List Int)), r.length + 1 ≤ f → (outM f r b cs).2.2 = false →
    b = false ∧ ∃ m, (outM f r b cs).1 = cs ++ m ∧ r = clsT m ++ (outM f r b cs).2.1 ∧ (outM f r b cs).2.1 = []
  | 0, r, b, cs, hf, _ => by omega
  | f + 1, r, b, cs, hf, h => by
    rw [outM] at h ⊢
    by_cases h1 : b = true ∨ r = []
    · rw [if_pos h1] at h ⊢
      refine ⟨h, [], by simp, rfl, ?_⟩
      rcases h1 with h1 | h1
      · rw [h1] at h; cases h
      · exact h1
    · rw [if_neg h1] at h ⊢
      have hb : b = false := by
        have : ¬ b = true := fun h => h1 (.inl h)
        simpa using this
      simp only at h ⊢
      by_cases hx : ((inM (r.length + 2) r b []).2.2 || wordB wNl (inM (r.length + 2) r b []).2.1) = false
      · have hx2 : (inM (r.length + 2) r b []).2.2 = false ∧ wordB wNl (inM (r.length + 2) r b []).2.1 = false := by simpa using hx
        obtain ⟨_, m, e1, e2⟩ := in_no (r.length + 2) r b [] (by rw [hb]; simp) hx2.1
        have h5 := word_no hx2.2
        have hlt : (wordR wNl (inM (r.length + 2) r b []).2.1).length + 1 ≤ f := by
          have h6 := congrArg List.length e2
          have h7 := word_len wNl (inM (r.length + 2) r b []).2.1
          simp at h6
          omega
        obtain ⟨_, n, f1, f2, f3⟩ := out_no f _ _ _ hlt h
        refine ⟨hb, (inM (r.length + 2) r b []).1 :: n, by rw [f1]; simp, ?_, f3⟩
        rw [List.nil_append] at e1
        have e3 : clsT ((inM (r.length + 2) r b []).1 :: n) = litsT m ++ [48, 10] ++ clsT n := by rw [clsT, e1]
        rw [e3]
        conv => lhs; rw [e2, h5, f2]
        simp only [List.append_assoc]
        rfl
      · have hx3 : ((inM (r.length + 2) r b []).2.2 || wordB wNl (inM (r.length + 2) r b []).2.1) = true := by rw [← Bool.not_eq_false]; exact hx
        exfalso
        rw [hx3] at h
        have : (outM f (wordR wNl (inM (r.length + 2) r b []).2.1) true (cs ++ [(inM (r.length + 2) r b []).1])).2.2 = true := by
          rcases f with _ | f
          · rfl
          · rw [outM, if_pos (.inl rfl)]
        rw [this] at h
        cases h
theorem hd_no {t : Bts} (h : (hdM t).bad = false) : t = headT (hdM t).vars (hdM t).count (hdM t).keep ++ (hdM t).rest := by
  unfold hdM at h ⊢
  simp only [Bool.or_eq_false_iff] at h
  obtain ⟨⟨⟨⟨⟨⟨h0, h1⟩, h2⟩, h3⟩, h4⟩, h5⟩, h6⟩ := h
  have e0 := word_no h0
  have e1 := num_no h1
  have e2 := word_no h2
  have e3 := num_no h3
  have e4 := word_no h4
  have e5 := num_no h5
  have e6 := word_no h6
  unfold headT
  conv => lhs; rw [e0, e1, e2, e3, e4, e5, e6]
  simp
def parseM (t : Bts) : Option (Int × Int × List (List Int)) :=
  let h := hdM t; let x := outM (h.rest.length + 1) h.rest h.bad []
  if x.2.2 = true ∨ h.count ≠ x.1.length then none else some (h.vars, h.keep, x.1)
theorem parse_no {t : Bts} {v k : Int} {cs : List (List Int)} (h : parseM t = some (v, k, cs)) : textM v k cs = t := by
  unfold parseM at h
  simp only at h
  split at h
  · cases h
  · rename_i h1
    injection h with h
    injection h with e1 h
    injection h with e2 e3
    have hb : (outM ((hdM t).rest.length + 1) (hdM t).rest (hdM t).bad []).2.2 = false := by
      have : ¬ (outM ((hdM t).rest.length + 1) (hdM t).rest (hdM t).bad []).2.2 = true := fun h => h1 (.inl h)
      simpa using this
    have hc : (hdM t).count = (outM ((hdM t).rest.length + 1) (hdM t).rest (hdM t).bad []).1.length := by
      by_cases hc : (hdM t).count = (outM ((hdM t).rest.length + 1) (hdM t).rest (hdM t).bad []).1.length
      · exact hc
      · exact absurd (.inr hc) h1
    obtain ⟨f1, m, f2, f3, f4⟩ := out_no _ _ _ _ (Nat.le_refl _) hb
    have e0 := hd_no f1
    rw [f4, List.append_nil] at f3
    rw [List.nil_append] at f2
    rw [f2] at e3 hc
    subst e1 e2 e3
    unfold textM
    rw [← hc, ← f3]
    exact e0.symm
/-! ### what is printed is read -/
def SmN (n : Int) : Prop := -1000000000 < n ∧ n < 1000000000
theorem sp_dig (r : Bts) : ∀ b q, wSp ++ r = b :: q → isDig b = false := fun b q h => by injection h with h _; subst h; rfl
theorem nl_dig (r : Bts) : ∀ b q, wNl ++ r = b :: q → isDig b = false := fun b q h => by injection h with h _; subst h; rfl
theorem keep_dig (r : Bts) : ∀ b q, wKeep ++ r = b :: q → isDig b = false := fun b q h => by injection h with h _; subst h; rfl
theorem in_yes : ∀ (c : List Int) (f : Nat) (l : List Int) (r : Bts), c.length + 1 ≤ f → (∀ x ∈ c, x ≠ 0 ∧ SmN x) → inM f (litsT c ++ ([48] ++ (wNl ++ r))) false l = (l ++ c, wNl ++ r, false)
  | [], f + 1, l, r, _, _ => by
    have h := num_yes (n := 0) (m := wNl ++ r) (itoa_len (by omega) (by omega)) (nl_dig r)
    rw [itoa_zero] at h
    rw [litsT, List.nil_append, inM, if_pos (.inl h.2.1), h.2.2, h.1]
    simp
  | x :: c, f + 1, l, r, hf, hx => by
    obtain ⟨h0, h1⟩ := hx x (List.mem_cons_self ..)
    have h := num_yes (n := x) (m := wSp ++ (litsT c ++ ([48] ++ (wNl ++ r)))) (itoa_len h1.1 h1.2) (sp_dig _)
    have hw := word_yes wSp (litsT c ++ ([48] ++ (wNl ++ r)))
    rw [litsT, List.append_assoc, List.append_assoc, inM, if_neg, h.2.2, hw.1, hw.2, h.2.1, in_yes c f (l ++ [x]) r (by simp at hf; omega) fun y hy => hx y (List.mem_cons_of_mem _ hy)]
    · simp
    · rw [h.2.1, h.1]
      simp [h0]
theorem litsT_len : ∀ c : List Int, c.length ≤ (litsT c).length
  | [] => Nat.le_refl _
  | x :: c => by
    rw [litsT]
    have := litsT_len c
    simp [wSp]
    omega
theorem out_yes : ∀ (cs : List (List Int)) (f : Nat) (ds : List (List Int)), cs.length + 1 ≤ f → (∀ c ∈ cs, ∀ x ∈ c, x ≠ 0 ∧ SmN x) → outM f (clsT cs) false ds = (ds ++ cs, [], false)
  | [], f + 1, ds, _, _ => by rw [clsT, outM, if_pos (.inr rfl)]; simp
  | c :: cs, f + 1, ds, hf, hx => by
    have e : clsT (c :: cs) = litsT c ++ ([48] ++ (wNl ++ clsT cs)) := by rw [clsT]; simp [wNl]
    rw [e, outM, if_neg (by simp)]
    have hl := litsT_len c
    have h1 := in_yes c ((litsT c ++ ([48] ++ (wNl ++ clsT cs))).length + 2) [] (clsT cs) (by simp; omega) (hx c (List.mem_cons_self ..))
    simp only
    rw [h1]
    have hw := word_yes wNl (clsT cs)
    simp only [hw.1, hw.2]
    rw [show (false || false) = false from rfl, out_yes cs f _ (by simp at hf; omega) fun d hd => hx d (List.mem_cons_of_mem _ hd)]
    simp
theorem clsT_len : ∀ cs : List (List Int), cs.length ≤ (clsT cs).length
  | [] => Nat.le_refl _
  | c :: cs => by
    rw [clsT]
    have := clsT_len cs
    simp
    omega
theorem parse_yes {v k : Int} {cs : List (List Int)} (hv : SmN v) (hk : SmN k) (hn : SmN cs.length) (hx : ∀ c ∈ cs, ∀ x ∈ c, x ≠ 0 ∧ SmN x) : parseM (textM v k cs) = some (v, k, cs) := by
  have e : textM v k cs = wPcnf ++ (itoa v ++ (wSp ++ (itoa cs.length ++ (wKeep ++ (itoa k ++ (wNl ++ clsT cs)))))) := by unfold textM headT; simp
  have h0 := word_yes wPcnf (itoa v ++ (wSp ++ (itoa cs.length ++ (wKeep ++ (itoa k ++ (wNl ++ clsT cs))))))
  have h1 := num_yes (n := v) (m := wSp ++ (itoa cs.length ++ (wKeep ++ (itoa k ++ (wNl ++ clsT cs))))) (itoa_len hv.1 hv.2) (sp_dig _)
  have h2 := word_yes wSp (itoa cs.length ++ (wKeep ++ (itoa k ++ (wNl ++ clsT cs))))
  have h3 := num_yes (n := cs.length) (m := wKeep ++ (itoa k ++ (wNl ++ clsT cs))) (itoa_len hn.1 hn.2) (keep_dig _)
  have h4 := word_yes wKeep (itoa k ++ (wNl ++ clsT cs))
  have h5 := num_yes (n := k) (m := wNl ++ clsT cs) (itoa_len hk.1 hk.2) (nl_dig _)
  have h6 := word_yes wNl (clsT cs)
  have hh : hdM (textM v k cs) = ⟨v, cs.length, k, clsT cs, false⟩ := by
    unfold hdM
    rw [e]
    simp only [h0.1, h0.2, h1.1, h1.2.1, h1.2.2, h2.1, h2.2, h3.1, h3.2.1, h3.2.2, h4.1, h4.2, h5.1, h5.2.1, h5.2.2, h6.1, h6.2, Bool.or_false]
  unfold parseM
  rw [hh]
  simp only
  have hl := clsT_len cs
  rw [out_yes cs ((clsT cs).length + 1) [] (by omega) hx]
  simp
end Go.Proofs.YthkpobipndifoaaGreatDoor
