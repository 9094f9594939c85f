/- (Ddnnf) What a compiler's list of parts means, as plain Lean. No program in sight. -/
import Derived.Test.YteadlkecngfcoaaGreatDoorDe
import Derived.Test.YteadlkecngfcoaaGreatDoorQu
import Derived.Test.YteadlkecngfcoaaGreatDoorMn
namespace Go.Proofs.YteadlkecngfcoaaGreatDoor
open Go.RowKit Go.Lib
set_option linter.unusedVariables false
set_option linter.unusedSimpArgs false

theorem eval_app (inp : List Bool) : ∀ (ps qs : List Part) (vs : List Bool), evalGo inp (ps ++ qs) vs = evalGo inp qs (evalGo inp ps vs)
  | [], _, _ => rfl
  | p :: r, qs, vs => by rw [List.cons_append, evalGo, evalGo, eval_app inp r qs]
theorem eval_len (inp : List Bool) : ∀ (ps : List Part) (vs : List Bool), (evalGo inp ps vs).length = vs.length + ps.length
  | [], _ => rfl
  | p :: r, vs => by rw [evalGo, eval_len inp r, List.length_append, List.length_singleton, List.length_cons]; omega
theorem eval_pre (inp : List Bool) : ∀ (ps : List Part) (vs : List Bool) (j : Nat), j < vs.length → (evalGo inp ps vs).getD j false = vs.getD j false
  | [], _, _, _ => rfl
  | p :: r, vs, j, h => by
    rw [evalGo, eval_pre inp r _ j (by rw [List.length_append]; omega)]
    simp [List.getD, List.getElem?_append_left h]
theorem chk_app (V : Int) : ∀ (ps qs : List Part) (ms : List Nat), (checkedGo V ps ms).1 = 0 → checkedGo V (ps ++ qs) ms = checkedGo V qs (checkedGo V ps ms).2
  | [], _, _, _ => rfl
  | p :: r, qs, ms, h => by
    rw [List.cons_append]
    simp only [checkedGo] at h ⊢
    by_cases h1 : shapedM p V ≠ 0
    · rw [if_pos h1] at h; exact absurd h h1
    rw [if_neg h1] at h ⊢
    by_cases h2 : (p.kids.any fun k => decide (k < 0 ∨ (ms.length : Int) ≤ k)) = true
    · rw [if_pos h2] at h; cases h
    rw [if_neg h2] at h ⊢
    rw [if_neg h1, if_neg h2]
    cases hm : maskM p ms with
    | none => rw [hm] at h; cases h
    | some m =>
      rw [hm] at h
      simp only at h ⊢
      exact chk_app V r qs _ h
theorem chk_len (V : Int) : ∀ (ps : List Part) (ms : List Nat), (checkedGo V ps ms).1 = 0 → (checkedGo V ps ms).2.length = ms.length + ps.length ∧ ∀ j, j < ms.length → (checkedGo V ps ms).2.getD j 0 = ms.getD j 0
  | [], _, _ => ⟨rfl, fun _ _ => rfl⟩
  | p :: r, ms, h => by
    simp only [checkedGo] at h ⊢
    by_cases h1 : shapedM p V ≠ 0
    · rw [if_pos h1] at h; exact absurd h h1
    rw [if_neg h1] at h ⊢
    by_cases h2 : (p.kids.any fun k => decide (k < 0 ∨ (ms.length : Int) ≤ k)) = true
    · rw [if_pos h2] at h; cases h
    rw [if_neg h2] at h ⊢
    cases hm : maskM p ms with
    | none => rw [hm] at h; cases h
    | some m =>
      rw [hm] at h
      simp only at h ⊢
      obtain ⟨e1, e2⟩ := chk_len V r _ h
      rw [List.length_append, List.length_singleton] at e1 e2
      refine ⟨by rw [e1, List.length_cons]; omega, fun j hj => ?_⟩
      rw [e2 j (by omega)]
      simp [List.getD, List.getElem?_append_left hj]
/-- a variable occurs -/
def Occ (cs : List (List Int)) (v : Int) : Prop := ∃ c ∈ cs, ∃ x ∈ c, varM x = v
def fI (inp : List Bool) (w : Int) : Bool := inp.getD (w.toNat - 1) false
def pFalse : Part := ⟨1, 0, []⟩
def pTrue : Part := ⟨0, 0, []⟩
structure PsOk (V : Nat) (ps : List Part) : Prop where
  ok : (checkedGo V ps []).1 = 0
  two : ∃ r, ps = pFalse :: pTrue :: r
def Meets (V : Nat) (ps : List Part) (cs : List (List Int)) (j : Nat) : Prop :=
  j < ps.length ∧ (∀ inp, (evalGo inp ps []).getD j false = evR (fI inp) cs) ∧ ∀ b, ((checkedGo V ps []).2.getD j 0).testBit b = true → Occ cs ((b : Int) + 1)
theorem PsOk.len {V : Nat} {ps : List Part} (h : PsOk V ps) : (checkedGo V ps []).2.length = ps.length := by
  have := (chk_len V ps [] h.ok).1
  simpa using this
theorem Meets.more {V : Nat} {ps qs : List Part} {cs : List (List Int)} {j : Nat} (h : Meets V ps cs j) (ho : PsOk V ps) (ho2 : PsOk V (ps ++ qs)) : Meets V (ps ++ qs) cs j := by
  obtain ⟨h1, h2, h3⟩ := h
  refine ⟨by rw [List.length_append]; omega, fun inp => ?_, fun b hb => h3 b ?_⟩
  · rw [eval_app, eval_pre inp qs _ j (by rw [eval_len]; simpa using h1), h2 inp]
  · have hq := ho2.ok
    rw [chk_app V ps qs [] ho.ok] at hb hq
    rw [(chk_len V qs _ hq).2 j (by rw [ho.len]; exact h1)] at hb
    exact hb
theorem two_ok (V : Nat) : PsOk V [pFalse, pTrue] := ⟨by simp [checkedGo, shapedM, shapedK, pFalse, pTrue, maskM, maskGo, ownM], [], rfl⟩
theorem two_masks (V : Nat) : (checkedGo V [pFalse, pTrue] []).2 = [0, 0] := by simp [checkedGo, shapedM, shapedK, pFalse, pTrue, maskM, maskGo, ownM]
theorem two_vals (inp : List Bool) : evalGo inp [pFalse, pTrue] [] = [false, true] := by simp [evalGo, evalStep, pFalse, pTrue]
theorem evR_empty {f : Int → Bool} {cs : List (List Int)} (h : [] ∈ cs) : evR f cs = false := by
  unfold evR
  rw [List.all_eq_false]
  exact ⟨[], h, by simp⟩
theorem meets_true {V : Nat} {ps : List Part} (h : PsOk V ps) : Meets V ps [] 1 := by
  obtain ⟨r, rfl⟩ := h.two
  have h2 : Meets V [pFalse, pTrue] [] 1 := ⟨by simp, fun inp => by rw [two_vals]; rfl, fun b hb => by rw [two_masks] at hb; simp at hb⟩
  exact h2.more (two_ok V) (qs := r) h
theorem meets_false {V : Nat} {ps : List Part} {cs : List (List Int)} (h : PsOk V ps) (he : [] ∈ cs) : Meets V ps cs 0 := by
  obtain ⟨r, rfl⟩ := h.two
  have h2 : Meets V [pFalse, pTrue] cs 0 := ⟨by simp, fun inp => by rw [two_vals, evR_empty he]; rfl, fun b hb => by rw [two_masks] at hb; simp at hb⟩
  exact h2.more (two_ok V) (qs := r) h
theorem fI_pos {inp : List Bool} {v : Int} (h : 0 < v) : litR (fI inp) v = inp.getD (v.toNat - 1) false := by unfold litR; rw [if_pos h]; rfl
theorem evR_split {inp : List Bool} {cs : List (List Int)} {v : Int} (hv : 0 < v) (hs : Sm v) : evR (fI inp) cs = if inp.getD (v.toNat - 1) false = true then evR (fI inp) (resM cs v) else evR (fI inp) (resM cs (-v)) := by
  have h1 := fI_pos (inp := inp) hv
  split
  · rename_i h
    rw [evR_res hs (by omega) (by rw [h1]; exact h)]
  · rename_i h
    have hsn : Sm (-v) := ⟨by have := hs.2; omega, by have := hs.1; omega⟩
    rw [evR_res hsn (by omega) (by rw [litR_neg _ (by omega), h1]; simpa using h)]
theorem res_occ {cs : List (List Int)} {lit w : Int} (hs : Sm lit) (h : Occ (resM cs lit) w) : Occ cs w ∧ w ≠ varM lit := by
  obtain ⟨d, hd, x, hx, rfl⟩ := h
  obtain ⟨c, hc, hxc, h1, h2⟩ := res_lit hs hd hx
  refine ⟨⟨c, hc, x, hxc, rfl⟩, fun e => ?_⟩
  unfold varM at e
  obtain ⟨s1, s2⟩ := hs
  split at e <;> split at e <;> omega
theorem meets_same {V : Nat} {ps : List Part} {cs : List (List Int)} {v : Int} {j : Nat} (hv : 0 < v) (hs : Sm v) (h1 : Meets V ps (resM cs (-v)) j) (h2 : Meets V ps (resM cs v) j) : Meets V ps cs j := by
  have hsn : Sm (-v) := ⟨by have := hs.2; omega, by have := hs.1; omega⟩
  refine ⟨h1.1, fun inp => ?_, fun b hb => (res_occ hs (h2.2.2 b hb)).1⟩
  rw [evR_split hv hs, ← h1.2.1 inp, ← h2.2.1 inp, ite_self]
theorem and_none {a b : Nat} (h : ∀ i, a.testBit i = true → b.testBit i = true → False) : a &&& b = 0 := by
  apply Nat.eq_of_testBit_eq
  intro i
  rw [Nat.testBit_and, Nat.zero_testBit]
  rcases ha : a.testBit i with _ | _
  · rfl
  · rcases hb : b.testBit i with _ | _
    · rfl
    · exact (h i ha hb).elim
theorem getD_end {α : Type} (l : List α) (x d : α) (n : Nat) (h : n = l.length) : (l ++ [x]).getD n d = x := by
  subst h
  simp [List.getD]
/-- a new part -/
theorem meets_new {V : Nat} {ps : List Part} {cs : List (List Int)} {v : Int} {lo hi : Nat} (ho : PsOk V ps) (hv : 0 < v) (hvV : v ≤ V) (hs : Sm v) (hoc : Occ cs v) (h1 : Meets V ps (resM cs (-v)) lo) (h2 : Meets V ps (resM cs v) hi) :
    PsOk V (ps ++ [⟨4, v, [(lo : Int), (hi : Int)]⟩]) ∧ Meets V (ps ++ [⟨4, v, [(lo : Int), (hi : Int)]⟩]) cs ps.length := by
  have hsn : Sm (-v) := ⟨by have := hs.2; omega, by have := hs.1; omega⟩
  have hvn : varM (-v) = v := by unfold varM; split <;> omega
  have hvv : varM v = v := by unfold varM; split <;> omega
  obtain ⟨ml, hml⟩ : ∃ m, (checkedGo V ps []).2.getD lo 0 = m := ⟨_, rfl⟩
  obtain ⟨mh, hmh⟩ : ∃ m, (checkedGo V ps []).2.getD hi 0 = m := ⟨_, rfl⟩
  have hl3 := h1.2.2
  have hh3 := h2.2.2
  rw [hml] at hl3
  rw [hmh] at hh3
  have hown : ∀ i, (ownM v).testBit i = true → (i : Int) + 1 = v := fun i hi' => by
    unfold ownM at hi'
    rw [if_neg (by omega), Nat.testBit_two_pow] at hi'
    have := of_decide_eq_true hi'
    omega
  have z1 : ownM v &&& ml = 0 := and_none fun i a b => (res_occ hsn (hl3 i b)).2 (by rw [hvn]; exact hown i a)
  have z2 : ownM v &&& mh = 0 := and_none fun i a b => (res_occ hs (hh3 i b)).2 (by rw [hvv]; exact hown i a)
  have hmask : maskM ⟨4, v, [(lo : Int), (hi : Int)]⟩ (checkedGo V ps []).2 = some (ownM v ||| ml ||| mh) := by
    show maskGo 4 (ownM v) _ _ (ownM v) = _
    rw [maskGo, if_neg (by
      rintro (⟨h, _⟩ | ⟨_, h⟩)
      · exact absurd h (by decide)
      · exact h (by rw [Int.toNat_natCast, hml]; exact z1)), maskGo, if_neg (by
      rintro (⟨h, _⟩ | ⟨_, h⟩)
      · exact absurd h (by decide)
      · exact h (by rw [Int.toNat_natCast, hmh]; exact z2)), maskGo, Int.toNat_natCast, Int.toNat_natCast, hml, hmh]
  have hstep : checkedGo V (ps ++ [⟨4, v, [(lo : Int), (hi : Int)]⟩]) [] = (0, (checkedGo V ps []).2 ++ [ownM v ||| ml ||| mh]) := by
    rw [chk_app V ps _ [] ho.ok]
    have hsh : shapedM ⟨4, v, [(lo : Int), (hi : Int)]⟩ V = 0 := by
      unfold shapedM shapedK
      rw [if_neg (by simp), if_neg (by simp; omega)]
    have hk : (([(lo : Int), (hi : Int)]).any fun k => decide (k < 0 ∨ ((checkedGo V ps []).2.length : Int) ≤ k)) = false := by
      rw [ho.len]
      have q1 := h1.1
      have q2 := h2.1
      simp
      omega
    simp only [checkedGo]
    rw [if_neg (by simpa using hsh), hk, hmask]
    simp
  have hok : PsOk V (ps ++ [⟨4, v, [(lo : Int), (hi : Int)]⟩]) := ⟨by rw [hstep], by obtain ⟨r, hr⟩ := ho.two; exact ⟨r ++ [⟨4, v, [(lo : Int), (hi : Int)]⟩], by rw [hr]; rfl⟩⟩
  refine ⟨hok, by simp, fun inp => ?_, fun b hb => ?_⟩
  · rw [eval_app]
    simp only [evalGo]
    rw [getD_end _ _ _ _ (by rw [eval_len]; simp)]
    unfold evalStep
    rw [if_neg (show ¬ ((4 : Int) = 1) by decide), if_neg (show ¬ ((4 : Int) = 2) by decide), if_neg (show ¬ ((4 : Int) = 3) by decide), if_pos rfl]
    simp only [List.getD_cons_succ, List.getD_cons_zero, Int.toNat_natCast]
    rw [h1.2.1 inp, h2.2.1 inp]
    exact (evR_split hv hs).symm
  · rw [hstep] at hb
    simp only at hb
    rw [getD_end _ _ _ _ (by rw [ho.len])] at hb
    rw [Nat.testBit_or, Nat.testBit_or] at hb
    simp only [Bool.or_eq_true] at hb
    rcases hb with (hb | hb) | hb
    · rw [hown b hb]; exact hoc
    · exact (res_occ hsn (hl3 b hb)).1
    · exact (res_occ hs (hh3 b hb)).1
/-! ### keys -/
def keyK (c : List Int) : Bts := c.flatMap fun l => itoa l ++ [32]
def keyS : List (List Int) → Bts
  | [] => []
  | c :: r => keyK c ++ 48 :: keyS r
def NZ (cs : List (List Int)) : Prop := ∀ c ∈ cs, ∀ x ∈ c, x ≠ 0
theorem itoa_no32 {n : Int} {b : UInt8} (h : b ∈ itoa n) : b ≠ 32 := by
  intro e
  subst e
  unfold itoa at h
  split at h
  · rcases List.mem_cons.1 h with h | h
    · revert h; decide
    · have := dig_nat.1 (dec_dig _ _ h); revert this; decide
  · have := dig_nat.1 (dec_dig _ _ h); revert this; decide
theorem split32 : ∀ {l k x y : Bts}, (∀ b ∈ l, b ≠ 32) → (∀ b ∈ k, b ≠ 32) → l ++ 32 :: x = k ++ 32 :: y → l = k ∧ x = y
  | [], [], x, y, _, _, h => ⟨rfl, by injection h⟩
  | [], b :: k, x, y, _, hk, h => by
    injection h with h1 h2
    exact absurd h1.symm (hk b (List.mem_cons_self ..))
  | a :: l, [], x, y, hl, _, h => by
    injection h with h1 h2
    exact absurd h1 (hl a (List.mem_cons_self ..))
  | a :: l, b :: k, x, y, hl, hk, h => by
    injection h with h1 h2
    obtain ⟨e1, e2⟩ := split32 (fun c hc => hl c (List.mem_cons_of_mem _ hc)) (fun c hc => hk c (List.mem_cons_of_mem _ hc)) h2
    exact ⟨by rw [h1, e1], e2⟩
theorem itoa_inj {n m : Int} (h : itoa n = itoa m) : n = m := by
  have h1 := atoi_itoa n
  rw [h, atoi_itoa m] at h1
  injection h1 with h1
  exact h1.symm
theorem tok_inj {n m : Int} {x y : Bts} (h : itoa n ++ 32 :: x = itoa m ++ 32 :: y) : n = m ∧ x = y := by
  obtain ⟨e1, e2⟩ := split32 (fun b hb => itoa_no32 hb) (fun b hb => itoa_no32 hb) h
  exact ⟨itoa_inj e1, e2⟩
theorem dec_lead : ∀ (u : Nat), 1 ≤ u → ∃ b r, decDigits u = b :: r ∧ b ≠ 48 := by
  intro u
  induction u using Nat.strongRecOn with
  | ind u ih =>
    intro hu
    by_cases h : u < 10
    · refine ⟨UInt8.ofNat (48 + u), [], by rw [decDigits, dif_pos h], fun e => ?_⟩
      have := congrArg UInt8.toNat e
      rw [ofNat_toNat h] at this
      have h48 : (48 : UInt8).toNat = 48 := rfl
      omega
    · obtain ⟨b, r, e, hb⟩ := ih (u / 10) (by omega) (by omega)
      exact ⟨b, r ++ [UInt8.ofNat (48 + u % 10)], by rw [decDigits_rec u h, e]; rfl, hb⟩
theorem itoa_lead {n : Int} (hn : n ≠ 0) : ∃ b r, itoa n = b :: r ∧ b ≠ 48 := by
  unfold itoa
  split
  · exact ⟨45, _, rfl, by decide⟩
  · exact dec_lead _ (by omega)
theorem key_clause : ∀ {c d : List Int} {x y : Bts}, (∀ n ∈ c, n ≠ 0) → (∀ n ∈ d, n ≠ 0) → keyK c ++ 48 :: x = keyK d ++ 48 :: y → c = d ∧ x = y
  | [], [], x, y, _, _, h => ⟨rfl, by simpa [keyK] using h⟩
  | [], m :: d, x, y, _, hd, h => by
    obtain ⟨b, r, e, hb⟩ := itoa_lead (hd m (List.mem_cons_self ..))
    simp only [keyK, List.flatMap_nil, List.nil_append, List.flatMap_cons, e, List.cons_append] at h
    injection h with h1 h2
    exact absurd h1.symm hb
  | n :: c, [], x, y, hc, _, h => by
    obtain ⟨b, r, e, hb⟩ := itoa_lead (hc n (List.mem_cons_self ..))
    simp only [keyK, List.flatMap_nil, List.nil_append, List.flatMap_cons, e, List.cons_append] at h
    injection h with h1 h2
    exact absurd h1 hb
  | n :: c, m :: d, x, y, hc, hd, h => by
    have h' : itoa n ++ 32 :: (keyK c ++ 48 :: x) = itoa m ++ 32 :: (keyK d ++ 48 :: y) := by simpa [keyK] using h
    obtain ⟨e1, e2⟩ := tok_inj h'
    obtain ⟨e3, e4⟩ := key_clause (fun k hk => hc k (List.mem_cons_of_mem _ hk)) (fun k hk => hd k (List.mem_cons_of_mem _ hk)) e2
    exact ⟨by rw [e1, e3], e4⟩
theorem key_inj : ∀ {cs ds : List (List Int)}, NZ cs → NZ ds → keyS cs = keyS ds → cs = ds
  | [], [], _, _, _ => rfl
  | [], d :: r, _, _, h => by
    have := congrArg List.length h
    simp [keyS] at this
  | c :: r, [], _, _, h => by
    have := congrArg List.length h
    simp [keyS] at this
  | c :: r, d :: q, hc, hd, h => by
    rw [keyS, keyS] at h
    obtain ⟨e1, e2⟩ := key_clause (hc c (List.mem_cons_self ..)) (hd d (List.mem_cons_self ..)) h
    rw [e1, key_inj (fun x hx => hc x (List.mem_cons_of_mem _ hx)) (fun x hx => hd x (List.mem_cons_of_mem _ hx)) e2]
theorem itoa_all20J {n : Int} (h : I64 n) : (itoa n).length ≤ 20 := by
  obtain ⟨h1, h2⟩ := h
  unfold itoa
  split
  · rw [List.length_cons, decDigits_length]
    have := nDigits_le (u := n.natAbs) (k := 19) (by omega) (by omega)
    omega
  · rw [decDigits_length]
    have := nDigits_le (u := n.toNat) (k := 19) (by omega) (by omega)
    omega
theorem keyK_len {c : List Int} (h : ∀ x ∈ c, I64 x) : (keyK c).length ≤ 21 * c.length := by
  induction c with
  | nil => simp [keyK]
  | cons n r ih =>
    have h1 := ih fun x hx => h x (List.mem_cons_of_mem _ hx)
    have h2 := itoa_all20J (h n (List.mem_cons_self ..))
    unfold keyK at h1 ⊢
    rw [List.flatMap_cons, List.length_append, List.length_append, List.length_singleton, List.length_cons]
    omega
theorem keyS_app (cs ds : List (List Int)) : keyS (cs ++ ds) = keyS cs ++ keyS ds := by
  induction cs with
  | nil => rfl
  | cons c r ih => rw [List.cons_append, keyS, keyS, ih]; simp
theorem keyS_len {m : Nat} : ∀ {cs : List (List Int)}, (∀ c ∈ cs, ∀ x ∈ c, I64 x) → (∀ c ∈ cs, c.length ≤ m) → (keyS cs).length ≤ cs.length * (21 * m + 1)
  | [], _, _ => by simp [keyS]
  | c :: r, h, hl => by
    have h1 := keyS_len (fun x hx => h x (List.mem_cons_of_mem _ hx)) (fun x hx => hl x (List.mem_cons_of_mem _ hx))
    have h2 := keyK_len (h c (List.mem_cons_self ..))
    have h3 := hl c (List.mem_cons_self ..)
    rw [keyS, List.length_append, List.length_cons, List.length_cons, Nat.succ_mul]
    have := Nat.mul_le_mul_left 21 h3
    omega
end Go.Proofs.YteadlkecngfcoaaGreatDoor
