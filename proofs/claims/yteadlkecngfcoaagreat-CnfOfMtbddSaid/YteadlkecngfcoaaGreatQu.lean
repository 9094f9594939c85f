/- Plain: satisfiability and the projected count of canonical clauses, by residuals, are what they should be. No program in sight. -/
import Derived.Test.YteadlkecngfcoaaGreatKp
import Derived.Test.YteadlkecngfcoaaGreatKx
import Derived.Test.YteadlkecngfcoaaGreatBase
namespace Go.Proofs.YteadlkecngfcoaaGreat
open Go.RowKit
set_option linter.unusedVariables false

/-! ### models as functions -/
def litR (f : Int → Bool) (x : Int) : Bool := if 0 < x then f x else !f (-x)
def evR (f : Int → Bool) (cs : List (List Int)) : Bool := cs.all fun c => c.any (litR f)
theorem litR_neg (f : Int → Bool) {x : Int} (h : x ≠ 0) : litR f (-x) = !litR f x := by
  unfold litR
  rcases Int.lt_or_gt_of_ne h with h1 | h1
  · rw [if_pos (show 0 < -x by omega), if_neg (show ¬ 0 < x by omega), Bool.not_not]
  · rw [if_neg (show ¬ 0 < -x by omega), if_pos h1, Int.neg_neg]
theorem evR_can (f : Int → Bool) (cs : List (List Int)) : evR f (canM cs) = evR f cs := by
  unfold evR
  rw [Bool.eq_iff_iff, List.all_eq_true, List.all_eq_true]
  constructor
  · intro h c hc
    rcases bool2 (oppM (claM c)) with ho | ho
    · obtain ⟨x, h1, h2, h3⟩ := oppM_has _ ho
      rw [claM_iff] at h1 h3
      rw [List.any_eq_true]
      rcases bool2 (litR f x) with h4 | h4
      · exact ⟨x, h1, h4⟩
      · exact ⟨-x, h3, by rw [litR_neg f h2, h4]; rfl⟩
    · have := h (claM c) (canM_iff.2 ⟨ho, c, hc, rfl⟩)
      rwa [any_mem (m := c) fun x => claM_iff] at this
  · intro h d hd
    obtain ⟨_, c, hc, rfl⟩ := canM_iff.1 hd
    rw [any_mem (m := c) fun x => claM_iff]
    exact h c hc
def Sm (x : Int) : Prop := -1000000 ≤ x ∧ x ≤ 1000000
theorem Sm.neg {x : Int} (h : Sm x) : IntKind.i64.wrap (-x) = -x := IntWalk.i64_in _ ⟨by have := h.1; have := h.2; omega, by have := h.1; have := h.2; omega⟩
theorem res_lit {cs : List (List Int)} {lit y : Int} {d : List Int} (hs : Sm lit) (h : d ∈ resM cs lit) (hy : y ∈ d) : ∃ x ∈ cs, y ∈ x ∧ y ≠ lit ∧ y ≠ -lit := by
  unfold resM at h
  obtain ⟨_, c, hc, rfl⟩ := canM_iff.1 h
  obtain ⟨x, hx, hn, rfl⟩ := resG_mem lit cs c hc
  rw [claM_iff, rstM, List.mem_filter, hs.neg] at hy
  exact ⟨x, hx, hy.1, (fun e => by subst e; rw [List.contains_iff_mem.2 hy.1] at hn; exact absurd hn (by simp)), by simpa using hy.2⟩
theorem resG_in {cs : List (List Int)} {lit : Int} {x : List Int} (hx : x ∈ cs) (hc : x.contains lit = false) : rstM lit x ∈ resG lit cs := by
  induction cs with
  | nil => cases hx
  | cons c r ih =>
    rw [resG]
    rcases List.mem_cons.1 hx with rfl | hx
    · rw [if_neg (by rw [hc]; simp)]
      exact List.mem_cons_self ..
    · split
      · exact ih hx
      · exact List.mem_cons_of_mem _ (ih hx)
theorem evR_res {f : Int → Bool} {cs : List (List Int)} {lit : Int} (hs : Sm lit) (h0 : lit ≠ 0) (hl : litR f lit = true) : evR f (resM cs lit) = evR f cs := by
  unfold resM
  rw [evR_can]
  unfold evR
  rw [Bool.eq_iff_iff, List.all_eq_true, List.all_eq_true]
  have hr : ∀ x : List Int, (rstM lit x).any (litR f) = x.any (litR f) := fun x => by
    rw [Bool.eq_iff_iff, List.any_eq_true, List.any_eq_true]
    constructor
    · rintro ⟨y, hy, ht⟩
      exact ⟨y, (List.mem_filter.1 hy).1, ht⟩
    · rintro ⟨y, hy, ht⟩
      refine ⟨y, List.mem_filter.2 ⟨hy, ?_⟩, ht⟩
      rw [hs.neg]
      have : y ≠ -lit := fun e => by rw [e, litR_neg f h0, hl] at ht; cases ht
      simpa using this
  constructor
  · intro h x hx
    rcases bool2 (x.contains lit) with hc | hc
    · rw [List.any_eq_true]
      exact ⟨lit, List.contains_iff_mem.1 hc, hl⟩
    · have := h _ (resG_in hx hc)
      rwa [hr] at this
  · intro h d hd
    obtain ⟨x, hx, _, rfl⟩ := resG_mem lit cs d hd
    rw [hr]
    exact h x hx
/-- the variables are among S -/
def Vs (S : List Int) (cs : List (List Int)) : Prop := ∀ c ∈ cs, ∀ x ∈ c, x ≠ 0 ∧ varM x ∈ S
def upd (f : Int → Bool) (v : Int) (b : Bool) : Int → Bool := fun w => if w = v then b else f w
theorem litR_congr {f g : Int → Bool} {x : Int} (h : f (varM x) = g (varM x)) (_ : x ≠ 0) : litR f x = litR g x := by
  unfold litR
  unfold varM at h
  split at h
  · rw [if_neg (by omega), if_neg (by omega), h]
  · rw [if_pos (by omega), if_pos (by omega), h]
theorem any_congr' {α : Type} {p q : α → Bool} : ∀ {l : List α}, (∀ x ∈ l, p x = q x) → l.any p = l.any q
  | [], _ => rfl
  | a :: r, h => by rw [List.any_cons, List.any_cons, h a (List.mem_cons_self ..), any_congr' fun x hx => h x (List.mem_cons_of_mem _ hx)]
theorem all_congr' {α : Type} {p q : α → Bool} : ∀ {l : List α}, (∀ x ∈ l, p x = q x) → l.all p = l.all q
  | [], _ => rfl
  | a :: r, h => by rw [List.all_cons, List.all_cons, h a (List.mem_cons_self ..), all_congr' fun x hx => h x (List.mem_cons_of_mem _ hx)]
theorem evR_congr {f g : Int → Bool} {S : List Int} {cs : List (List Int)} (hv : Vs S cs) (h : ∀ v ∈ S, f v = g v) : evR f cs = evR g cs :=
  all_congr' fun c hc => any_congr' fun x hx => litR_congr (h _ (hv c hc x hx).2) (hv c hc x hx).1
theorem Vs.res {S : List Int} {cs : List (List Int)} {x : Int} (hv : Vs S cs) (hs : Sm x) (_ : x ≠ 0) : Vs (S.erase (varM x)) (resM cs x) := by
  intro d hd y hy
  obtain ⟨c, hc, hyc, h1, h2⟩ := res_lit hs hd hy
  obtain ⟨h3, h4⟩ := hv c hc y hyc
  refine ⟨h3, (List.mem_erase_of_ne ?_).2 h4⟩
  unfold varM
  split <;> split <;> omega
theorem upd_lit (f : Int → Bool) {x : Int} (h0 : x ≠ 0) : litR (upd f (varM x) (decide (0 < x))) x = true := by
  by_cases h : 0 < x
  · have hv : varM x = x := by unfold varM; rw [if_neg (by omega)]
    unfold litR upd
    rw [if_pos h, hv, if_pos rfl, decide_eq_true h]
  · have hv : varM x = -x := by unfold varM; rw [if_pos (by omega)]
    unfold litR upd
    rw [if_neg h, hv, if_pos rfl, decide_eq_false h]; rfl
theorem upd_off (f : Int → Bool) {S : List Int} {cs : List (List Int)} {x : Int} (b : Bool) (hv : Vs (S.erase (varM x)) (resM cs x)) (hs : Sm x) : evR (upd f (varM x) b) (resM cs x) = evR f (resM cs x) := by
  refine all_congr' fun d hd => any_congr' fun y hy => litR_congr ?_ (hv d hd y hy).1
  obtain ⟨c, hc, hyc, h1, h2⟩ := res_lit hs hd hy
  unfold upd
  rw [if_neg]
  unfold varM
  split <;> split <;> omega
/-! ### canonical lists -/
theorem canM_idem (cs : List (List Int)) : canM (canM cs) = canM cs :=
  (canGo_canM _).1 ((canGo_iff none _).2 ⟨fun x hx => ⟨(canM_mem hx).1, (canM_mem hx).2.1⟩, cptM_strict clsCmp _, fun q hq => by cases hq⟩)
theorem resM_can (cs : List (List Int)) (x : Int) : canM (resM cs x) = resM cs x := canM_idem _
theorem head_nil {cs : List (List Int)} (hc : canM cs = cs) (h : [] ∈ cs) : cs.head? = some [] := by
  have hs : Strict clsC cs := by rw [← hc]; exact cptM_strict clsCmp _
  match cs, h, hs with
  | c :: r, h, hs =>
    rcases List.mem_cons.1 h with e | e
    · rw [← e]; rfl
    · have := (List.pairwise_cons.1 hs).1 [] e
      match c, this with
      | [], this => rfl
      | a :: s, this => simp [clsC] at this
/-! ### Satisfiable -/
def satM : Nat → List (List Int) → Bool
  | 0, _ => false
  | k + 1, cs =>
    if cs = [] then true else if cs.head? = some [] then false
    else match cs.find? (fun c => c.length == 1) with
      | some u => satM k (resM cs (u.headD 0))
      | none => satM k (resM cs ((cs.headD []).headD 0)) || satM k (resM cs (-((cs.headD []).headD 0)))
theorem sat_step {S : List Int} {cs : List (List Int)} {x : Int} (hv : Vs S cs) (hs : Sm x) (h0 : x ≠ 0) : (∃ f, evR f (resM cs x) = true) ↔ ∃ f, evR f cs = true ∧ litR f x = true := by
  constructor
  · rintro ⟨f, hf⟩
    refine ⟨upd f (varM x) (decide (0 < x)), ?_, upd_lit f h0⟩
    rw [← evR_res hs h0 (upd_lit f h0), upd_off f _ (hv.res hs h0) hs]
    exact hf
  · rintro ⟨f, hf, hl⟩
    exact ⟨f, by rw [evR_res hs h0 hl]; exact hf⟩
theorem erase_len {S : List Int} {v : Int} {k : Nat} (h : v ∈ S) (hk : S.length < k + 1) : (S.erase v).length < k := by
  have := List.length_erase_of_mem h
  have : 0 < S.length := List.length_pos_of_mem h
  omega
theorem Vs.sm {S : List Int} {cs : List (List Int)} (hv : Vs S cs) (hS : ∀ v ∈ S, v ≤ 1000000) {c : List Int} (hc : c ∈ cs) {x : Int} (hx : x ∈ c) : Sm x ∧ x ≠ 0 ∧ varM x ∈ S := by
  obtain ⟨h1, h2⟩ := hv c hc x hx
  have := hS _ h2
  refine ⟨?_, h1, h2⟩
  unfold varM at this
  unfold Sm
  split at this <;> omega
theorem sat_iff : ∀ (k : Nat) (S : List Int) (cs : List (List Int)), canM cs = cs → Vs S cs → (∀ v ∈ S, v ≤ 1000000) → S.length < k → (satM k cs = true ↔ ∃ f, evR f cs = true)
  | 0, S, cs, _, _, _, h => by omega
  | k + 1, S, cs, hc, hv, hS, hk => by
    have hE : ∀ x : Int, ∀ v ∈ S.erase (varM x), v ≤ 1000000 := fun x v h => hS v (List.mem_of_mem_erase h)
    rw [satM]
    by_cases h1 : cs = []
    · subst h1
      rw [if_pos rfl]
      exact ⟨fun _ => ⟨fun _ => true, rfl⟩, fun _ => rfl⟩
    rw [if_neg h1]
    by_cases h2 : cs.head? = some []
    · rw [if_pos h2]
      constructor
      · intro h; cases h
      · rintro ⟨f, hf⟩
        match cs, h2 with
        | c :: r, h2 =>
          simp at h2
          subst h2
          simp [evR] at hf
    rw [if_neg h2]
    rcases hu : cs.find? (fun c => c.length == 1) with _ | u
    · rw [hu]
      rcases cs with _ | ⟨c0, r⟩
      · exact absurd rfl h1
      rcases c0 with _ | ⟨x, s⟩
      · exact absurd rfl h2
      · show (satM k (resM _ x) || satM k (resM _ (-x))) = true ↔ _
        obtain ⟨hs, h0, hm⟩ := hv.sm hS (List.mem_cons_self ..) (List.mem_cons_self ..)
        have hs' : Sm (-x) := by unfold Sm at *; omega
        have h0' : -x ≠ 0 := by omega
        have hvn : varM (-x) = varM x := by unfold varM; split <;> split <;> omega
        have hr' := hv.res hs' h0'
        rw [hvn] at hr'
        rw [Bool.or_eq_true, sat_iff k _ _ (resM_can _ _) (hv.res hs h0) (hE x) (erase_len hm hk), sat_iff k _ _ (resM_can _ _) hr' (hE x) (erase_len hm hk), sat_step hv hs h0, sat_step hv hs' h0']
        constructor
        · rintro (⟨f, hf, _⟩ | ⟨f, hf, _⟩) <;> exact ⟨f, hf⟩
        · rintro ⟨f, hf⟩
          rcases bool2 (litR f x) with h | h
          · exact .inl ⟨f, hf, h⟩
          · exact .inr ⟨f, hf, by rw [litR_neg f h0, h]; rfl⟩
    · rw [hu]
      have hum := List.mem_of_find?_eq_some hu
      have hul := List.find?_some hu
      obtain ⟨x, rfl⟩ : ∃ x, u = [x] := by
        rcases u with _ | ⟨x, _ | ⟨y, t⟩⟩
        · simp at hul
        · exact ⟨x, rfl⟩
        · simp at hul
      · show satM k (resM cs x) = true ↔ _
        obtain ⟨hs, h0, hm⟩ := hv.sm hS hum (List.mem_cons_self ..)
        rw [sat_iff k _ _ (resM_can _ _) (hv.res hs h0) (hE x) (erase_len hm hk), sat_step hv hs h0]
        constructor
        · rintro ⟨f, hf, _⟩; exact ⟨f, hf⟩
        · rintro ⟨f, hf⟩
          refine ⟨f, hf, ?_⟩
          have := List.all_eq_true.1 hf [x] hum
          simpa using this
/-! ### Count -/
def cntM (k : Nat) : List Int → List (List Int) → Nat
  | [], cs => if cs.head? = some [] then 0 else if satM k cs = true then 1 else 0
  | v :: r, cs => if cs.head? = some [] then 0 else cntM k r (resM cs v) + cntM k r (resM cs (-v))
open Classical in
noncomputable def cntN (C : (Int → Bool) → Prop) : List Int → Nat
  | [] => if ∃ f, C f then 1 else 0
  | v :: r => cntN (fun f => C f ∧ f v = true) r + cntN (fun f => C f ∧ f v = false) r
theorem cnt_congr : ∀ (keep : List Int) (C D : (Int → Bool) → Prop), (∀ f, C f → ∃ g, D g ∧ ∀ v ∈ keep, g v = f v) → (∀ f, D f → ∃ g, C g ∧ ∀ v ∈ keep, g v = f v) → cntN C keep = cntN D keep
  | [], C, D, h1, h2 => by
    unfold cntN
    by_cases h : ∃ f, C f
    · obtain ⟨f, hf⟩ := h
      obtain ⟨g, hg, _⟩ := h1 f hf
      rw [if_pos ⟨f, hf⟩, if_pos ⟨g, hg⟩]
    · rw [if_neg h, if_neg]
      rintro ⟨f, hf⟩
      obtain ⟨g, hg, _⟩ := h2 f hf
      exact h ⟨g, hg⟩
  | v :: r, C, D, h1, h2 => by
    unfold cntN
    have s : ∀ (b : Bool) (A B : (Int → Bool) → Prop), (∀ f, A f → ∃ g, B g ∧ ∀ u ∈ v :: r, g u = f u) → ∀ f, (A f ∧ f v = b) → ∃ g, (B g ∧ g v = b) ∧ ∀ u ∈ r, g u = f u := fun b A B h f hf => by
      obtain ⟨g, hg, ha⟩ := h f hf.1
      exact ⟨g, ⟨hg, by rw [ha v (List.mem_cons_self ..)]; exact hf.2⟩, fun u hu => ha u (List.mem_cons_of_mem _ hu)⟩
    rw [cnt_congr r _ _ (s true C D h1) (s true D C h2), cnt_congr r _ _ (s false C D h1) (s false D C h2)]
theorem cnt_zero : ∀ (keep : List Int) (C : (Int → Bool) → Prop), (∀ f, ¬ C f) → cntN C keep = 0
  | [], C, h => by unfold cntN; rw [if_neg fun ⟨f, hf⟩ => h f hf]
  | v :: r, C, h => by
    unfold cntN
    rw [cnt_zero r _ fun f hf => h f hf.1, cnt_zero r _ fun f hf => h f hf.1]
theorem evR_head {f : Int → Bool} {cs : List (List Int)} (h : cs.head? = some []) : evR f cs = false := by
  match cs, h with
  | c :: r, h =>
    simp at h
    subst h
    simp [evR]
theorem cnt_eq (k : Nat) : ∀ (keep S : List Int) (cs : List (List Int)), canM cs = cs → Vs S cs → (∀ v ∈ S, v ≤ 1000000) → S.length < k → keep.Nodup → (∀ v ∈ keep, 1 ≤ v ∧ v ≤ 1000000) →
    cntM k keep cs = cntN (fun f => evR f cs = true) keep
  | [], S, cs, hc, hv, hS, hk, _, _ => by
    rw [cntM, cntN]
    by_cases h : cs.head? = some []
    · rw [if_pos h, if_neg]
      rintro ⟨f, hf⟩
      rw [evR_head h] at hf
      cases hf
    · rw [if_neg h]
      by_cases hs : satM k cs = true
      · rw [if_pos hs, if_pos ((sat_iff k S cs hc hv hS hk).1 hs)]
      · rw [if_neg hs, if_neg fun h => hs ((sat_iff k S cs hc hv hS hk).2 h)]
  | v :: r, S, cs, hc, hv, hS, hk, hn, hp => by
    rw [cntM]
    by_cases h : cs.head? = some []
    · rw [if_pos h, cnt_zero]
      intro f hf
      rw [evR_head h] at hf
      cases hf
    rw [if_neg h, cntN]
    obtain ⟨hn1, hn2⟩ := List.nodup_cons.1 hn
    have hvr := hp v (List.mem_cons_self ..)
    have hp2 : ∀ u ∈ r, 1 ≤ u ∧ u ≤ 1000000 := fun u hu => hp u (List.mem_cons_of_mem _ hu)
    have hE : ∀ x : Int, ∀ u ∈ S.erase (varM x), u ≤ 1000000 := fun x u hu => hS u (List.mem_of_mem_erase hu)
    have hlen : ∀ x : Int, (S.erase (varM x)).length < k := fun x => by
      have := List.length_erase (l := S) (a := varM x)
      split at this <;> omega
    have key : ∀ (x : Int) (b : Bool), Sm x → x ≠ 0 → varM x = v → decide (0 < x) = b → cntM k r (resM cs x) = cntN (fun f => evR f cs = true ∧ f v = b) r := fun x b hs h0 hxv hb => by
      rw [cnt_eq k r _ _ (resM_can _ _) (hv.res hs h0) (hE x) (hlen x) hn2 hp2]
      refine cnt_congr r _ _ (fun f hf => ?_) (fun f hf => ?_)
      · refine ⟨upd f (varM x) (decide (0 < x)), ⟨?_, ?_⟩, fun u hu => ?_⟩
        · rw [← evR_res hs h0 (upd_lit f h0), upd_off f _ (hv.res hs h0) hs]
          exact hf
        · unfold upd
          rw [if_pos hxv.symm, hb]
        · unfold upd
          rw [if_neg]
          intro e
          rw [hxv] at e
          exact hn1 (e ▸ hu)
      · have hl : litR f x = true := by
          unfold litR
          unfold varM at hxv
          by_cases hx : 0 < x
          · rw [if_pos hx]
            rw [if_neg (by omega)] at hxv
            rw [hxv, hf.2, ← hb, decide_eq_true hx]
          · rw [if_neg hx]
            rw [if_pos (by omega)] at hxv
            rw [hxv, hf.2, ← hb, decide_eq_false hx]; rfl
        exact ⟨f, by rw [evR_res hs h0 hl]; exact hf.1, fun _ _ => rfl⟩
    rw [key v true (by unfold Sm; omega) (by omega) (by unfold varM; rw [if_neg (by omega)]) (decide_eq_true (by omega)),
      key (-v) false (by unfold Sm; omega) (by omega) (by unfold varM; rw [if_pos (by omega)]; omega) (decide_eq_false (by omega))]

/- Plain: the numbers a + 1, .., a + m. -/
set_option linter.unusedVariables false

/-- a + 1, .., a + m -/
def ivl (a : Int) : Nat → List Int
  | 0 => []
  | m + 1 => (a + 1) :: ivl (a + 1) m
theorem ivl_mem : ∀ (m : Nat) (a v : Int), v ∈ ivl a m ↔ a < v ∧ v ≤ a + m
  | 0, a, v => by
    rw [ivl]
    constructor
    · intro h; cases h
    · omega
  | m + 1, a, v => by rw [ivl, List.mem_cons, ivl_mem m]; omega
theorem ivl_nodup : ∀ (m : Nat) (a : Int), (ivl a m).Nodup
  | 0, a => List.nodup_nil
  | m + 1, a => List.nodup_cons.2 ⟨by rw [ivl_mem]; omega, ivl_nodup m _⟩
theorem ivl_len : ∀ (m : Nat) (a : Int), (ivl a m).length = m
  | 0, a => rfl
  | m + 1, a => by rw [ivl, List.length_cons, ivl_len m]
theorem ivl_succ : ∀ (m : Nat) (a : Int), ivl a (m + 1) = ivl a m ++ [a + m + 1]
  | 0, a => by simp [ivl]
  | m + 1, a => by
    rw [ivl, ivl_succ m, ivl, show a + 1 + (m : Int) + 1 = a + ((m + 1 : Nat) : Int) + 1 by omega]
    rfl

/- Walks: the statements' assignment. No condition but the sizes, and that the literals are variables. -/
open Go.ChangeShapes Go.WideShapes Go.ChangeAt Go.RowKit
set_option linter.unusedVariables false

theorem i64_low (n : Int) : bits .and .i64 n 1 = n % 2 := by
  have h1 : (BitVec.ofInt 64 n &&& BitVec.ofInt 64 1).toNat = (n % ((2 ^ 64 : Nat) : Int)).toNat % 2 := by
    rw [BitVec.toNat_and, BitVec.toNat_ofInt, show (BitVec.ofInt 64 1).toNat = 2 ^ 1 - 1 by decide, Nat.and_two_pow_sub_one_eq_mod]
  show IntKind.i64.wrap ((BitVec.ofInt 64 n &&& BitVec.ofInt 64 1).toNat : Nat) = n % 2
  rw [h1, IntKind.wrap_i64]
  omega
theorem bit_test (k g : Nat) : (bits .and .i64 ((k : Int) / 2 ^ g) 1 == 1) = k.testBit g := by
  rw [i64_low, show ((k : Int) / 2 ^ g) = ((k / 2 ^ g : Nat) : Int) by simp, Nat.testBit_eq_decide_div_mod_eq]
  rcases Nat.mod_two_eq_zero_or_one (k / 2 ^ g) with h | h
  · rw [show ((k / 2 ^ g : Nat) : Int) % 2 = 0 by omega, h]; rfl
  · rw [show ((k / 2 ^ g : Nat) : Int) % 2 = 1 by omega, h]; rfl

/-- the assignment with the number k -/
def assM (n k : Nat) : List Bool := (List.range n).map fun j => k.testBit (n - 1 - j)
theorem assM_len (n k : Nat) : (assM n k).length = n := by simp [assM]
theorem assM_take (n k j : Nat) (h : j < n) : (assM n k).take (j + 1) = (assM n k).take j ++ [k.testBit (n - 1 - j)] := by
  rw [List.take_succ_eq_append_getElem (by rw [assM_len]; exact h)]
  simp [assM]
set_option maxHeartbeats 1000000 in
theorem assign_any (n k : Nat) (w : World) (hn : n ≤ 62) (hk : k < 4611686018427387904) :
    Calls Tryz.prog 10 #[.int .i64 n, .int .i64 k] w (BoolsPost w (assM n k)) := by
  have hinfo : (Tryz.prog.info? 4).map (fun i => (i.zero, i.size, i.bytes)) = some (some (.bool false), 1, 1) := by kernel_rfl
  have HI := Lib.hid hinfo
  clear hinfo
  have ho0 : (w.alloc (.cells #[] 4)).ownsRow w.heap.size 4 1 (.slice (some ⟨w.heap.size, 0, none⟩) 0 0) 0 (((assM n k).take 0).map .bool) := by simpa using own_new (base := w.heap.size) (w := w) #[] 4 (by omega) (by simp)
  have hb0 : Below w.heap.size w (w.alloc (.cells #[] 4)) := (Below.refl _ _).alloc (Nat.le_refl _) _
  have HO0 := Lib.hid ho0
  have HB0 := Lib.hid hb0
  clear ho0 hb0
  go_enter Tryz.func10, Tryz.ntmps10
  go_wp2
  go_loopg [5, 6] (n) (fun g u5 u6 wx => ∃ (j : Nat), j + g = n ∧ u6 = .int .i64 ((g : Int) - 1) ∧ Below w.heap.size w wx ∧ wx.ownsRow w.heap.size 4 1 u5 j (((assM n k).take j).map .bool))
  case atStart => exact ⟨0, by omega, by go_num, HB0.out, HO0.out⟩
  case round =>
    clear HO0 HB0
    obtain ⟨j, hj, rfl, hB, hown⟩ := hrel
    have HB := Lib.hid hB
    have HO := Lib.hid hown
    have hbs := hB.size
    clear hB hown
    rcases gk with _ | g
    · have hjn : j = n := by omega
      subst hjn
      go_wp2
      go_ret
      have h := HO.out
      rw [List.take_of_length_le (by rw [assM_len]; omega)] at h
      exact ⟨_, rfl, (ownsRow_sl1 h (by omega)).mono fun b hb => hb.1, HB.out⟩
    · have hown := HO.out
      go_wp2_with (at_builtin; go_loud (refine wpList_push1 rfl _ _ 28 rfl 4 (.bool false) 1 Tryz.underlying28 HI.out rfl w.heap.size u5 j _ wr _ rfl rfl hown rfl (by omega) (by omega) (by omega) ?_); intro g3 cap3 w3 hown3 hg3 hs3 hgb hgl _; have HB3 := Lib.hid (HB.out.grown hg3 (by omega) (fun k hk => (hown.lt k hk).1)); have HO3 := Lib.hid hown3; clear hown3 hg3 hown)
      go_roundg g
      case measure => omega
      case rel =>
        refine ⟨j + 1, by omega, by go_num, HB3.out, ?_⟩
        have h := HO3.out
        rw [assM_take n k j (by omega), List.map_append, show n - 1 - j = g by omega, ← bit_test]
        exact h
theorem Bools.drewN {F : Nat → Prop} {w : World} {v : Value} {xs : List Bool} (h : Bools F w v xs) (n : Nat) : Bools F (w.drewN n) v xs := Bools.move (w' := w.drewN n) h fun _ _ _ => rfl
end Go.Proofs.YteadlkecngfcoaaGreat
