/- (Counter seat) Plain: counting laws of the counter's statements. No program in sight. -/
import Derived.Test.YthanfjpmcckbhaaGreatDoorVv
import Derived.Test.YthanfjpmcckbhaaGreatDoorYb
namespace Go.Proofs.YthanfjpmcckbhaaGreatDoor
open Go.RowKit
set_option linter.unusedVariables false

theorem cnt_none {C : Asg → Prop} (h : ∀ f, ¬ C f) : ∀ S : List Int, cntN C S = 0
  | [] => by rw [cntN, if_neg (fun ⟨f, hf⟩ => h f hf)]
  | v :: r => by rw [cntN, cnt_none (fun f hf => h f hf.1) r, cnt_none (fun f hf => h f hf.1) r]
theorem cnt_mono : ∀ (S : List Int) {C D : Asg → Prop}, (∀ f, C f → D f) → cntN C S ≤ cntN D S
  | [], C, D, h => by
    rw [cntN, cntN]
    by_cases hc : ∃ f, C f
    · obtain ⟨f, hf⟩ := hc
      rw [if_pos ⟨f, hf⟩, if_pos ⟨f, h f hf⟩]
      exact Nat.le_refl _
    · rw [if_neg hc]; exact Nat.zero_le _
  | v :: r, C, D, h => by
    rw [cntN, cntN]
    exact Nat.add_le_add (cnt_mono r fun f hf => ⟨h f hf.1, hf.2⟩) (cnt_mono r fun f hf => ⟨h f hf.1, hf.2⟩)
theorem cnt_or : ∀ (S : List Int) {C A B : Asg → Prop}, (∀ f, C f → A f ∨ B f) → cntN C S ≤ cntN A S + cntN B S
  | [], C, A, B, h => by
    rw [cntN, cntN, cntN]
    by_cases hc : ∃ f, C f
    · obtain ⟨f, hf⟩ := hc
      rw [if_pos ⟨f, hf⟩]
      rcases h f hf with ha | hb
      · rw [if_pos ⟨f, ha⟩]; omega
      · rw [if_pos (show ∃ f, B f from ⟨f, hb⟩)]; omega
    · rw [if_neg hc]; omega
  | v :: r, C, A, B, h => by
    rw [cntN, cntN, cntN]
    have h1 := cnt_or r (C := fun f => C f ∧ f v = true) (A := fun f => A f ∧ f v = true) (B := fun f => B f ∧ f v = true) fun f hf => (h f hf.1).imp (fun x => ⟨x, hf.2⟩) fun x => ⟨x, hf.2⟩
    have h2 := cnt_or r (C := fun f => C f ∧ f v = false) (A := fun f => A f ∧ f v = false) (B := fun f => B f ∧ f v = false) fun f hf => (h f hf.1).imp (fun x => ⟨x, hf.2⟩) fun x => ⟨x, hf.2⟩
    have h3 := Nat.add_le_add h1 h2
    rw [Nat.add_add_add_comm] at h3
    exact h3
theorem cnt_more (C : Asg → Prop) (v : Int) (S : List Int) : cntN C S ≤ cntN C (v :: S) ∧ cntN C (v :: S) ≤ 2 * cntN C S := by
  rw [cntN]
  have h1 := cnt_or S (C := C) (A := fun f => C f ∧ f v = true) (B := fun f => C f ∧ f v = false) fun f hf => by
    rcases h : f v with _ | _
    · exact .inr ⟨hf, rfl⟩
    · exact .inl ⟨hf, rfl⟩
  have h2 := cnt_mono S (C := fun f => C f ∧ f v = true) (D := C) fun f hf => hf.1
  have h3 := cnt_mono S (C := fun f => C f ∧ f v = false) (D := C) fun f hf => hf.1
  refine ⟨h1, ?_⟩
  rw [Nat.two_mul]
  exact Nat.add_le_add h2 h3
/-- one kept variable more -/
theorem cnt_keeps (C : Asg → Prop) (k : Nat) : cntN C (ivl 0 k) ≤ cntN C (ivl 0 (k + 1)) ∧ cntN C (ivl 0 (k + 1)) ≤ 2 * cntN C (ivl 0 k) := by
  rw [ivl_succ, cnt_perm (List.perm_append_comm (l₁ := ivl 0 k) (l₂ := [0 + (k : Int) + 1])) C]
  exact cnt_more C _ _
theorem cnt_zero_bit (C : Asg → Prop) : cntN C (ivl 0 0) ≤ 1 := by
  show cntN C [] ≤ 1
  rw [cntN]
  split <;> omega
/-- a variable's two values -/
theorem cnt_two {S : List Int} {x : Int} (hx : x ∈ S) (hn : S.Nodup) (C : Asg → Prop) : cntN C S = cntN (fun f => C f ∧ f x = true) S + cntN (fun f => C f ∧ f x = false) S := by
  have hp := List.perm_cons_erase hx
  rw [cnt_perm hp C, cnt_perm hp (fun f => C f ∧ f x = true), cnt_perm hp (fun f => C f ∧ f x = false), cntN, cntN, cntN]
  have e1 : cntN (fun f => (C f ∧ f x = true) ∧ f x = true) (S.erase x) = cntN (fun f => C f ∧ f x = true) (S.erase x) := cnt_iff fun f => ⟨fun h => h.1, fun h => ⟨h, h.2⟩⟩
  have e2 : cntN (fun f => (C f ∧ f x = true) ∧ f x = false) (S.erase x) = 0 := cnt_none (fun f h => by have := h.1.2; rw [h.2] at this; cases this) _
  have e3 : cntN (fun f => (C f ∧ f x = false) ∧ f x = true) (S.erase x) = 0 := cnt_none (fun f h => by have := h.1.2; rw [h.2] at this; cases this) _
  have e4 : cntN (fun f => (C f ∧ f x = false) ∧ f x = false) (S.erase x) = cntN (fun f => C f ∧ f x = false) (S.erase x) := cnt_iff fun f => ⟨fun h => h.1, fun h => ⟨h, h.2⟩⟩
  rw [e1, e2, e3, e4]
  omega

/-! ### literals that are fixed -/
def LitsT (ls : List Int) (f : Asg) : Prop := ∀ x ∈ ls, litR f x = true
def updL : List Int → Asg → Asg
  | [], f => f
  | x :: r, f => updL r (upd f (varM x) (decide (0 < x)))
theorem updL_val : ∀ {ls : List Int} {f : Asg} {v : Int} {b : Bool}, (∀ x ∈ ls, varM x = v → decide (0 < x) = b) → ((∃ x ∈ ls, varM x = v) ∨ f v = b) → updL ls f v = b
  | [], f, v, b, _, h => by
    rcases h with ⟨x, hx, _⟩ | h
    · simp at hx
    · exact h
  | x :: r, f, v, b, hall, h => by
    show updL r (upd f (varM x) (decide (0 < x))) v = b
    refine updL_val (ls := r) (f := upd f (varM x) (decide (0 < x))) (fun y hy => hall y (List.mem_cons_of_mem _ hy)) ?_
    by_cases e : varM x = v
    · right
      subst e
      rw [upd_same]
      exact hall x (List.mem_cons_self ..) rfl
    · rcases h with ⟨y, hy, hv⟩ | h
      · rcases List.mem_cons.1 hy with rfl | hy
        · exact absurd hv e
        · exact .inl ⟨y, hy, hv⟩
      · right
        rw [upd_ne f _ (fun q => e q.symm)]
        exact h
theorem updL_inv {C : Asg → Prop} : ∀ {ls : List Int} {f : Asg}, (∀ x ∈ ls, Inv C (varM x)) → (C (updL ls f) ↔ C f)
  | [], f, _ => Iff.rfl
  | x :: r, f, h => Iff.trans (updL_inv (C := C) (ls := r) (f := upd f (varM x) (decide (0 < x))) (fun y (hy : y ∈ r) => h y (List.mem_cons_of_mem x hy))) (h x (List.mem_cons_self ..) f _)
/-- no literal and its negation -/
def Consist (ls : List Int) : Prop := (∀ x ∈ ls, x ≠ 0) ∧ ∀ x ∈ ls, -x ∉ ls
theorem Consist.sign {ls : List Int} (h : Consist ls) {x y : Int} (hx : x ∈ ls) (hy : y ∈ ls) (e : varM x = varM y) : decide (0 < x) = decide (0 < y) := by
  have h0 := h.1 x hx
  have h1 := h.1 y hy
  have : x = y ∨ x = -y := by
    unfold varM at e
    split at e <;> split at e <;> omega
  rcases this with rfl | rfl
  · rfl
  · exact absurd hx (h.2 y hy)
theorem updL_lits {ls : List Int} (h : Consist ls) (f : Asg) : LitsT ls (updL ls f) := fun x hx => by
  rw [lit_true (h.1 x hx)]
  exact updL_val (fun y hy e => h.sign hy hx e) (.inl ⟨x, hx, rfl⟩)
theorem lits_var {ls : List Int} {f : Asg} (h0 : ∀ x ∈ ls, x ≠ 0) : LitsT ls f ↔ ∀ x ∈ ls, f (varM x) = decide (0 < x) :=
  ⟨fun h x hx => (lit_true (h0 x hx)).1 (h x hx), fun h x hx => (lit_true (h0 x hx)).2 (h x hx)⟩
def fixB (ls : List Int) (v : Int) : Bool := ls.any fun x => varM x == v
theorem fixB_iff {ls : List Int} {v : Int} : fixB ls v = true ↔ ∃ x ∈ ls, varM x = v := by
  unfold fixB
  rw [List.any_eq_true]
  simp
theorem inv_and {C : Asg → Prop} {v w : Int} (h : Inv C w) (hne : w ≠ v) (b : Bool) : Inv (fun f => C f ∧ f v = b) w := fun f c => by
  show (C (upd f w c) ∧ upd f w c v = b) ↔ (C f ∧ f v = b)
  rw [upd_ne f c (fun e => hne e.symm)]
  exact and_congr_left fun _ => h f c
theorem cnt_lits {ls : List Int} (hc : Consist ls) : ∀ (S : List Int) {C : Asg → Prop}, (∀ x ∈ ls, Inv C (varM x)) → cntN (fun f => C f ∧ LitsT ls f) S = cntN C (S.filter fun v => !fixB ls v)
  | [], C, h => by
    rw [List.filter_nil, cntN, cntN]
    by_cases q : ∃ f, C f
    · obtain ⟨f, hf⟩ := q
      rw [if_pos ⟨updL ls f, (updL_inv h).2 hf, updL_lits hc f⟩, if_pos ⟨f, hf⟩]
    · rw [if_neg (fun ⟨f, hf⟩ => q ⟨f, hf.1⟩), if_neg q]
  | v :: r, C, h => by
    rw [cntN, List.filter_cons]
    by_cases hv : fixB ls v = true
    · rw [if_neg (by rw [hv]; simp)]
      obtain ⟨x, hx, e⟩ := fixB_iff.1 hv
      have ih := cnt_lits hc r h
      have h1 : ∀ b, cntN (fun f => (C f ∧ LitsT ls f) ∧ f v = b) r = if decide (0 < x) = b then cntN (fun f => C f ∧ LitsT ls f) r else 0 := fun b => by
        by_cases hb : decide (0 < x) = b
        · rw [if_pos hb]
          exact cnt_iff fun f => ⟨fun hf => hf.1, fun hf => ⟨hf, by rw [← e, ← hb]; exact (lits_var hc.1).1 hf.2 x hx⟩⟩
        · rw [if_neg hb]
          exact cnt_none (fun f hf => hb (by have := (lits_var hc.1).1 hf.1.2 x hx; rw [e, hf.2] at this; exact this.symm)) r
      rw [h1, h1, ih]
      rcases decide (0 < x) with _ | _ <;> simp
    · rw [if_pos (by simpa using hv), cntN]
      have hne : ∀ x ∈ ls, varM x ≠ v := fun x hx e => hv (fixB_iff.2 ⟨x, hx, e⟩)
      have h1 : ∀ b, cntN (fun f => (C f ∧ LitsT ls f) ∧ f v = b) r = cntN (fun f => (C f ∧ f v = b) ∧ LitsT ls f) r := fun b => cnt_iff fun f => ⟨fun ⟨⟨a, b⟩, c⟩ => ⟨⟨a, c⟩, b⟩, fun ⟨⟨a, b⟩, c⟩ => ⟨⟨a, c⟩, b⟩⟩
      rw [h1, h1, cnt_lits hc r fun x hx => inv_and (h x hx) (hne x hx) true, cnt_lits hc r fun x hx => inv_and (h x hx) (hne x hx) false]
/-- the residual by several literals -/
def resL (cs : List (List Int)) (ls : List Int) : List (List Int) := ls.foldl resM cs
def SmL (ls : List Int) : Prop := ∀ x ∈ ls, x ≠ 0 ∧ -20000 ≤ x ∧ x ≤ 20000
theorem resL_cn : ∀ {ls : List Int} {cs : List (List Int)}, Cn' cs → SmL ls → Cn' (resL cs ls) ∧ (∀ v ∈ occM (resL cs ls), v ∈ occM cs ∧ ∀ x ∈ ls, v ≠ varM x) ∧ ∀ f, LitsT ls f → (Ev (resL cs ls) f ↔ Ev cs f)
  | [], cs, h, _ => ⟨h, fun v hv => ⟨hv, by simp⟩, fun f _ => Iff.rfl⟩
  | x :: r, cs, h, hs => by
    have hx := hs x (List.mem_cons_self ..)
    obtain ⟨h1, h2, h3⟩ := resL_cn (ls := r) (cs := resM cs x) (h.res hx.2) fun y hy => hs y (List.mem_cons_of_mem _ hy)
    refine ⟨h1, fun v hv => ?_, fun f hf => ?_⟩
    · obtain ⟨h4, h5⟩ := h2 v hv
      obtain ⟨h6, h7⟩ := h.res_occ hx.2 h4
      exact ⟨h6, fun y hy => by
        rcases List.mem_cons.1 hy with rfl | hy
        · exact h7
        · exact h5 y hy⟩
    · refine (h3 f fun y hy => hf y (List.mem_cons_of_mem _ hy)).trans ?_
      show evR f (resM cs x) = true ↔ evR f cs = true
      rw [evR_res (sm_lit hx.2) hx.1 (hf x (List.mem_cons_self ..))]
/-- the projected count with literals -/
theorem with_count {cs : List (List Int)} {ls : List Int} (h : Cn' cs) (hs : SmL ls) (hc : Consist ls) (N : Nat) :
    ((cntN (fun f => Ev cs f ∧ LitsT ls f) (ivl 0 N) : Nat) : Int) = (Pc N (resL cs ls) : Int) * 2 ^ ((N : Int) - (keptM N (occM (resL cs ls))).length - ((ivl 0 N).filter (fixB ls)).length).toNat := by
  obtain ⟨h1, h2, h3⟩ := resL_cn h hs
  have hinv : ∀ x ∈ ls, Inv (Ev (resL cs ls)) (varM x) := fun x hx => h1.inv fun hm => (h2 _ hm).2 x hx rfl
  have e1 : cntN (fun f => Ev cs f ∧ LitsT ls f) (ivl 0 N) = cntN (fun f => Ev (resL cs ls) f ∧ LitsT ls f) (ivl 0 N) := cnt_iff fun f => ⟨fun hf => ⟨(h3 f hf.2).2 hf.1, hf.2⟩, fun hf => ⟨(h3 f hf.2).1 hf.1, hf.2⟩⟩
  rw [e1, cnt_lits hc _ hinv]
  generalize hR : resL cs ls = R at *
  have hn0 := (ivl_nodup N 0).filter fun v => !fixB ls v
  rw [cnt_skip _ (fun v => (occM R).contains v) (Ev R) hn0 fun v _ hp => h1.inv (by simpa using hp)]
  have hn := hn0.filter fun v => (occM R).contains v
  have hm : ∀ x, x ∈ ((ivl 0 N).filter fun v => !fixB ls v).filter (fun v => (occM R).contains v) ↔ x ∈ keptM N (occM R) := fun x => by
    rw [List.mem_filter, List.mem_filter, kept_mem, ivl_mem]
    constructor
    · rintro ⟨⟨q1, q2⟩, q3⟩
      exact ⟨by simpa using q3, by omega⟩
    · rintro ⟨q1, q2⟩
      have := occM_range q1
      refine ⟨⟨by omega, ?_⟩, by simpa using q1⟩
      rw [Bool.not_eq_true', Bool.eq_false_iff]
      intro hf
      obtain ⟨y, hy, e⟩ := fixB_iff.1 hf
      exact (h2 x q1).2 y hy e.symm
  have hp := (List.perm_ext_iff_of_nodup hn (kept_nodup (N : Int) R)).2 hm
  rw [cnt_perm hp]
  have hl := hp.length_eq
  have ht := filter_parts (fun v => (occM R).contains v) ((ivl 0 N).filter fun v => !fixB ls v)
  have ht2 := filter_parts (fixB ls) (ivl 0 N)
  rw [ivl_len] at ht2
  rw [hl] at ht
  show _ = ((cntN (Ev R) (keptM N (occM R)) : Nat) : Int) * _
  rw [show ((N : Int) - (keptM N (occM R)).length - ((ivl 0 N).filter (fixB ls)).length).toNat = (((ivl 0 N).filter fun v => !fixB ls v).filter fun v => !(occM R).contains v).length by omega, Int.mul_comm]
  simp
/-- literals that contradict -/
theorem with_none {cs : List (List Int)} {ls : List Int} {x : Int} (hx : x ∈ ls) (hy : -x ∈ ls) (h0 : x ≠ 0) (S : List Int) : cntN (fun f => Ev cs f ∧ LitsT ls f) S = 0 :=
  cnt_none (fun f hf => by
    have h1 := (lit_true h0).1 (hf.2 x hx)
    have h2 := (lit_true (by omega : -x ≠ 0)).1 (hf.2 (-x) hy)
    have e : varM (-x) = varM x := by unfold varM; split <;> split <;> omega
    rw [e, h1] at h2
    by_cases h : 0 < x
    · rw [decide_eq_true h, decide_eq_false (by omega)] at h2; cases h2
    · rw [decide_eq_false h, decide_eq_true (by omega)] at h2; cases h2) S
/-- the formula with literals as further clauses -/
theorem ev_with {cs : List (List Int)} {ls : List Int} (f : Asg) : Ev (canM (cs ++ ls.map fun x => [x])) f ↔ Ev cs f ∧ LitsT ls f := by
  show evR f (canM _) = true ↔ _
  rw [evR_can]
  unfold evR LitsT
  rw [List.all_append, Bool.and_eq_true]
  refine and_congr Iff.rfl ?_
  rw [List.all_map, List.all_eq_true]
  simp
/-- the projected count over 1..N of canonical clauses -/
theorem proj_cntM {cs : List (List Int)} (hc : Cn' cs) {N : Nat} (hN : N ≤ 1000000) : cntM ((occM cs).length + 1) (ivl 0 N) cs = cntN (Ev cs) (ivl 0 N) := by
  have hS : ∀ v ∈ occM cs, v ≤ 1000000 := fun v hv => by have := occM_range hv; omega
  exact cnt_eq _ (ivl 0 N) (occM cs) cs hc.1 hc.vs hS (Nat.lt_succ_self _) (ivl_nodup N 0) fun v hv => by rw [ivl_mem] at hv; omega
end Go.Proofs.YthanfjpmcckbhaaGreatDoor
