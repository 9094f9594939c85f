/- (Counter seat) Plain: the claims that the counter makes follow by their rules. No program in sight. -/
import Derived.Test.YthanfjpmcckbhaaGreatDoorVz
import Derived.Test.YthanfjpmcckbhaaGreatDoorVp
import Derived.Test.YthanfjpmcckbhaaGreatDoorYa
namespace Go.Proofs.YthanfjpmcckbhaaGreatDoor
open Go.RowKit
set_option linter.unusedVariables false

/-- every claim is accepted -/
def AccS (keep : Int) (ts : List Claim) : Prop := ∀ i : Nat, i < ts.length → ccM keep ts i = 0
theorem getD_app_left {α : Type} {l r : List α} {i : Nat} {d : α} (h : i < l.length) : (l ++ r).getD i d = l.getD i d := by
  rw [List.getD_eq_getElem?_getD, List.getElem?_append_left h, ← List.getD_eq_getElem?_getD]
theorem kidsM_app {ts r : List Claim} {c : Claim} (h : ∀ k ∈ c.kids, 0 ≤ k ∧ k < (ts.length : Int)) : kidsM (ts ++ r) c = kidsM ts c := by
  unfold kidsM
  refine List.map_congr_left fun k hk => ?_
  have := h k hk
  exact getD_app_left (by omega)
/-- what makes the claim number i be accepted -/
def Fits (keep : Int) (c : Claim) (ks : List Claim) : Prop :=
  canB c.cls = true ∧ 0 ≤ c.count ∧ c.count ≤ 2 ^ (keptM keep (occM c.cls)).length ∧ folM keep c ks (occM c.cls) = true
theorem cc_iff {keep : Int} {ts : List Claim} {i : Nat} (h0 : 0 ≤ keep) (h40 : keep ≤ 40) (hi : i < ts.length) (hk : ∀ k ∈ (ts.getD i clNil).kids, 0 ≤ k ∧ k < (i : Int)) :
    Fits keep (ts.getD i clNil) (kidsM ts (ts.getD i clNil)) → ccM keep ts i = 0 := by
  rintro ⟨h1, h2, h3, h4⟩
  unfold ccM
  rw [show ((i : Nat) : Int).toNat = i by omega]
  rw [if_neg (by omega), if_neg (by rw [h1]; simp), if_neg (by omega)]
  have : ((ts.getD i clNil).kids.any fun k => decide (k < 0) || decide ((i : Int) ≤ k)) = false := by
    rw [List.any_eq_false]
    intro k hkm
    have := hk k hkm
    simp
    omega
  rw [if_neg (by rw [this]; simp), if_neg (by rw [h4]; simp)]
theorem accS_snoc {keep : Int} {ts : List Claim} {c : Claim} (h0 : 0 ≤ keep) (h40 : keep ≤ 40) (h : AccS keep ts) (hk : ∀ k ∈ c.kids, 0 ≤ k ∧ k < (ts.length : Int)) (hf : Fits keep c (kidsM ts c)) : AccS keep (ts ++ [c]) := by
  intro i hi
  rw [List.length_append] at hi
  rcases Nat.lt_or_ge i ts.length with hlt | hge
  · have hg : (ts ++ [c]).getD i clNil = ts.getD i clNil := getD_app_left hlt
    obtain ⟨_, _, _, a1, a2, a3, a4, a5⟩ := cc_count (h i hlt)
    refine cc_iff h0 h40 (by rw [List.length_append]; simp; omega) (by rw [hg]; exact a4) ?_
    rw [hg, kidsM_app (fun k hk => by have := a4 k hk; omega)]
    exact ⟨a1, a2, a3, a5⟩
  · have e : i = ts.length := by simp at hi; omega
    subst e
    have hg : (ts ++ [c]).getD ts.length clNil = c := by rw [List.getD_eq_getElem?_getD, List.getElem?_append_right (Nat.le_refl _)]; simp
    refine cc_iff h0 h40 (by simp) (by rw [hg]; exact hk) ?_
    rw [hg, kidsM_app hk]
    exact hf
theorem cn_canB {cs : List (List Int)} (h : Cn' cs) : canB cs = true := by
  unfold canB
  rw [Bool.and_eq_true, List.all_eq_true]
  refine ⟨fun c hc => List.all_eq_true.2 fun x hx => ?_, by simp [h.1]⟩
  have := h.2 c hc x hx
  unfold litOk
  simp
  omega
theorem nodup_len_le : ∀ {l m : List Int}, l.Nodup → (∀ x ∈ l, x ∈ m) → l.length ≤ m.length
  | [], m, _, _ => Nat.zero_le _
  | a :: l, m, hn, h => by
    have ha := h a (List.mem_cons_self ..)
    have h1 := nodup_len_le (l := l) (m := m.erase a) (List.nodup_cons.1 hn).2 fun x hx => by
      have hne : x ≠ a := fun e => by subst e; exact (List.nodup_cons.1 hn).1 hx
      exact (List.mem_erase_of_ne hne).2 (h x (List.mem_cons_of_mem _ hx))
    have h2 := List.length_erase_of_mem ha
    have h3 : 0 < m.length := List.length_pos_of_mem ha
    rw [List.length_cons]
    omega
theorem dblM_pow : ∀ (t : Nat) (n : Int), 0 ≤ n → n * 2 ^ t ≤ 1099511627776 → dblM t n = n * 2 ^ t
  | 0, n, _, _ => by simp [dblM]
  | t + 1, n, h0, h => by
    have e : n * 2 ^ (t + 1) = n * 2 * 2 ^ t := by rw [Int.pow_succ, Int.mul_assoc, Int.mul_comm (2 ^ t) 2]
    have hp : (1 : Int) ≤ 2 ^ t := Int.pow_pos (by omega)
    have h1 : n * 2 * 1 ≤ n * 2 * 2 ^ t := Int.mul_le_mul_of_nonneg_left hp (by omega)
    rw [dblM, if_neg (by rw [e] at h; omega), dblM_pow t (n * 2) (by omega) (by rw [← e]; exact h), e]
theorem pow_le40 {t : Nat} (h : t ≤ 40) : ((2 : Int) ^ t) ≤ 1099511627776 := by
  have h1 : (2 ^ t : Nat) ≤ 2 ^ 40 := Nat.pow_le_pow_right (by omega) h
  have h2 : ((2 : Int) ^ t) = ((2 ^ t : Nat) : Int) := by simp
  have h3 : (2 ^ 40 : Nat) = 1099511627776 := rfl
  omega
theorem pow_mono {a b : Nat} (h : a ≤ b) : ((2 : Int) ^ a) ≤ 2 ^ b := by
  have h1 : (2 ^ a : Nat) ≤ 2 ^ b := Nat.pow_le_pow_right (by omega) h
  have h2 : ((2 : Int) ^ a) = ((2 ^ a : Nat) : Int) := by simp
  have h3 : ((2 : Int) ^ b) = ((2 ^ b : Nat) : Int) := by simp
  omega
theorem pow_pos' (a : Nat) : (1 : Int) ≤ 2 ^ a := Int.pow_pos (by omega)
/-- the free variables of a residual -/
def freeN (keep : Int) (l g : List (List Int)) (v : Int) : Nat := lostM v (keptM keep (occM l)) (occM g)
theorem free_sum {keep : Int} {l g : List (List Int)} {v : Int} (hg : ∀ x ∈ occM g, x ∈ occM l ∧ x ≠ v) :
    freeN keep l g v + (keptM keep (occM g)).length + (if v ∈ keptM keep (occM l) then 1 else 0) ≤ (keptM keep (occM l)).length := by
  unfold freeN lostM
  have hp : ∀ (p : Int → Bool) (K : List Int), K.length = (K.filter p).length + (K.filter fun x => !p x).length := by
    intro p K
    induction K with
    | nil => rfl
    | cons x r ih =>
      rw [List.filter_cons, List.filter_cons]
      rcases p x with _ | _ <;> simp <;> omega
  rw [hp (fun w => decide (w ≠ v) && !(occM g).contains w) (keptM keep (occM l))]
  have hn := kept_nodup keep g
  have hsub : ∀ x ∈ keptM keep (occM g), x ∈ (keptM keep (occM l)).filter fun x => !(decide (x ≠ v) && !(occM g).contains x) := fun x hx => by
    obtain ⟨h1, h2⟩ := kept_mem.1 hx
    refine List.mem_filter.2 ⟨kept_mem.2 ⟨(hg x h1).1, h2⟩, ?_⟩
    simp [h1]
  by_cases hv : v ∈ keptM keep (occM l)
  · rw [if_pos hv]
    have h1 : (v :: keptM keep (occM g)).Nodup := List.nodup_cons.2 ⟨fun h => (hg v (kept_mem.1 h).1).2 rfl, hn⟩
    have h2 := nodup_len_le h1 (m := (keptM keep (occM l)).filter fun x => !(decide (x ≠ v) && !(occM g).contains x)) fun x hx => by
      rcases List.mem_cons.1 hx with rfl | hx
      · exact List.mem_filter.2 ⟨hv, by simp⟩
      · exact hsub x hx
    rw [List.length_cons] at h2
    omega
  · rw [if_neg hv]
    have h2 := nodup_len_le hn hsub
    omega
theorem free_count {keep : Int} {l : List (List Int)} {v : Int} {k : Claim} (h40 : keep ≤ 40) (hg : ∀ x ∈ occM k.cls, x ∈ occM l ∧ x ≠ v) (hk : 0 ≤ k.count ∧ k.count ≤ 2 ^ (keptM keep (occM k.cls)).length) :
    0 ≤ k.count * 2 ^ freeN keep l k.cls v ∧ k.count * 2 ^ freeN keep l k.cls v * (if v ∈ keptM keep (occM l) then 2 else 1) ≤ 2 ^ (keptM keep (occM l)).length ∧ liftM keep v (occM l) k = k.count * 2 ^ freeN keep l k.cls v := by
  have hs := free_sum (keep := keep) hg
  have hl := kept_le40 (cs := l) h40
  have hp := pow_pos' (freeN keep l k.cls v)
  have h0 : 0 ≤ k.count * 2 ^ freeN keep l k.cls v := Int.mul_nonneg hk.1 (by omega)
  have h1 : k.count * 2 ^ freeN keep l k.cls v ≤ 2 ^ (keptM keep (occM k.cls)).length * 2 ^ freeN keep l k.cls v := Int.mul_le_mul_of_nonneg_right hk.2 (by omega)
  rw [← Int.pow_add] at h1
  have h2 : k.count * 2 ^ freeN keep l k.cls v * (if v ∈ keptM keep (occM l) then 2 else 1) ≤ 2 ^ (keptM keep (occM l)).length := by
    by_cases hv : v ∈ keptM keep (occM l)
    · rw [if_pos hv] at hs ⊢
      have h3 := pow_mono (a := (keptM keep (occM k.cls)).length + freeN keep l k.cls v + 1) (b := (keptM keep (occM l)).length) (by omega)
      rw [Int.pow_succ] at h3
      omega
    · rw [if_neg hv] at hs ⊢
      have h3 := pow_mono (a := (keptM keep (occM k.cls)).length + freeN keep l k.cls v) (b := (keptM keep (occM l)).length) (by omega)
      omega
  refine ⟨h0, h2, ?_⟩
  have h4 := pow_le40 hl
  unfold liftM
  exact dblM_pow _ _ hk.1 (by
    have : k.count * 2 ^ freeN keep l k.cls v ≤ 1099511627776 := by
      split at h2 <;> omega
    exact this)
/-- what is asked of a kid -/
def KidOk (keep : Int) (k : Claim) : Prop := 0 ≤ k.count ∧ k.count ≤ 2 ^ (keptM keep (occM k.cls)).length
theorem kid_top {keep : Int} {k : Claim} (h40 : keep ≤ 40) (h : KidOk keep k) : k.count ≤ 1099511627776 := Int.le_trans h.2 (pow_le40 (kept_le40 h40))
theorem kids_any {keep : Int} {ks : List Claim} (h40 : keep ≤ 40) (h : ∀ k ∈ ks, KidOk keep k) : ¬ (ks.any fun k => decide (k.count < 0) || decide (1099511627776 < k.count)) = true := by
  rw [Bool.not_eq_true, List.any_eq_false]
  intro k hk
  have h1 := (h k hk).1
  have h2 := kid_top h40 (h k hk)
  simp
  omega
theorem acc_kid {keep : Int} {ts : List Claim} (h : AccS keep ts) {k : Int} (hk : 0 ≤ k ∧ k < (ts.length : Int)) : KidOk keep (ts.getD k.toNat clNil) := by
  obtain ⟨_, _, _, _, h1, h2, _⟩ := cc_count (h k.toNat (by omega))
  exact ⟨h1, h2⟩
/-- the empty list -/
theorem fits_empty {keep : Int} : Fits keep ⟨[], 0, 0, [], 1⟩ [] := by
  refine ⟨by decide +kernel, by decide, ?_, ?_⟩
  · exact pow_pos' _
  · unfold folM
    rw [if_neg (by simp), if_pos rfl]
    rfl
/-- an empty clause -/
theorem fits_falsum {keep : Int} {l : List (List Int)} (hc : Cn' l) (he : ∃ c ∈ l, c.length = 0) : Fits keep ⟨l, 1, 0, [], 0⟩ [] := by
  refine ⟨cn_canB hc, by show (0 : Int) ≤ 0; omega, ?_, ?_⟩
  · have := pow_pos' (keptM keep (occM l)).length
    show (0 : Int) ≤ 2 ^ (keptM keep (occM l)).length
    omega
  · unfold folM
    rw [if_neg (by simp), if_neg (by simp), if_pos rfl]
    obtain ⟨c, hc, h0⟩ := he
    have : (l.any fun x => decide (x.length = 0)) = true := List.any_eq_true.2 ⟨c, hc, by simpa using h0⟩
    simp only
    rw [this]
    rfl
theorem varK_lit' {l : List (List Int)} {lit : Int} (h0 : lit ≠ 0) (hr : -20000 ≤ lit ∧ lit ≤ 20000) (h : varM lit ∈ occM l) : varK lit (occM l) = varM lit := by
  have key : ∀ {vs : List Int}, (∀ v ∈ vs, 1 ≤ v) → varM lit ∈ vs → varK lit vs = varM lit := by
    intro vs
    induction vs with
    | nil => intro _ h; simp at h
    | cons v r ih =>
      intro hv hm
      rw [varK]
      have h1 := hv v (List.mem_cons_self ..)
      split
      · rename_i e
        unfold varM
        split <;> omega
      · rename_i e
        rcases List.mem_cons.1 hm with h2 | h2
        · exfalso
          apply e
          unfold varM at h2
          split at h2 <;> omega
        · exact ih (fun x hx => hv x (List.mem_cons_of_mem _ hx)) h2
  exact key (fun v hv => (occM_range hv).1) h
/-- a clause of one literal -/
theorem fits_unit {keep : Int} {l : List (List Int)} (h40 : keep ≤ 40) (hc : Cn' l) {lit : Int} (hl : [lit] ∈ l) {k : Claim} (hk : KidOk keep k) (he : k.cls = resM l lit) (i : Int) :
    Fits keep ⟨l, 2, lit, [i], k.count * 2 ^ freeN keep l k.cls (varM lit)⟩ [k] := by
  have hlr := hc.2 _ hl lit (List.mem_cons_self ..)
  have ho : varM lit ∈ occM l := hc.mem.2 ⟨_, hl, lit, List.mem_cons_self .., rfl⟩
  have hg : ∀ x ∈ occM k.cls, x ∈ occM l ∧ x ≠ varM lit := fun x hx => by rw [he] at hx; exact hc.res_occ hlr.2 hx
  obtain ⟨f1, f2, f3⟩ := free_count h40 hg hk
  have hp : (1 : Int) ≤ if varM lit ∈ keptM keep (occM l) then 2 else 1 := by split <;> omega
  refine ⟨cn_canB hc, f1, ?_, ?_⟩
  · have := Int.mul_le_mul_of_nonneg_left hp f1
    show k.count * 2 ^ freeN keep l k.cls (varM lit) ≤ 2 ^ (keptM keep (occM l)).length
    omega
  · unfold folM
    rw [if_neg (kids_any h40 (by simpa using hk)), if_neg (show ¬ (2 : Int) = 0 by omega), if_neg (show ¬ (2 : Int) = 1 by omega), if_pos rfl]
    unfold unitM
    have hv := varK_lit' hlr.1 hlr.2 ho
    have hvp := occM_range ho
    have ha : (l.any fun x => x == [lit]) = true := List.any_eq_true.2 ⟨_, hl, by simp⟩
    show (if varK lit (occM l) = 0 ∨ ([k] : List Claim).length ≠ 1 ∨ (l.any fun x => x == [lit]) = false then false else resB ⟨l, 2, lit, [i], k.count * 2 ^ freeN keep l k.cls (varM lit)⟩ [k] 0 lit && (k.count * 2 ^ freeN keep l k.cls (varM lit) == liftM keep (varK lit (occM l)) (occM l) (([k] : List Claim).getD 0 clNil))) = true
    rw [if_neg (by rw [hv, ha]; simp; omega), hv]
    show ((k.cls == resM l lit) && (k.count * 2 ^ freeN keep l k.cls (varM lit) == liftM keep (varM lit) (occM l) k)) = true
    rw [f3, he]
    simp
/-- both values of a kept variable -/
theorem fits_decide {keep : Int} {l : List (List Int)} (h40 : keep ≤ 40) (hc : Cn' l) {v : Int} (hv : v ∈ keptM keep (occM l)) {a b : Claim} (ha : KidOk keep a) (hb : KidOk keep b) (hea : a.cls = resM l (-v)) (heb : b.cls = resM l v) (i j : Int) :
    Fits keep ⟨l, 3, v, [i, j], a.count * 2 ^ freeN keep l a.cls v + b.count * 2 ^ freeN keep l b.cls v⟩ [a, b] := by
  obtain ⟨ho, hvk⟩ := kept_mem.1 hv
  have hr := occM_range ho
  have hs := varM_self hr.1
  have hga : ∀ x ∈ occM a.cls, x ∈ occM l ∧ x ≠ v := fun x hx => by rw [hea] at hx; have := hc.res_occ (x := -v) ⟨by omega, by omega⟩ hx; rw [hs.2] at this; exact this
  have hgb : ∀ x ∈ occM b.cls, x ∈ occM l ∧ x ≠ v := fun x hx => by rw [heb] at hx; have := hc.res_occ (x := v) ⟨by omega, by omega⟩ hx; rw [hs.1] at this; exact this
  obtain ⟨f1, f2, f3⟩ := free_count h40 hga ha
  obtain ⟨g1, g2, g3⟩ := free_count h40 hgb hb
  rw [if_pos hv] at f2 g2
  refine ⟨cn_canB hc, by show (0 : Int) ≤ _ + _; omega, ?_, ?_⟩
  · show a.count * 2 ^ freeN keep l a.cls v + b.count * 2 ^ freeN keep l b.cls v ≤ 2 ^ (keptM keep (occM l)).length
    omega
  · unfold folM
    rw [if_neg (kids_any h40 (by intro k hk; simp at hk; rcases hk with rfl | rfl <;> assumption)), if_neg (show ¬ (3 : Int) = 0 by omega), if_neg (show ¬ (3 : Int) = 1 by omega), if_neg (show ¬ (3 : Int) = 2 by omega), if_pos rfl]
    have hvk' : varK v (occM l) = v := by rw [varK_lit' (by omega) ⟨by omega, by omega⟩ (by rw [hs.1]; exact ho), hs.1]
    unfold decM
    simp only [hvk']
    rw [if_neg]
    · show (decide (0 ≤ liftM keep v (occM l) a) && (decide (0 ≤ liftM keep v (occM l) b) && (a.count * 2 ^ freeN keep l a.cls v + b.count * 2 ^ freeN keep l b.cls v == liftM keep v (occM l) a + liftM keep v (occM l) b))) = true
      rw [f3, g3, decide_eq_true f1, decide_eq_true g1]
      simp
    · rintro (h | h | h | h | h | h)
      · omega
      · exact h rfl
      · omega
      · exact h rfl
      · have h : (a.cls == resM l (-v)) = false := h
        rw [hea] at h
        simp at h
      · have h : (b.cls == resM l v) = false := h
        rw [heb] at h
        simp at h
/-- no kept variables: one value -/
theorem fits_try {keep : Int} {l : List (List Int)} (h40 : keep ≤ 40) (hc : Cn' l) (hk0 : (keptM keep (occM l)).length = 0) {lit : Int} (h0 : lit ≠ 0) (hr : -20000 ≤ lit ∧ lit ≤ 20000) (ho : varM lit ∈ occM l) {k : Claim} (hk : KidOk keep k) (he : k.cls = resM l lit) (h1 : k.count = 1) (i : Int) :
    Fits keep ⟨l, 5, lit, [i], 1⟩ [k] := by
  refine ⟨cn_canB hc, by show (0 : Int) ≤ 1; omega, pow_pos' _, ?_⟩
  unfold folM
  rw [if_neg (kids_any h40 (by simpa using hk)), if_neg (show ¬ (5 : Int) = 0 by omega), if_neg (show ¬ (5 : Int) = 1 by omega), if_neg (show ¬ (5 : Int) = 2 by omega), if_neg (show ¬ (5 : Int) = 3 by omega), if_neg (show ¬ (5 : Int) = 4 by omega), if_pos rfl]
  unfold tryM
  have hv := varK_lit' h0 hr ho
  have hvp := occM_range ho
  simp only [hv]
  rw [if_neg]
  · show ((k.count == 1) && ((1 : Int) == 1)) = true
    rw [h1]; rfl
  · rintro (h | h | h | h)
    · omega
    · exact h rfl
    · omega
    · have h : (k.cls == resM l lit) = false := h
      rw [he] at h
      simp at h
theorem fits_both {keep : Int} {l : List (List Int)} (h40 : keep ≤ 40) (hc : Cn' l) {v : Int} (ho : v ∈ occM l) {a b : Claim} (ha : KidOk keep a) (hb : KidOk keep b) (hea : a.cls = resM l (-v)) (heb : b.cls = resM l v) (ha0 : a.count = 0) (hb0 : b.count = 0) (i j : Int) :
    Fits keep ⟨l, 6, v, [i, j], 0⟩ [a, b] := by
  have hr := occM_range ho
  have hs := varM_self hr.1
  refine ⟨cn_canB hc, by show (0 : Int) ≤ 0; omega, by have := pow_pos' (keptM keep (occM l)).length; show (0 : Int) ≤ 2 ^ (keptM keep (occM l)).length; omega, ?_⟩
  unfold folM
  rw [if_neg (kids_any h40 (by intro k hk; simp at hk; rcases hk with rfl | rfl <;> assumption)), if_neg (show ¬ (6 : Int) = 0 by omega), if_neg (show ¬ (6 : Int) = 1 by omega), if_neg (show ¬ (6 : Int) = 2 by omega), if_neg (show ¬ (6 : Int) = 3 by omega), if_neg (show ¬ (6 : Int) = 4 by omega), if_neg (show ¬ (6 : Int) = 5 by omega), if_pos rfl]
  have hvk' : varK v (occM l) = v := by rw [varK_lit' (by omega) ⟨by omega, by omega⟩ (by rw [hs.1]; exact ho), hs.1]
  unfold bothM
  simp only [hvk']
  rw [if_neg]
  · show ((a.count == 0) && ((b.count == 0) && ((0 : Int) == 0))) = true
    rw [ha0, hb0]; rfl
  · rintro (h | h | h | h | h)
    · omega
    · exact h rfl
    · exact h rfl
    · have h : (a.cls == resM l (-v)) = false := h
      rw [hea] at h
      simp at h
    · have h : (b.cls == resM l v) = false := h
      rw [heb] at h
      simp at h
/-- without kept variables a count is 0 or 1 -/
theorem kid_bit {keep : Int} {l : List (List Int)} {k : Claim} (hk : KidOk keep k) (hk0 : (keptM keep (occM l)).length = 0) (hg : ∀ x ∈ occM k.cls, x ∈ occM l) : k.count = 0 ∨ k.count = 1 := by
  have h1 := nodup_len_le (kept_nodup keep k.cls) (m := keptM keep (occM l)) fun x hx => kept_mem.2 ⟨hg x (kept_mem.1 hx).1, (kept_mem.1 hx).2⟩
  have h2 : (keptM keep (occM k.cls)).length = 0 := by omega
  have h3 := hk.2
  rw [h2] at h3
  have h4 := hk.1
  have : (2 : Int) ^ 0 = 1 := rfl
  omega
/-- parts without common variables -/
theorem disj_of : ∀ {ks : List Claim} {seen : List Int}, (∀ k ∈ ks, ∀ v ∈ occM k.cls, v ∉ seen) → ks.Pairwise Dj → disjGo ks seen = true
  | [], seen, _, _ => rfl
  | k :: r, seen, h, hp => by
    obtain ⟨h1, h2⟩ := List.pairwise_cons.1 hp
    rw [disjGo, if_neg]
    · refine disj_of (fun x hx v hv hs => ?_) h2
      rcases List.mem_append.1 hs with h3 | h3
      · exact h x (List.mem_cons_of_mem _ hx) v hv h3
      · exact h1 x hx v h3 hv
    · rw [Bool.not_eq_true, List.any_eq_false]
      intro v hv
      have := h k (List.mem_cons_self ..) v hv
      simpa using this
theorem canM_perm {l m : List (List Int)} (hc : canM l = l) (hp : m.Perm l) : canM m = l := by
  obtain ⟨h1, h2, _⟩ := (canGo_iff none l).1 ((canGo_canM l).2 hc)
  have hm : ∀ x ∈ m, oppM x = false ∧ Strict litC x := fun x hx => h1 x (hp.mem_iff.1 hx)
  unfold canM
  have e1 : (m.map claM) = m := by
    conv => rhs; rw [← List.map_id m]
    exact List.map_congr_left fun x hx => (hm x hx).2.cla
  have e2 : m.filter (fun c => !oppM c) = m := List.filter_eq_self.2 fun x hx => by rw [(hm x hx).1]; rfl
  rw [e1, e2]
  have e3 : srtC clsC m = l := (srtC_unique clsCmp hp.symm (Strict.weak clsCmp h2)).symm
  rw [e3]
  have := Strict.cptM clsCmp h2
  rw [Strict.srt clsCmp h2] at this
  exact this
theorem prodGo_of {cnt : Int} : ∀ {ks : List Claim} {p : Int}, 1 ≤ p → (∀ k ∈ ks, 1 ≤ k.count) → p * prodC ks ≤ 1099511627776 → cnt = p * prodC ks → prodGo cnt ks p = true
  | [], p, _, _, _, h => by rw [prodGo]; rw [prodC, Int.mul_one] at h; simpa using h
  | k :: r, p, hp, hk, hl, h => by
    have h1 := hk k (List.mem_cons_self ..)
    have hr := fun x hx => hk x (List.mem_cons_of_mem k hx)
    have hpos : ∀ {ks : List Claim}, (∀ k ∈ ks, 1 ≤ k.count) → 1 ≤ prodC ks := by
      intro ks
      induction ks with
      | nil => intro _; decide
      | cons a t ih =>
        intro h
        have h1 := h a (List.mem_cons_self ..)
        have h2 := ih fun x hx => h x (List.mem_cons_of_mem a hx)
        have h3 := Int.mul_le_mul h1 h2 (by omega) (by omega)
        rw [prodC]
        omega
    have h2 := hpos hr
    rw [prodC, ← Int.mul_assoc] at hl h
    have h3 : p * k.count * 1 ≤ p * k.count * prodC r := Int.mul_le_mul_of_nonneg_left h2 (Int.mul_nonneg (by omega) (by omega))
    have h4 : p ≤ p * k.count := by
      have := Int.mul_le_mul_of_nonneg_left h1 (show (0 : Int) ≤ p by omega)
      omega
    rw [prodGo, if_neg]
    · exact prodGo_of (by omega) hr hl h
    · have h5 : p ≤ 1099511627776 / k.count := (Int.le_ediv_iff_mul_le (by omega)).2 (by omega)
      omega
theorem prodC_le {keep : Int} : ∀ {ks : List Claim}, (∀ k ∈ ks, KidOk keep k) → 0 ≤ prodC ks ∧ prodC ks ≤ 2 ^ (keptK keep ks).length
  | [], _ => ⟨by decide, by show (1 : Int) ≤ 2 ^ 0; decide⟩
  | k :: r, h => by
    obtain ⟨h1, h2⟩ := h k (List.mem_cons_self ..)
    obtain ⟨h3, h4⟩ := prodC_le (keep := keep) fun x hx => h x (List.mem_cons_of_mem k hx)
    refine ⟨Int.mul_nonneg h1 h3, ?_⟩
    show k.count * prodC r ≤ 2 ^ (keptM keep (occM k.cls) ++ keptK keep r).length
    rw [List.length_append, Int.pow_add]
    exact Int.mul_le_mul h2 h4 h3 (by have := pow_pos' (keptM keep (occM k.cls)).length; omega)
theorem fits_split {keep : Int} {l : List (List Int)} (h40 : keep ≤ 40) (hc : Cn' l) {ks : List Claim} (h2 : 2 ≤ ks.length) (hk : ∀ k ∈ ks, KidOk keep k) (hd : ks.Pairwise Dj) (hp : (allM ks).Perm l) (hsub : ∀ k ∈ ks, ∀ x ∈ occM k.cls, x ∈ occM l) (is : List Int) :
    Fits keep ⟨l, 4, 0, is, prodC ks⟩ ks := by
  obtain ⟨h3, h4⟩ := prodC_le hk
  have hl : (keptK keep ks).length ≤ (keptM keep (occM l)).length := nodup_len_le (keptK_nodup hd) fun x hx => by
    obtain ⟨⟨k, hk, hx⟩, hx2⟩ := keptK_mem.1 hx
    exact kept_mem.2 ⟨hsub k hk x hx, hx2⟩
  have h5 := Int.le_trans h4 (pow_mono hl)
  refine ⟨cn_canB hc, h3, h5, ?_⟩
  unfold folM
  rw [if_neg (kids_any h40 hk), if_neg (show ¬ (4 : Int) = 0 by omega), if_neg (show ¬ (4 : Int) = 1 by omega), if_neg (show ¬ (4 : Int) = 2 by omega), if_neg (show ¬ (4 : Int) = 3 by omega), if_pos rfl]
  unfold splitM
  have e1 : disjGo ks [] = true := disj_of (fun k _ v _ => by simp) hd
  have e2 := canM_perm hc.1 hp
  rw [if_neg (by simp; omega), if_neg (by rw [e1]; simp), if_neg (by rw [e2, hp.length_eq]; simp)]
  split
  · rename_i hz
    obtain ⟨k, hk, h0⟩ := List.any_eq_true.1 hz
    show (prodC ks == 0) = true
    rw [prodC_zero ⟨k, hk, of_decide_eq_true h0⟩]
    rfl
  · rename_i hz
    rw [Bool.not_eq_true, List.any_eq_false] at hz
    refine prodGo_of (by omega) (fun k hkk => ?_) ?_ (Int.one_mul _).symm
    · have h6 := hz k hkk
      have h7 := (hk k hkk).1
      simp at h6
      omega
    · rw [Int.one_mul]
      exact Int.le_trans h5 (pow_le40 (kept_le40 h40))

/- (Counter seat) Plain: the parts of a list of clauses; how many claims are made. No program in sight. -/
open Go.RowKit
set_option linter.unusedVariables false

/-! ### kept variables are a prefix -/
theorem kept_take {keep : Int} : ∀ {l : List Int}, l.Pairwise (· < ·) → ∀ {n : Nat}, n ≤ l.length → (∀ j, j < n → l.getD j 0 < keep + 1) → (∀ j, n ≤ j → j < l.length → keep + 1 ≤ l.getD j 0) → l.take n = keptM keep l
  | [], _, n, h, _, _ => by
    have : n = 0 := by simpa using h
    subst this
    rfl
  | x :: r, hs, 0, h, _, h2 => by
    have : ∀ y ∈ x :: r, ¬ y ≤ keep := fun y hy => by
      obtain ⟨j, hj, e⟩ := List.mem_iff_getElem.1 hy
      have := h2 j (Nat.zero_le _) hj
      rw [List.getD_eq_getElem?_getD, List.getElem?_eq_getElem hj] at this
      simp [e] at this
      omega
    unfold keptM
    rw [List.take_zero]
    symm
    rw [List.filter_eq_nil_iff]
    intro y hy
    simpa using this y hy
  | x :: r, hs, n + 1, h, h1, h2 => by
    have hx : x ≤ keep := by
      have := h1 0 (by omega)
      simp at this
      omega
    have ih := kept_take (keep := keep) (l := r) (List.pairwise_cons.1 hs).2 (n := n) (by simpa using h) (fun j hj => by have := h1 (j + 1) (by omega); simpa using this) (fun j hj hl => by have := h2 (j + 1) (by omega) (by simpa using hl); simpa using this)
    rw [List.take_succ_cons, ih]
    unfold keptM
    rw [List.filter_cons, if_pos (by simpa using hx)]

/-! ### parts -/
theorem flat_perm {n : Nat} {f : Nat → Nat} (hlt : ∀ i, i < n → f i < n) (hid : ∀ i, i < n → f (f i) = f i) : (groupsOf n f).flatten.Perm (List.range n) := by
  refine (List.perm_ext_iff_of_nodup ?_ List.nodup_range).2 fun i => ?_
  · unfold groupsOf
    rw [← List.flatMap_def]
    have h1 : ((List.range n).filter fun i => f i == i).Nodup := List.nodup_range.filter _
    generalize (List.range n).filter (fun i => f i == i) = rs at h1
    induction rs with
    | nil => simp
    | cons r rs ih =>
      rw [List.flatMap_cons]
      obtain ⟨h2, h3⟩ := List.nodup_cons.1 h1
      refine List.nodup_append.2 ⟨List.nodup_range.filter _, ih h3, fun a ha b hb e => ?_⟩
      subst e
      obtain ⟨q, hq, hb⟩ := List.mem_flatMap.1 hb
      have e1 := (List.mem_filter.1 ha).2
      have e2 := (List.mem_filter.1 hb).2
      simp at e1 e2
      rw [e1] at e2
      subst e2
      exact h2 hq
  · unfold groupsOf
    rw [← List.flatMap_def, List.mem_flatMap, List.mem_range]
    constructor
    · rintro ⟨r, hr, hi⟩
      exact List.mem_range.1 (List.mem_filter.1 hi).1
    · intro hi
      refine ⟨f i, List.mem_filter.2 ⟨List.mem_range.2 (hlt i hi), by simpa using hid i hi⟩, List.mem_filter.2 ⟨List.mem_range.2 hi, by simp⟩⟩
/-- the clauses of a part -/
def pick (l : List (List Int)) (is : List Nat) : List (List Int) := is.map fun i => l.getD i []
theorem pick_range (l : List (List Int)) : pick l (List.range l.length) = l := by
  unfold pick
  apply List.ext_getElem?
  intro i
  rw [List.getElem?_map]
  by_cases h : i < l.length
  · rw [List.getElem?_range h]
    simp [List.getD_eq_getElem?_getD, List.getElem?_eq_getElem h]
  · rw [List.getElem?_eq_none (by simpa using h), List.getElem?_eq_none (by simpa using h)]
    rfl
theorem pick_sub {l : List (List Int)} {is : List Nat} (h : is.Sublist (List.range l.length)) : (pick l is).Sublist l := by
  have := h.map fun i => l.getD i []
  show ((is.map fun i => l.getD i [])).Sublist l
  conv => rhs; rw [← pick_range l]
  exact this
theorem cn_sub {l m : List (List Int)} (hc : Cn' l) (h : m.Sublist l) : Cn' m := by
  refine ⟨(canGo_canM m).1 ((canGo_iff none m).2 ?_), fun c hc' x hx => hc.2 c (h.subset hc') x hx⟩
  obtain ⟨h1, h2, _⟩ := (canGo_iff none l).1 ((canGo_canM l).2 hc.1)
  exact ⟨fun x hx => h1 x (h.subset hx), List.Pairwise.sublist h h2, fun q hq => by cases hq⟩
theorem pick_perm {l : List (List Int)} {f : Nat → Nat} (hlt : ∀ i, i < l.length → f i < l.length) (hid : ∀ i, i < l.length → f (f i) = f i) : ((groupsOf l.length f).flatMap (pick l)).Perm l := by
  have := (flat_perm hlt hid).map fun i => l.getD i []
  rw [← List.flatMap_id', List.map_flatMap] at this
  have e : (List.range l.length).map (fun i => l.getD i []) = l := pick_range l
  rw [e] at this
  exact this
theorem group_sub {n : Nat} {f : Nat → Nat} {is : List Nat} (h : is ∈ groupsOf n f) : is.Sublist (List.range n) := by
  unfold groupsOf at h
  obtain ⟨r, _, rfl⟩ := List.mem_map.1 h
  exact List.filter_sublist
theorem group_root {n : Nat} {f : Nat → Nat} {is : List Nat} (h : is ∈ groupsOf n f) : ∃ r, r < n ∧ f r = r ∧ ∀ i, i ∈ is ↔ i < n ∧ f i = r := by
  unfold groupsOf at h
  obtain ⟨r, hr, rfl⟩ := List.mem_map.1 h
  obtain ⟨h1, h2⟩ := List.mem_filter.1 hr
  exact ⟨r, List.mem_range.1 h1, by simpa using h2, fun i => by rw [List.mem_filter, List.mem_range]; simp⟩
theorem groups_disj {n : Nat} {f : Nat → Nat} : (groupsOf n f).Pairwise fun a b => ∀ i ∈ a, ∀ k ∈ b, f i ≠ f k := by
  unfold groupsOf
  rw [List.pairwise_map]
  have h1 : ((List.range n).filter fun i => f i == i).Nodup := List.nodup_range.filter _
  refine h1.imp fun {a b} hab i hi k hk e => hab ?_
  have e1 := (List.mem_filter.1 hi).2
  have e2 := (List.mem_filter.1 hk).2
  simp at e1 e2
  omega

/-! ### how many claims -/
def capT (v : Nat) : Nat := 2 ^ (v + 1) - 1
theorem two_pow (v : Nat) : 2 ^ (v + 1) = 2 * 2 ^ v := by rw [Nat.pow_succ, Nat.mul_comm]
theorem pow_one (v : Nat) : 1 ≤ 2 ^ v := Nat.one_le_two_pow
theorem capT_pos (v : Nat) : 1 ≤ capT v := by unfold capT; have := two_pow v; have := pow_one v; omega
theorem capT_le {a b : Nat} (h : a ≤ b) : capT a ≤ capT b := by
  unfold capT
  have : 2 ^ (a + 1) ≤ 2 ^ (b + 1) := Nat.pow_le_pow_right (by omega) (by omega)
  omega
theorem capT_one {v w : Nat} (h : w < v) : 1 + capT w ≤ capT v := by
  unfold capT
  have h1 : 2 ^ (w + 1) ≤ 2 ^ v := Nat.pow_le_pow_right (by omega) h
  have h2 := two_pow v
  have h3 := pow_one (w + 1)
  omega
theorem capT_two {v w u : Nat} (h : w < v) (h' : u < v) : 1 + (capT w + capT u) ≤ capT v := by
  unfold capT
  have h1 : 2 ^ (w + 1) ≤ 2 ^ v := Nat.pow_le_pow_right (by omega) h
  have h1' : 2 ^ (u + 1) ≤ 2 ^ v := Nat.pow_le_pow_right (by omega) h'
  have h2 := two_pow v
  have h3 := pow_one (w + 1)
  have h4 := pow_one (u + 1)
  omega
theorem capT_add {a b : Nat} (ha : 1 ≤ a) (hb : 1 ≤ b) : capT a + capT b + 1 ≤ capT (a + b) := by
  unfold capT
  have e : 2 ^ (a + b + 1) = 2 * (2 ^ a * 2 ^ b) := by rw [← Nat.pow_add, two_pow]
  have h1 := two_pow a
  have h2 := two_pow b
  have h3 : 2 ≤ 2 ^ a := by
    have : 2 ^ 1 ≤ 2 ^ a := Nat.pow_le_pow_right (by omega) ha
    simpa using this
  have h4 : 2 ≤ 2 ^ b := by
    have : 2 ^ 1 ≤ 2 ^ b := Nat.pow_le_pow_right (by omega) hb
    simpa using this
  have h5 : 2 ^ a + 2 ^ b ≤ 2 ^ a * 2 ^ b := by
    generalize 2 ^ a = x at *
    generalize 2 ^ b = y at *
    obtain ⟨p, rfl⟩ : ∃ p, x = p + 2 := ⟨x - 2, by omega⟩
    obtain ⟨q, rfl⟩ : ∃ q, y = q + 2 := ⟨y - 2, by omega⟩
    rw [Nat.add_mul, Nat.mul_add, Nat.mul_add]
    have : 0 ≤ p * q := Nat.zero_le _
    omega
  omega
theorem capT_sum : ∀ {vs : List Nat}, (∀ v ∈ vs, 1 ≤ v) → vs ≠ [] → (vs.map capT).sum + vs.length ≤ capT vs.sum + 1
  | [], _, h => absurd rfl h
  | [v], _, _ => by simp
  | v :: u :: r, h, _ => by
    have ih := capT_sum (vs := u :: r) (fun x hx => h x (List.mem_cons_of_mem _ hx)) (by simp)
    have h1 := h v (List.mem_cons_self ..)
    have h2 : 1 ≤ (u :: r).sum := by
      have := h u (List.mem_cons_of_mem _ (List.mem_cons_self ..))
      rw [List.sum_cons]; omega
    have h3 := capT_add h1 h2
    rw [List.map_cons, List.sum_cons, List.length_cons, List.sum_cons]
    omega
end Go.Proofs.YthanfjpmcckbhaaGreatDoor
