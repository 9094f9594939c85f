/- Plain: a core has no model, and without any one of its clauses it has one; parts of a canonical formula are canonical. No program in sight. -/
import Derived.Test.YtjbhglmmakkkgaaSe
import Derived.Test.YtjbhglmmakkkgaaSv
namespace Go.Proofs.Ytjbhglmmakkkgaa
/-! ### order of clauses -/
theorem litC_trans {a b c : Int} (h1 : litC a b < 0) (h2 : litC b c < 0) : litC a c < 0 := by
  rw [litC_lt] at *
  omega
theorem cls_trans : ∀ (a b c : List Int), clsC a b < 0 → clsC b c < 0 → clsC a c < 0
  | [], [], _, h, _ => by simp [clsC] at h
  | _ :: _, [], _, h, _ => by simp [clsC] at h
  | [], _ :: _, [], _, h => by simp [clsC] at h
  | [], _ :: _, _ :: _, _, _ => by simp [clsC]
  | _ :: _, _ :: _, [], _, h => by simp [clsC] at h
  | x :: a, y :: b, z :: c, h1, h2 => by
    rw [clsC] at *
    by_cases e1 : x = y
    · subst e1
      rw [if_neg (by simpa using litC_zero.2 rfl)] at h1
      by_cases e2 : x = z
      · subst e2
        rw [if_neg (by simpa using litC_zero.2 rfl)] at h2 ⊢
        exact cls_trans a b c h1 h2
      · have : litC x z ≠ 0 := fun h => e2 (litC_zero.1 h)
        rw [if_pos this] at h2 ⊢
        exact h2
    · have n1 : litC x y ≠ 0 := fun h => e1 (litC_zero.1 h)
      rw [if_pos n1] at h1
      by_cases e2 : y = z
      · subst e2
        rw [if_pos n1]
        exact h1
      · have n2 : litC y z ≠ 0 := fun h => e2 (litC_zero.1 h)
        rw [if_pos n2] at h2
        have h3 := litC_trans h1 h2
        rw [if_pos (by omega)]
        exact h3
/-- a canonical list: each clause well formed, strictly ascending -/
theorem can_iff : ∀ (cs : List (List Int)) (q : List Int), canGo (some q) cs = true ↔ (∀ c ∈ cs, oppM c = false ∧ srtM c = true) ∧ (q :: cs).Pairwise fun a b => clsC a b < 0
  | [], q => by simp [canGo]
  | x :: r, q => by
    rw [canGo, Bool.and_eq_true, Bool.and_eq_true, can_iff r x]
    simp only [Bool.not_eq_true', Bool.or_eq_false_iff, decide_eq_false_iff_not, Int.not_le]
    constructor
    · rintro ⟨⟨h1, h2⟩, h3, h4, h5⟩
      refine ⟨fun c hc => ?_, List.pairwise_cons.2 ⟨fun c hc => ?_, h5⟩⟩
      · rcases List.mem_cons.1 hc with rfl | hc
        · exact ⟨h2, h3⟩
        · exact h4 c hc
      · rcases List.mem_cons.1 hc with rfl | hc
        · exact h1
        · exact cls_trans q x c h1 ((List.pairwise_cons.1 h5).1 c hc)
    · rintro ⟨h1, h23⟩
      obtain ⟨h2, h3⟩ := List.pairwise_cons.1 h23
      exact ⟨⟨h2 x (by simp), (h1 x (by simp)).1⟩, (h1 x (by simp)).2, fun c hc => h1 c (by simp [hc]), h3⟩
theorem can_iff0 (cs : List (List Int)) : canGo none cs = true ↔ (∀ c ∈ cs, oppM c = false ∧ srtM c = true) ∧ cs.Pairwise fun a b => clsC a b < 0 := by
  cases cs with
  | nil => simp [canGo]
  | cons x r =>
    rw [canGo, Bool.and_eq_true, Bool.and_eq_true, can_iff]
    simp only [Bool.not_eq_true']
    constructor
    · rintro ⟨h1, h2, h3, h4⟩
      refine ⟨fun c hc => ?_, h4⟩
      rcases List.mem_cons.1 hc with rfl | hc
      · exact ⟨h1, h2⟩
      · exact h3 c hc
    · rintro ⟨h1, h2⟩
      exact ⟨(h1 x (by simp)).1, (h1 x (by simp)).2, fun c hc => h1 c (by simp [hc]), h2⟩
/-- a part of a valid formula is valid -/
theorem check_sub {V : Nat} {keep : Int} {cs ds : List (List Int)} (h : checkM V keep cs = 0) (hs : ds.Sublist cs) : checkM V keep ds = 0 := by
  rw [← valid_check] at h ⊢
  unfold validM at *
  by_cases h1 : (V : Int) < 0 ∨ 20000 < (V : Int) ∨ keep < 0 ∨ (V : Int) < keep ∨ 60000 < cs.length
  · rw [if_pos h1] at h; cases h
  · have := hs.length_le
    rw [if_neg h1] at h
    rw [if_neg (by omega)]
    rw [valid_eq0, can_iff0] at h ⊢
    obtain ⟨h2, h3, h4⟩ := h
    refine ⟨?_, fun c hc => h3 c (hs.subset hc), h4.sublist hs⟩
    rw [List.any_eq_false] at h2 ⊢
    exact fun c hc => h2 c (hs.subset hc)

/-! ### the core -/
/-- the clauses at places -/
def pick (cs : List (List Int)) : List Int → List (List Int)
  | [] => []
  | k :: r => cs.getD k.toNat [] :: pick cs r
theorem pick_app (cs : List (List Int)) : ∀ (a b : List Int), pick cs (a ++ b) = pick cs a ++ pick cs b
  | [], _ => rfl
  | k :: r, b => by rw [List.cons_append, pick, pick, pick_app cs r, List.cons_append]
theorem left_mem : ∀ (D : List Bool) (k : Nat) (l : Int), l ∈ leftGo D k ↔ ∃ j, D[j]? = some false ∧ l = ((k + j : Nat) : Int)
  | [], k, l => by simp [leftGo]
  | d :: r, k, l => by
    have ih := left_mem r (k + 1) l
    have key : (∃ j, (d :: r)[j]? = some false ∧ l = ((k + j : Nat) : Int)) ↔ (d = false ∧ l = (k : Int)) ∨ ∃ j, r[j]? = some false ∧ l = ((k + 1 + j : Nat) : Int) := by
      constructor
      · rintro ⟨j, h1, h2⟩
        rcases j with _ | j
        · exact .inl ⟨by simpa using h1, by simpa using h2⟩
        · exact .inr ⟨j, by simpa using h1, by rw [h2]; congr 1; omega⟩
      · rintro (⟨h1, h2⟩ | ⟨j, h1, h2⟩)
        · exact ⟨0, by simp [h1], by simpa using h2⟩
        · exact ⟨j + 1, by simpa using h1, by rw [h2]; congr 1; omega⟩
    rw [key, leftGo]
    split
    · rename_i h
      rw [ih]
      constructor
      · exact .inr
      · rintro (h1 | h1)
        · rw [h] at h1; cases h1.1
        · exact h1
    · rename_i h
      rw [List.mem_cons, ih]
      constructor
      · rintro (h1 | h1)
        · exact .inl ⟨by simpa using h, h1⟩
        · exact .inr h1
      · rintro (h1 | h1)
        · exact .inl h1.2
        · exact .inr h1
theorem left_asc : ∀ (D : List Bool) (k : Nat), (leftGo D k).Pairwise (· < ·) ∧ ∀ l ∈ leftGo D k, (k : Int) ≤ l
  | [], k => by simp [leftGo]
  | d :: r, k => by
    obtain ⟨h1, h2⟩ := left_asc r (k + 1)
    rw [leftGo]
    split
    · exact ⟨h1, fun l hl => by have := h2 l hl; omega⟩
    · refine ⟨List.pairwise_cons.2 ⟨fun l hl => by have := h2 l hl; omega, h1⟩, fun l hl => ?_⟩
      rcases List.mem_cons.1 hl with rfl | hl
      · omega
      · have := h2 l hl; omega
/-- what dropping keeps: the rest has no model -/
theorem drop_inv {V : Nat} {cs : List (List Int)} (hcs : LitsOk V cs) : ∀ (f i : Nat) (dr : List Bool), dr.length = cs.length → i + f = cs.length → (∀ k, i ≤ k → dr.getD k false = false) →
    (∀ x : List Bool, x.length = V → ∃ j c, cs[j]? = some c ∧ dr.getD j false = false ∧ c.any (litT x) = false) →
    (∀ x : List Bool, x.length = V → ∃ j c, cs[j]? = some c ∧ (dropGo V cs f i dr).getD j false = false ∧ c.any (litT x) = false) ∧
    (∀ j, i ≤ j → j < cs.length → (dropGo V cs f i dr).getD j false = false → ∃ x : List Bool, x.length = V ∧ ∀ k c, cs[k]? = some c → k ≠ j → (dropGo V cs f i dr).getD k false = false → c.any (litT x) = true)
  | 0, i, dr, hl, hi, hz, hu => ⟨hu, fun j h1 h2 => by omega⟩
  | f + 1, i, dr, hl, hi, hz, hu => by
    obtain ⟨d, hd⟩ : ∃ d, (solveM V (restGo dr i cs 0) []).1.isNone = d := ⟨_, rfl⟩
    have hsat : d = false ↔ ∃ x : List Bool, x.length = V ∧ ∀ k c, cs[k]? = some c → k ≠ i → dr.getD k false = false → c.any (litT x) = true := by
      have h1 := sat_iff (restLits (dr := dr) (i := i) hcs)
      have h2 : d = false ↔ (solveM V (restGo dr i cs 0) []).1.isSome = true := by
        rw [← hd]
        cases (solveM V (restGo dr i cs 0) []).1 <;> simp
      rw [h2, h1]
      constructor
      · rintro ⟨x, k1, k2⟩
        refine ⟨x, k1, fun k c hc hk hdk => ?_⟩
        exact model_iff.1 k2 c ((rest_mem cs 0 c).2 ⟨k, hc, by omega, by rwa [Nat.zero_add]⟩)
      · rintro ⟨x, k1, k2⟩
        refine ⟨x, k1, model_iff.2 fun c hc => ?_⟩
        obtain ⟨k, h3, h4, h5⟩ := (rest_mem cs 0 c).1 hc
        rw [Nat.zero_add] at h4 h5
        exact k2 k c h3 h4 h5
    have hset : ∀ j, (dr.set i d).getD j false = if j = i then d else dr.getD j false := fun j => by
      rw [List.getD, List.getElem?_set]
      by_cases e : i = j
      · subst e
        rw [if_pos rfl, if_pos (by omega), if_pos rfl]
        rfl
      · rw [if_neg e, if_neg (fun h => e h.symm)]
        rfl
    have hu2 : ∀ x : List Bool, x.length = V → ∃ j c, cs[j]? = some c ∧ (dr.set i d).getD j false = false ∧ c.any (litT x) = false := by
      intro x hx
      by_cases hdd : d = false
      · obtain ⟨j, c, h1, h2, h3⟩ := hu x hx
        refine ⟨j, c, h1, ?_, h3⟩
        rw [hset]
        split
        · exact hdd
        · exact h2
      · have hno : ¬ ∃ x : List Bool, x.length = V ∧ ∀ k c, cs[k]? = some c → k ≠ i → dr.getD k false = false → c.any (litT x) = true := fun h => by
          exact hdd (hsat.2 h)
        by_cases hq : ∃ k c, cs[k]? = some c ∧ k ≠ i ∧ dr.getD k false = false ∧ c.any (litT x) = false
        · obtain ⟨k, c, h1, h2, h3, h4⟩ := hq
          refine ⟨k, c, h1, ?_, h4⟩
          rw [hset, if_neg h2]
          exact h3
        · exact absurd ⟨x, hx, fun k c h1 h2 h3 => by
            rcases h4 : c.any (litT x) with _ | _
            · exact absurd ⟨k, c, h1, h2, h3, h4⟩ hq
            · rfl⟩ hno
    have hz2 : ∀ k, i + 1 ≤ k → (dr.set i d).getD k false = false := fun k hk => by rw [hset, if_neg (by omega)]; exact hz k (by omega)
    obtain ⟨i1, i2⟩ := drop_inv hcs f (i + 1) (dr.set i d) (by simpa using hl) (by omega) hz2 hu2
    have hE : dropGo V cs (f + 1) i dr = dropGo V cs f (i + 1) (dr.set i d) := by rw [dropGo, hd]
    rw [hE]
    have hmono : ∀ j, (dr.set i d).getD j false = true → j < i + 1 → (dropGo V cs f (i + 1) (dr.set i d)).getD j false = true := fun j h1 h2 => by
      rw [List.getD, dropGo_low f (i + 1) _ j h2]
      exact h1
    refine ⟨i1, fun j h1 h2 h3 => ?_⟩
    · by_cases e : j = i
      · subst e
        have hdf : d = false := by
          rw [List.getD, dropGo_low f (j + 1) _ j (by omega)] at h3
          have := hset j
          rw [if_pos rfl] at this
          rw [← this]
          exact h3
        obtain ⟨x, k1, k2⟩ := hsat.1 hdf
        refine ⟨x, k1, fun k c hc hk hD => k2 k c hc hk ?_⟩
        rcases hdk : dr.getD k false with _ | _
        · rfl
        · exfalso
          have hs : (dr.set j d).getD k false = true := by rw [hset, if_neg hk]; exact hdk
          rcases Nat.lt_or_ge k (j + 1) with h5 | h5
          · rw [hmono k hs h5] at hD; cases hD
          · rw [hz k (by omega)] at hdk; cases hdk
      · exact i2 j (by omega) h2 h3
/-- Core's result as a list of places: no model together, one without any of them -/
theorem core_needed {V : Nat} {cs : List (List Int)} (hcs : LitsOk V cs) (h : (solveM V cs []).1 = none) :
    ∃ D : List Bool, D.length = cs.length ∧ dropGo V cs cs.length 0 (List.replicate cs.length false) = D ∧
    (∀ x : List Bool, x.length = V → ∃ j c, cs[j]? = some c ∧ D.getD j false = false ∧ c.any (litT x) = false) ∧
    (∀ j, j < cs.length → D.getD j false = false → ∃ x : List Bool, x.length = V ∧ ∀ k c, cs[k]? = some c → k ≠ j → D.getD k false = false → c.any (litT x) = true) := by
  have h0 : ∀ k, (List.replicate cs.length false).getD k false = false := fun k => by
    rw [List.getD, List.getElem?_replicate]
    split <;> rfl
  obtain ⟨h1, h2⟩ := drop_inv hcs cs.length 0 (List.replicate cs.length false) (by simp) (by omega) (fun k _ => h0 k) (fun x hx => by
    have hno : ¬ (solveM V cs []).1.isSome = true := by rw [h]; simp
    rw [sat_iff hcs] at hno
    have hm : modelB cs x = false := by
      rcases hmm : modelB cs x with _ | _
      · rfl
      · exact absurd ⟨x, hx, hmm⟩ hno
    have := List.all_eq_false.1 hm
    obtain ⟨c, hc, hf⟩ := this
    obtain ⟨j, hj, he⟩ := List.getElem_of_mem hc
    exact ⟨j, c, by rw [List.getElem?_eq_getElem hj, he], h0 j, by simpa using hf⟩)
  exact ⟨_, by rw [dropGo_len]; simp, rfl, h1, fun j hj => h2 j (Nat.zero_le _) hj⟩
/-- picking at ascending places is a part -/
theorem pick_sub {cs : List (List Int)} : ∀ (ls : List Int) (k : Nat), ls.Pairwise (· < ·) → (∀ l ∈ ls, (k : Int) ≤ l ∧ l < cs.length) → (pick cs ls).Sublist (cs.drop k)
  | [], k, _, _ => List.nil_sublist _
  | l :: r, k, hp, h => by
    obtain ⟨h1, h2⟩ := h l (by simp)
    obtain ⟨hp1, hp2⟩ := List.pairwise_cons.1 hp
    obtain ⟨n, rfl⟩ := Int.eq_ofNat_of_zero_le (show 0 ≤ l by omega)
    have hn : n < cs.length := by omega
    have ih := pick_sub (cs := cs) r (n + 1) hp2 fun y hy => ⟨by have := hp1 y hy; omega, (h y (by simp [hy])).2⟩
    rw [pick, Int.toNat_natCast, List.getD, List.getElem?_eq_getElem hn]
    have e : cs.drop n = cs[n] :: cs.drop (n + 1) := List.drop_eq_getElem_cons hn
    have hs : (cs[n] :: pick cs r).Sublist (cs.drop n) := by rw [e]; exact ih.cons_cons _
    refine hs.trans ?_
    rw [show n = k + (n - k) by omega, ← List.drop_drop]
    exact List.drop_sublist _ _
theorem pick_mem {cs : List (List Int)} {c : List Int} : ∀ (ls : List Int), c ∈ pick cs ls ↔ ∃ l ∈ ls, cs.getD l.toNat [] = c
  | [] => by simp [pick]
  | l :: r => by
    rw [pick, List.mem_cons, pick_mem r]
    constructor
    · rintro (h | ⟨y, h1, h2⟩)
      · exact ⟨l, by simp, h.symm⟩
      · exact ⟨y, by simp [h1], h2⟩
    · rintro ⟨y, h1, h2⟩
      rcases List.mem_cons.1 h1 with rfl | h1
      · exact .inl h2.symm
      · exact .inr ⟨y, h1, h2⟩
/-- the core has no model; without the place p of it, it has one; it is not empty -/
theorem needed {V : Nat} {cs : List (List Int)} {L : List Int} (hcs : LitsOk V cs) (h : (solveM V cs []).1 = none) (hL : leftGo (dropGo V cs cs.length 0 (List.replicate cs.length false)) 0 = L) :
    L.Pairwise (· < ·) ∧ (∀ l ∈ L, 0 ≤ l ∧ l < cs.length) ∧ L ≠ [] ∧ (¬ ∃ x : List Bool, x.length = V ∧ modelB (pick cs L) x = true) ∧
    (∀ p, p < L.length → ∃ x : List Bool, x.length = V ∧ modelB (pick cs (L.eraseIdx p)) x = true) := by
  obtain ⟨D, hD, hDD, h1, h2⟩ := core_needed hcs h
  rw [hDD] at hL
  obtain ⟨ha, hb⟩ := left_asc D 0
  have hm := fun l => left_mem D 0 l
  rw [hL] at ha hb hm
  have hr : ∀ l ∈ L, 0 ≤ l ∧ l < cs.length := fun l hl => by
    obtain ⟨j, k1, k2⟩ := (hm l).1 hl
    have := (List.getElem?_eq_some_iff.1 k1).1
    omega
  have hget : ∀ j, D.getD j false = false → j < cs.length → ((j : Nat) : Int) ∈ L := fun j k1 k2 => (hm _).2 ⟨j, by
    rw [List.getD, List.getElem?_eq_getElem (show j < D.length by omega)] at k1
    rw [List.getElem?_eq_getElem (show j < D.length by omega)]
    exact congrArg some k1, by simp⟩
  have hno : ¬ ∃ x : List Bool, x.length = V ∧ modelB (pick cs L) x = true := by
    rintro ⟨x, hx, hmx⟩
    obtain ⟨j, c, k1, k2, k3⟩ := h1 x hx
    have hj := (List.getElem?_eq_some_iff.1 k1).1
    have := model_iff.1 hmx c ((pick_mem L).2 ⟨(j : Int), hget j k2 hj, by rw [Int.toNat_natCast, List.getD, k1]; rfl⟩)
    rw [this] at k3
    cases k3
  refine ⟨ha, hr, ?_, hno, fun p hp => ?_⟩
  · rintro rfl
    exact hno ⟨List.replicate V false, by simp, rfl⟩
  · obtain ⟨l, hl⟩ : ∃ l, L[p]? = some l := ⟨_, List.getElem?_eq_getElem hp⟩
    have hlL := List.mem_of_getElem? hl
    obtain ⟨j, k1, k2⟩ := (hm l).1 hlL
    have hj := (List.getElem?_eq_some_iff.1 k1).1
    obtain ⟨x, hx, hxx⟩ := h2 j (by omega) (by rw [List.getD, k1]; rfl)
    refine ⟨x, hx, model_iff.2 fun c hc => ?_⟩
    obtain ⟨y, hy, hyc⟩ := (pick_mem _).1 hc
    have hyL : y ∈ L := (List.eraseIdx_sublist L p).subset hy
    obtain ⟨k, q1, q2⟩ := (hm y).1 hyL
    have hk := (List.getElem?_eq_some_iff.1 q1).1
    have hne : y ≠ l := by
      intro e
      subst e
      obtain ⟨t, ht, hte⟩ := List.getElem_of_mem hy
      rw [List.getElem_eraseIdx] at hte
      rw [List.getElem?_eq_getElem hp] at hl
      injection hl with hl
      have hlt := ht
      rw [List.length_eraseIdx, if_pos hp] at hlt
      have hpw := List.pairwise_iff_getElem.1 ha
      split at hte
      · rename_i htp
        have := hpw t p (by omega) hp htp
        omega
      · rename_i htp
        have := hpw p (t + 1) hp (by omega) (by omega)
        omega
    have hyk : y = (k : Int) := by simpa using q2
    have hc2 : cs[k]? = some c := by
      rw [hyk, Int.toNat_natCast, List.getD] at hyc
      rw [List.getElem?_eq_getElem (show k < cs.length by omega)] at hyc ⊢
      exact congrArg some hyc
    exact hxx k c hc2 (by omega) (by rw [List.getD, q1]; rfl)
end Go.Proofs.Ytjbhglmmakkkgaa
