/- Plain: what run computes: the least model in lexicographic order, or lemmas that refute. No program in sight. -/
import Derived.Test.YtjbhglmmakkkgaaSr
namespace Go.Proofs.Ytjbhglmmakkkgaa

theorem idx_pos {v : Nat} (h : 1 ≤ v) : idx (v : Int) = v * 2 + 1 ∧ idx (-(v : Int)) = v * 2 := by
  unfold idx
  rw [if_neg (by omega), if_pos (by omega)]
  omega
theorem openGo_spec {m : List Bool} : ∀ (f v : Nat), 1 ≤ v →
    (openGo m f v = none → ∀ u, v ≤ u → u < v + f → hasM m (u : Int) = true ∨ hasM m (-(u : Int)) = true) ∧
    (∀ x, openGo m f v = some x → v ≤ x ∧ x < v + f ∧ hasM m (x : Int) = false ∧ hasM m (-(x : Int)) = false ∧ ∀ u, v ≤ u → u < x → hasM m (u : Int) = true ∨ hasM m (-(u : Int)) = true)
  | 0, v, _ => ⟨fun _ u h1 h2 => by omega, fun x h => by simp [openGo] at h⟩
  | f + 1, v, hv => by
    obtain ⟨i1, i2⟩ := openGo_spec (m := m) f (v + 1) (by omega)
    have hcl : ¬ (!m.getD (v * 2) false && !m.getD (v * 2 + 1) false) = true → hasM m (v : Int) = true ∨ hasM m (-(v : Int)) = true := fun h => by
      unfold hasM
      rw [(idx_pos hv).1, (idx_pos hv).2]
      rcases h1 : m.getD (v * 2) false with _ | _ <;> rcases h2 : m.getD (v * 2 + 1) false with _ | _
      all_goals first | exact .inl rfl | exact .inr rfl | (exfalso; rw [h1, h2] at h; exact h rfl)
    refine ⟨fun h u h1 h2 => ?_, fun x h => ?_⟩
    · rw [openGo] at h
      split at h
      · cases h
      · rename_i hc
        by_cases hu : u = v
        · subst hu; exact hcl hc
        · exact i1 h u (by omega) (by omega)
    · rw [openGo] at h
      split at h
      · rename_i hc
        injection h with h
        subst h
        refine ⟨Nat.le_refl _, by omega, ?_, ?_, fun u h1 h2 => by omega⟩
        · unfold hasM; rw [(idx_pos hv).1]; simp at hc; simpa using hc.2
        · unfold hasM; rw [(idx_pos hv).2]; simp at hc; simpa using hc.1
      · rename_i hc
        obtain ⟨j1, j2, j3, j4, j5⟩ := i2 x h
        refine ⟨by omega, by omega, j3, j4, fun u h1 h2 => ?_⟩
        by_cases hu : u = v
        · subst hu; exact hcl hc
        · exact j5 u (by omega) h2

/-- a variable is settled below the decisions -/
def Cld (cs : List (List Int)) (ds : List Int) (u : Nat) : Prop := Conf cs (· ∈ ds) ∨ Der cs (· ∈ ds) (u : Int) ∨ Der cs (· ∈ ds) (-(u : Int))
theorem Cld.snoc {cs : List (List Int)} {ds : List Int} {u : Nat} {l : Int} (h : Cld cs ds u) : Cld cs (ds ++ [l]) u := by
  have hm : ∀ x, x ∈ ds → x ∈ ds ++ [l] := fun x hx => by simp [hx]
  rcases h with h | h | h
  · exact .inl (h.mono (fun _ h => h) hm)
  · exact .inr (.inl (h.mono (fun _ h => h) hm))
  · exact .inr (.inr (h.mono (fun _ h => h) hm))
structure Dec (V : Nat) (cs : List (List Int)) (n : Nat) (ds : List Int) : Prop where
  lits : ∀ l ∈ ds, LitOk V l
  len : ds.length + n ≤ V
  low : ∀ u : Nat, 1 ≤ u → u + n ≤ V → Cld cs ds u
  old : ∀ d ∈ ds, ∀ u : Nat, 1 ≤ u → u ≤ d.natAbs → Cld cs ds u
  asc : ds.Pairwise fun a b => a.natAbs < b.natAbs
theorem Dec.nil (V : Nat) (cs : List (List Int)) : Dec V cs V [] := ⟨by simp, by simp, fun u h1 h2 => by omega, by simp, .nil⟩
theorem okM_conf {V : Nat} {cs : List (List Int)} {ds : List Int} (hcs : LitsOk V cs) (h : ∀ l ∈ ds, LitOk V l) :
    (okM V cs ds = false → Conf cs (· ∈ ds)) ∧ (okM V cs ds = true → ¬ Conf cs (· ∈ ds) ∧ (marksM V cs ds).length = (V + 1) * 2 ∧ ∀ l, LitOk V l → (hasM (marksM V cs ds) l = true ↔ Der cs (· ∈ ds) l)) := marks_spec hcs h
theorem open_of {V n : Nat} {cs : List (List Int)} {ds : List Int} {v : Nat} (hcs : LitsOk V cs) (hd : Dec V cs n ds) (hok : okM V cs ds = true) (h : openM V (marksM V cs ds) = some v) :
    1 ≤ v ∧ v ≤ V ∧ ¬ Der cs (· ∈ ds) (v : Int) ∧ ¬ Der cs (· ∈ ds) (-(v : Int)) ∧ (∀ u, 1 ≤ u → u < v → Der cs (· ∈ ds) (u : Int) ∨ Der cs (· ∈ ds) (-(u : Int))) ∧ V < v + n ∧ ∀ d ∈ ds, d.natAbs < v := by
  obtain ⟨k1, k2, k3⟩ := (okM_conf hcs hd.lits).2 hok
  obtain ⟨j1, j2, j3, j4, j5⟩ := (openGo_spec V 1 (Nat.le_refl _)).2 v h
  have hlv : LitOk V (v : Int) := by unfold LitOk; omega
  have g1 : ¬ Der cs (· ∈ ds) (v : Int) := fun h => by rw [(k3 _ hlv).2 h] at j3; cases j3
  have g2 : ¬ Der cs (· ∈ ds) (-(v : Int)) := fun h => by rw [(k3 _ hlv.neg).2 h] at j4; cases j4
  have hnc : ¬ Cld cs ds v := fun h => by
    rcases h with h | h | h
    · exact k1 h
    · exact g1 h
    · exact g2 h
  refine ⟨j1, by omega, g1, g2, fun u h1 h2 => ?_, ?_, fun d hd' => ?_⟩
  · have hlu : LitOk V (u : Int) := by unfold LitOk; omega
    rcases j5 u h1 h2 with h | h
    · exact .inl ((k3 _ hlu).1 h)
    · exact .inr ((k3 _ hlu.neg).1 h)
  · rcases Nat.lt_or_ge V (v + n) with h | h
    · exact h
    · exact absurd (hd.low v j1 h) hnc
  · rcases Nat.lt_or_ge d.natAbs v with h | h
    · exact h
    · exact absurd (hd.old d hd' v j1 h) hnc
theorem Dec.step {V n : Nat} {cs : List (List Int)} {ds : List Int} {v : Nat} (hcs : LitsOk V cs) (hd : Dec V cs (n + 1) ds) (hok : okM V cs ds = true) (h : openM V (marksM V cs ds) = some v) {lit : Int} (hl : lit = -(v : Int) ∨ lit = (v : Int)) : Dec V cs n (ds ++ [lit]) := by
  obtain ⟨h1, h2, h3, h4, h5, h6, h7⟩ := open_of hcs hd hok h
  have hv : ∀ u : Nat, 1 ≤ u → u ≤ v → Cld cs (ds ++ [lit]) u := fun u hu1 hu2 => by
    by_cases e : u = v
    · subst e
      rcases hl with rfl | rfl
      · exact .inr (.inr (.base (by simp)))
      · exact .inr (.inl (.base (by simp)))
    · rcases h5 u hu1 (by omega) with h | h
      · exact Cld.snoc (.inr (.inl h))
      · exact Cld.snoc (.inr (.inr h))
  have hla : lit.natAbs = v := by omega
  refine ⟨fun l hl' => ?_, ?_, fun u hu1 hu2 => hv u hu1 (by omega), fun d hd' u hu1 hu2 => ?_, ?_⟩
  · rcases List.mem_append.1 hl' with h | h
    · exact hd.lits l h
    · simp at h; subst h; unfold LitOk; omega
  · have := hd.len; simp; omega
  · rcases List.mem_append.1 hd' with h | h
    · exact (hd.old d h u hu1 hu2).snoc
    · simp at h; subst h; exact hv u hu1 (by omega)
  · rw [List.pairwise_append]
    refine ⟨hd.asc, by simp, fun a ha b hb => ?_⟩
    simp at hb
    subst hb
    have := h7 a ha
    omega
theorem Dec.closed {V : Nat} {cs : List (List Int)} {ds : List Int} (hcs : LitsOk V cs) (hd : Dec V cs 0 ds) (hok : okM V cs ds = true) : openM V (marksM V cs ds) = none := by
  rcases h : openM V (marksM V cs ds) with _ | v
  · rfl
  · obtain ⟨h1, h2, _, _, _, h6, _⟩ := open_of hcs hd hok h
    omega

/-- an assignment as a number -/
def val : List Bool → Nat
  | [] => 0
  | b :: r => (if b = true then 2 ^ r.length else 0) + val r
theorem val_lt : ∀ (x : List Bool), val x < 2 ^ x.length
  | [] => by simp [val]
  | b :: r => by
    have := val_lt r
    rw [val, List.length_cons, Nat.pow_succ]
    split <;> omega
theorem val_lex : ∀ (k : Nat) (x y : List Bool), x.length = y.length → (∀ i, i < k → x.getD i false = y.getD i false) → x.getD k false = false → y.getD k false = true → val x < val y
  | k, [], y, hl, _, _, h2 => by
    have : y = [] := List.eq_nil_of_length_eq_zero hl.symm
    subst this
    simp at h2
  | k, x :: r, [], hl, _, _, _ => by simp at hl
  | 0, x :: r, y :: s, hl, _, h1, h2 => by
    simp at h1 h2 hl
    subst h1 h2
    have := val_lt r
    rw [val, val, ← hl]
    simp
    omega
  | k + 1, x :: r, y :: s, hl, h0, h1, h2 => by
    have e := h0 0 (by omega)
    simp at e
    subst e
    simp at hl
    have := val_lex k r s hl (fun i hi => by have := h0 (i + 1) (by omega); simpa using this) (by simpa using h1) (by simpa using h2)
    rw [val, val, hl]
    omega
theorem val_inj : ∀ (x y : List Bool), x.length = y.length → val x = val y → x = y
  | [], y, hl, _ => (List.eq_nil_of_length_eq_zero hl.symm).symm
  | x :: r, [], hl, _ => by simp at hl
  | x :: r, y :: s, hl, h => by
    simp at hl
    have h1 := val_lt r
    have h2 := val_lt s
    rw [val, val, hl] at h
    rw [hl] at h1
    have : x = y := by
      cases x <;> cases y <;> simp at h ⊢ <;> omega
    subst this
    rw [val_inj r s hl (by omega)]

/-- x makes the clauses and the decisions true -/
def Mod (V : Nat) (cs : List (List Int)) (ds : List Int) (x : List Bool) : Prop := x.length = V ∧ modelB cs x = true ∧ ∀ l ∈ ds, litT x l = true
theorem Mod.der {V : Nat} {cs : List (List Int)} {ds : List Int} {x : List Bool} {l : Int} (h : Mod V cs ds x) (hcs : LitsOk V cs) (hd : Der cs (· ∈ ds) l) : litT x l = true := hd.sound hcs.ne h.2.1 h.2.2
theorem litT_pos {x : List Bool} {u : Nat} (h : 1 ≤ u) : litT x (u : Int) = x.getD (u - 1) false := by
  unfold litT
  rw [decide_eq_true (by omega), Int.natAbs_natCast]
  cases x.getD (u - 1) false <;> rfl
theorem litT_nat {x : List Bool} {u : Nat} (h : 1 ≤ u) : litT x (-(u : Int)) = !x.getD (u - 1) false := by
  rw [litT_neg (by omega), litT_pos h]
/-- two models agree where a variable is settled -/
theorem Mod.agree {V : Nat} {cs : List (List Int)} {ds : List Int} {x y : List Bool} {u : Nat} (hx : Mod V cs ds x) (hy : Mod V cs ds y) (hcs : LitsOk V cs) (hu : 1 ≤ u) (h : Der cs (· ∈ ds) (u : Int) ∨ Der cs (· ∈ ds) (-(u : Int))) : x.getD (u - 1) false = y.getD (u - 1) false := by
  rcases h with h | h
  · have h1 := hx.der hcs h
    have h2 := hy.der hcs h
    rw [litT_pos hu] at h1 h2
    rw [h1, h2]
  · have h1 := hx.der hcs h
    have h2 := hy.der hcs h
    rw [litT_nat hu] at h1 h2
    simp only [Bool.not_eq_true'] at h1 h2
    rw [h1, h2]
theorem Mod.snoc {V : Nat} {cs : List (List Int)} {ds : List Int} {x : List Bool} {l : Int} : Mod V cs (ds ++ [l]) x ↔ Mod V cs ds x ∧ litT x l = true := by
  unfold Mod
  constructor
  · rintro ⟨h1, h2, h3⟩
    exact ⟨⟨h1, h2, fun l hl => h3 l (by simp [hl])⟩, h3 l (by simp)⟩
  · rintro ⟨⟨h1, h2, h3⟩, h4⟩
    refine ⟨h1, h2, fun y hy => ?_⟩
    rcases List.mem_append.1 hy with h | h
    · exact h3 y h
    · simp at h; subst h; exact h4

theorem bits_len (V : Nat) (m : List Bool) : (bitsM V m).length = V := by simp [bitsM]
theorem bits_getD {V : Nat} {m : List Bool} {u : Nat} (h1 : 1 ≤ u) (h2 : u ≤ V) : (bitsM V m).getD (u - 1) false = hasM m (u : Int) := by
  unfold bitsM hasM
  rw [(idx_pos h1).1, List.getD, List.getElem?_map, List.getElem?_range (by omega)]
  simp only [Option.map_some, Option.getD_some]
  rw [show u - 1 + 1 = u by omega]
/-- no variable is open: the marks are a model -/
theorem bits_model {V : Nat} {cs : List (List Int)} {ds : List Int} (hcs : LitsOk V cs) (hds : ∀ l ∈ ds, LitOk V l) (hok : okM V cs ds = true) (hop : openM V (marksM V cs ds) = none) : Mod V cs ds (bitsM V (marksM V cs ds)) := by
  obtain ⟨k1, k2, k3⟩ := (okM_conf hcs hds).2 hok
  have hcl := (openGo_spec (m := marksM V cs ds) V 1 (Nat.le_refl _)).1 hop
  have ht : ∀ l, LitOk V l → Der cs (· ∈ ds) l → litT (bitsM V (marksM V cs ds)) l = true := by
    intro l hl hd
    obtain ⟨v, hv1, hv2, h⟩ := hl.cases
    rcases h with ⟨rfl, _⟩ | ⟨rfl, _⟩
    · rw [litT_pos hv1, bits_getD hv1 hv2]
      exact (k3 _ hl).2 hd
    · rw [litT_nat hv1, bits_getD hv1 hv2]
      have hlv : LitOk V (v : Int) := by unfold LitOk; omega
      rcases hh : hasM (marksM V cs ds) (v : Int) with _ | _
      · rfl
      · exact absurd (.inr ⟨_, (k3 _ hlv).1 hh, hd⟩) k1
  have hdec : ∀ l, LitOk V l → Der cs (· ∈ ds) l ∨ Der cs (· ∈ ds) (-l) := by
    intro l hl
    obtain ⟨v, hv1, hv2, h⟩ := hl.cases
    have hlv : LitOk V (v : Int) := by unfold LitOk; omega
    have h5 := hcl v hv1 (by omega)
    rcases h with ⟨rfl, _⟩ | ⟨rfl, _⟩
    · rcases h5 with h5 | h5
      · exact .inl ((k3 _ hlv).1 h5)
      · exact .inr ((k3 _ hlv.neg).1 h5)
    · rw [Int.neg_neg]
      rcases h5 with h5 | h5
      · exact .inr ((k3 _ hlv).1 h5)
      · exact .inl ((k3 _ hlv.neg).1 h5)
  refine ⟨bits_len _ _, ?_, fun l hl => ht l (hds l hl) (.base hl)⟩
  unfold modelB
  rw [List.all_eq_true]
  intro c hc
  rcases hany : c.any (litT (bitsM V (marksM V cs ds))) with _ | _
  case true => rfl
  exfalso
  have hall : ∀ n ∈ c, Der cs (· ∈ ds) (-n) := fun n hn => by
    rcases hdec n (hcs c hc n hn) with h | h
    · have := List.any_eq_false.1 hany n hn
      rw [ht n (hcs c hc n hn) h] at this
      exact absurd rfl this
    · exact h
  rcases c with _ | ⟨l, r⟩
  · exact k1 (.inl hc)
  · exact k1 (.inr ⟨l, .step (i := 0) hc (by simp) fun k n _ hn => hall n (List.mem_of_getElem? hn), hall l (by simp)⟩)
theorem eq_of_getD {x y : List Bool} (hl : x.length = y.length) (h : ∀ i, i < x.length → x.getD i false = y.getD i false) : x = y := by
  apply List.ext_getElem hl
  intro i h1 h2
  have := h i h1
  simpa [List.getD, List.getElem?_eq_getElem h1, List.getElem?_eq_getElem h2] using this

/-- the literals of a lemma stand in ascending order of the variables -/
def Fmd (V : Nat) (c : List Int) : Prop := (∀ l ∈ c, LitOk V l) ∧ c.Pairwise fun a b => a.natAbs < b.natAbs
/-- lemmas that refute, each in its turn -/
def RefL (V : Nat) (cs ls : List (List Int)) : Prop := ∀ (i : Nat) (c : List Int), ls[i]? = some c → Fmd V c ∧ Conf (cs ++ ls.take i) (fun l => -l ∈ c)
theorem RefL.append {V : Nat} {cs a b : List (List Int)} (ha : RefL V cs a) (hb : RefL V cs b) : RefL V cs (a ++ b) := by
  intro i c hc
  rcases Nat.lt_or_ge i a.length with h | h
  · rw [List.getElem?_append_left h] at hc
    rw [List.take_append_of_le_length (by omega)]
    exact ha i c hc
  · rw [List.getElem?_append_right h] at hc
    obtain ⟨h1, h2⟩ := hb _ c hc
    refine ⟨h1, h2.mono (fun x hx => ?_) fun _ h => h⟩
    rw [List.take_append]
    rcases List.mem_append.1 hx with h | h
    · simp [h]
    · simp [h]
theorem RefL.snoc {V : Nat} {cs a : List (List Int)} {c : List Int} (ha : RefL V cs a) (hf : Fmd V c) (hc : Conf (cs ++ a) (fun l => -l ∈ c)) : RefL V cs (a ++ [c]) := by
  intro i x hx
  rcases Nat.lt_or_ge i a.length with h | h
  · rw [List.getElem?_append_left h] at hx
    rw [List.take_append_of_le_length (by omega)]
    exact ha i x hx
  · rw [List.getElem?_append_right h] at hx
    rcases hk : i - a.length with _ | k
    · rw [hk] at hx
      simp at hx
      subst hx
      exact ⟨hf, by rw [show i = a.length by omega, List.take_left]; exact hc⟩
    · rw [hk] at hx
      simp at hx
theorem Dec.fmd {V n : Nat} {cs : List (List Int)} {ds : List Int} (h : Dec V cs n ds) : Fmd V (ds.map fun l => -l) := by
  refine ⟨fun l hl => ?_, ?_⟩
  · obtain ⟨y, hy, rfl⟩ := List.mem_map.1 hl
    exact (h.lits y hy).neg
  · rw [List.pairwise_map]
    exact h.asc.imp fun h => by simpa using h
theorem neg_mem {ds : List Int} {l : Int} : -l ∈ ds.map (fun l => -l) ↔ l ∈ ds := by
  simp
/-- what a run's result says -/
structure RunOk (V : Nat) (cs : List (List Int)) (ds : List Int) (r : Rrun) : Prop where
  found : ∀ x, r.1 = some x → Mod V cs ds x ∧ ∀ y, Mod V cs ds y → val x ≤ val y
  absent : r.1 = none → (∀ y, ¬ Mod V cs ds y) ∧ RefL V cs r.2 ∧ (ds.map fun l => -l) ∈ r.2 ∧ r.2.getLast? = some (ds.map fun l => -l)
theorem runStep_ok {V n : Nat} {cs : List (List Int)} {ds : List Int} {rec : List Int → Rrun} (hcs : LitsOk V cs) (hd : Dec V cs n ds)
    (hrec : ∀ v, openM V (marksM V cs ds) = some v → okM V cs ds = true → ∀ lit, (lit = -(v : Int) ∨ lit = (v : Int)) → RunOk V cs (ds ++ [lit]) (rec (ds ++ [lit]))) : RunOk V cs ds (runStep V cs rec ds) := by
  unfold runStep
  obtain ⟨k1, k2⟩ := okM_conf hcs hd.lits
  by_cases hok : okM V cs ds = false
  · rw [if_pos hok]
    have hc := k1 hok
    refine ⟨fun x hx => (by cases hx), fun _ => ⟨fun y hy => hc.no hcs (fun l hl => hd.lits l hl) hy.2.1 hy.2.2, ?_, by simp, by simp⟩⟩
    exact RefL.snoc (a := []) (fun i c h => by simp at h) hd.fmd (hc.mono (fun x hx => by simp [hx]) fun l hl => neg_mem.2 hl)
  · rw [if_neg hok]
    have hok : okM V cs ds = true := by simpa using hok
    obtain ⟨j1, j2, j3⟩ := k2 hok
    rcases hop : openM V (marksM V cs ds) with _ | v
    · have hm := bits_model hcs hd.lits hok hop
      have hcl := (openGo_spec (m := marksM V cs ds) V 1 (Nat.le_refl _)).1 hop
      rw [branchM]
      refine ⟨fun x hx => ?_, fun h => by cases h⟩
      injection hx with hx
      subst hx
      refine ⟨hm, fun y hy => ?_⟩
      have : bitsM V (marksM V cs ds) = y := eq_of_getD (by rw [hm.1, hy.1]) fun i hi => by
        rw [hm.1] at hi
        have := hm.agree hy hcs (u := i + 1) (by omega) (by
          have hlu : LitOk V ((i + 1 : Nat) : Int) := by unfold LitOk; omega
          rcases hcl (i + 1) (by omega) (by omega) with h | h
          · exact .inl ((j3 _ hlu).1 h)
          · exact .inr ((j3 _ hlu.neg).1 h))
        simpa using this
      rw [this]
      exact Nat.le_refl _
    · obtain ⟨g1, g2, g3, g4, g5, _, _⟩ := open_of hcs hd hok hop
      have r1 := hrec v hop hok _ (.inl rfl)
      have r2 := hrec v hop hok _ (.inr rfl)
      rw [branchM]
      rcases h1 : rec (ds ++ [-(v : Int)]) with ⟨_ | x, l1⟩
      · rw [h1] at r1
        obtain ⟨a1, a2, a3, a4⟩ := r1.absent rfl
        simp only at a2 a3 a4
        rcases h2 : rec (ds ++ [(v : Int)]) with ⟨_ | x, l2⟩
        · rw [h2] at r2
          obtain ⟨b1, b2, b3, b4⟩ := r2.absent rfl
          simp only at b2 b3 b4
          rw [firstM, secondM]
          refine ⟨fun x hx => (by cases hx), fun _ => ⟨fun y hy => ?_, ?_, by simp, by simp⟩⟩
          · rcases hv : litT y (v : Int) with _ | _
            · exact a1 y (Mod.snoc.2 ⟨hy, by rw [litT_neg (by omega), hv]; rfl⟩)
            · exact b1 y (Mod.snoc.2 ⟨hy, hv⟩)
          · refine RefL.snoc (a2.append b2) hd.fmd (.inr ⟨(v : Int), ?_, ?_⟩)
            · refine .step (i := ds.length) (c := (ds ++ [-(v : Int)]).map fun l => -l) (List.mem_append.2 (.inr (List.mem_append.2 (.inl a3)))) (by simp) fun k n hk hn => .base ?_
              rw [List.map_append, List.getElem?_append_left (by
                have := (List.getElem?_eq_some_iff.1 hn).1
                simp at this ⊢
                omega), List.getElem?_map] at hn
              rcases hdk : ds[k]? with _ | d
              · rw [hdk] at hn; cases hn
              · rw [hdk] at hn
                simp at hn
                subst hn
                rw [neg_mem]
                simpa using List.mem_of_getElem? hdk
            · refine .step (i := ds.length) (c := (ds ++ [(v : Int)]).map fun l => -l) (List.mem_append.2 (.inr (List.mem_append.2 (.inr b3)))) (by simp) fun k n hk hn => .base ?_
              rw [List.map_append, List.getElem?_append_left (by
                have := (List.getElem?_eq_some_iff.1 hn).1
                simp at this ⊢
                omega), List.getElem?_map] at hn
              rcases hdk : ds[k]? with _ | d
              · rw [hdk] at hn; cases hn
              · rw [hdk] at hn
                simp at hn
                subst hn
                rw [neg_mem]
                simpa using List.mem_of_getElem? hdk
        · rw [h2] at r2
          obtain ⟨b1, b2⟩ := r2.found x rfl
          rw [firstM, secondM]
          refine ⟨fun z hz => ?_, fun h => (by cases h)⟩
          injection hz with hz
          subst hz
          refine ⟨(Mod.snoc.1 b1).1, fun y hy => ?_⟩
          rcases hv : litT y (v : Int) with _ | _
          · exact absurd (Mod.snoc.2 ⟨hy, by rw [litT_neg (by omega), hv]; rfl⟩) (a1 y)
          · exact b2 y (Mod.snoc.2 ⟨hy, hv⟩)
      · rw [h1] at r1
        obtain ⟨b1, b2⟩ := r1.found x rfl
        rw [firstM]
        refine ⟨fun z hz => ?_, fun h => (by cases h)⟩
        injection hz with hz
        subst hz
        obtain ⟨c1, c2⟩ := Mod.snoc.1 b1
        refine ⟨c1, fun y hy => ?_⟩
        rcases hv : litT y (v : Int) with _ | _
        · exact b2 y (Mod.snoc.2 ⟨hy, by rw [litT_neg (by omega), hv]; rfl⟩)
        · rw [litT_nat g1] at c2
          rw [litT_pos g1] at hv
          refine Nat.le_of_lt (val_lex (v - 1) x y (by rw [c1.1, hy.1]) (fun i hi => ?_) (by simpa using c2) hv)
          have := c1.agree hy hcs (u := i + 1) (by omega) (g5 (i + 1) (by omega) (by omega))
          simpa using this
theorem runM_ok {V : Nat} {cs : List (List Int)} (hcs : LitsOk V cs) : ∀ (n : Nat) (ds : List Int), Dec V cs n ds → RunOk V cs ds (runM V cs n ds)
  | 0, ds, hd => runStep_ok hcs hd fun v hv hok => by rw [hd.closed hcs hok] at hv; cases hv
  | n + 1, ds, hd => runStep_ok hcs hd fun v hv hok lit hl => runM_ok hcs n _ (hd.step hcs hok hv hl)
end Go.Proofs.Ytjbhglmmakkkgaa
