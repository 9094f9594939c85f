/- Plain: accepting lemmas, on both sides. No program in sight. -/
import Derived.Test.YtjbhglmmakkkgaaSs
import Derived.Test.YtjbhglmmakkkgaaSy2
namespace Go.Proofs.Ytjbhglmmakkkgaa
def negL (l : List Int) : List Int := l.map fun x => -x
/-- formed -/
def formedGo (V : Nat) : Int → List Int → Bool
  | _, [] => true
  | last, x :: r => if x < -(V : Int) ∨ (V : Int) < x then false else if varM x ≤ last then false else formedGo V (varM x) r
theorem varM_nn (x : Int) : 0 ≤ varM x := by unfold varM; split <;> omega
theorem litB_of {V : Nat} {x : Int} (h1 : ¬ (x < -(V : Int) ∨ (V : Int) < x)) (h2 : ¬ varM x ≤ 0) : litB V x = true := by
  have h3 := varM_pos x
  exact litB_iff.2 (by unfold LitOk; omega)
theorem formed_eq {V : Nat} : ∀ (l : List Int) (q : Int), formedGo V (varM q) l = clauseGo V (some q) l
  | [], _ => rfl
  | x :: r, q => by
    have ih := formed_eq (V := V) r x
    rw [formedGo, clauseGo, ih]
    by_cases h1 : x < -(V : Int) ∨ (V : Int) < x
    · have : litB V x = false := by
        apply Bool.eq_false_iff.2
        intro h
        have := litB_iff.1 h
        unfold LitOk at this
        omega
      rw [if_pos h1, this]
      rfl
    · rw [if_neg h1]
      by_cases h2 : varM x ≤ varM q
      · rw [if_pos h2, decide_eq_false (by omega)]
        simp
      · have := varM_nn q
        rw [if_neg h2, litB_of h1 (by omega), decide_eq_true (by omega)]
        simp
theorem formed_eq0 {V : Nat} (l : List Int) : formedGo V 0 l = clauseGo V none l := by
  cases l with
  | nil => rfl
  | cons x r =>
    rw [formedGo, clauseGo, formed_eq]
    by_cases h1 : x < -(V : Int) ∨ (V : Int) < x
    · have : litB V x = false := by
        apply Bool.eq_false_iff.2
        intro h
        have := litB_iff.1 h
        unfold LitOk at this
        omega
      rw [if_pos h1, this]
      rfl
    · rw [if_neg h1]
      by_cases h2 : varM x ≤ 0
      · have h3 := varM_pos x
        have : litB V x = false := by
          apply Bool.eq_false_iff.2
          intro h
          have := (litB_iff.1 h).1
          omega
        rw [if_pos h2, this]
        rfl
      · rw [if_neg h2, litB_of h1 h2]
        simp
/-- a formed clause: literals in ascending order of the variables -/
theorem clauseGo_asc {V : Nat} : ∀ (l : List Int) (q : Int), clauseGo V (some q) l = true → (∀ x ∈ l, q.natAbs < x.natAbs) ∧ l.Pairwise fun a b => a.natAbs < b.natAbs
  | [], _, _ => by simp
  | x :: r, q, h => by
    rw [clauseGo] at h
    simp only [Bool.and_eq_true, decide_eq_true_eq] at h
    obtain ⟨⟨h1, h2⟩, h3⟩ := h
    obtain ⟨i1, i2⟩ := clauseGo_asc r x h3
    rw [varM_pos, varM_pos] at h2
    refine ⟨fun y hy => ?_, List.pairwise_cons.2 ⟨i1, i2⟩⟩
    rcases List.mem_cons.1 hy with rfl | hy
    · omega
    · have := i1 y hy; omega
theorem clause_fmd {V : Nat} {l : List Int} : clauseGo V none l = true ↔ Fmd V l := by
  constructor
  · intro h
    refine ⟨clauseGo_lits l none h, ?_⟩
    cases l with
    | nil => exact .nil
    | cons x r =>
      rw [clauseGo, Bool.and_eq_true] at h
      exact List.pairwise_cons.2 (clauseGo_asc r x h.2)
  · rintro ⟨h1, h2⟩
    have aux : ∀ (l : List Int) (q : Int), (∀ x ∈ l, LitOk V x) → (∀ x ∈ l, q.natAbs < x.natAbs) → l.Pairwise (fun a b => a.natAbs < b.natAbs) → clauseGo V (some q) l = true := by
      intro l
      induction l with
      | nil => intros; rfl
      | cons x r ih =>
        intro q k1 k2 k3
        have k4 := List.pairwise_cons.1 k3
        rw [clauseGo, litB_iff.2 (k1 x (by simp)), decide_eq_true (by have := k2 x (by simp); rw [varM_pos, varM_pos]; omega), ih x (fun y hy => k1 y (by simp [hy])) k4.1 k4.2]
        rfl
    cases l with
    | nil => rfl
    | cons x r =>
      have k4 := List.pairwise_cons.1 h2
      rw [clauseGo, litB_iff.2 (h1 x (by simp)), aux r x (fun y hy => h1 y (by simp [hy])) k4.1 k4.2]
      rfl
theorem Fmd.neg {V : Nat} {l : List Int} (h : Fmd V l) : ∀ x ∈ negL l, LitOk V x := by
  intro x hx
  obtain ⟨y, hy, rfl⟩ := List.mem_map.1 hx
  exact (h.1 y hy).neg
theorem asc_len {V : Nat} : ∀ (l : List Int) (q : Nat), q ≤ V → (∀ x ∈ l, q < x.natAbs ∧ x.natAbs ≤ V) → l.Pairwise (fun a b => a.natAbs < b.natAbs) → l.length + q ≤ V
  | [], q, hq, _, _ => by simpa using hq
  | x :: r, q, _, h, hp => by
    have h1 := h x (by simp)
    have h2 := List.pairwise_cons.1 hp
    have := asc_len r x.natAbs h1.2 (fun y hy => ⟨h2.1 y hy, (h y (by simp [hy])).2⟩) h2.2
    rw [List.length_cons]
    omega
theorem Fmd.len {V : Nat} {l : List Int} (h : Fmd V l) : l.length ≤ V := by
  have := asc_len l 0 (Nat.zero_le V) (fun x hx => by obtain ⟨h1, h2, h3⟩ := h.1 x hx; omega) h.2
  omega
theorem mem_negL {l : List Int} {x : Int} : x ∈ negL l ↔ -x ∈ l := by
  unfold negL
  rw [List.mem_map]
  constructor
  · rintro ⟨y, hy, rfl⟩; simpa using hy
  · intro h; exact ⟨-x, h, by simp⟩
/-- a formed lemma's marks do not contradict one another -/
theorem Fmd.start {V : Nat} {l : List Int} (h : Fmd V l) : (startM V (negL l)).2 = true := by
  obtain ⟨_, _, _, h4⟩ := startM_spec h.neg
  rcases hs : (startM V (negL l)).2 with _ | _
  · obtain ⟨x, h5, h6⟩ := h4 hs
    rw [mem_negL] at h5 h6
    rw [Int.neg_neg] at h6
    exfalso
    have key : ∀ (l : List Int), l.Pairwise (fun a b => a.natAbs < b.natAbs) → -x ∈ l → x ∈ l → x = 0 := by
      intro l
      induction l with
      | nil => intro _ h; simp at h
      | cons a r ih =>
        intro hp k1 k2
        have hp' := List.pairwise_cons.1 hp
        rcases List.mem_cons.1 k1 with e1 | k1 <;> rcases List.mem_cons.1 k2 with e2 | k2
        · omega
        · have := hp'.1 x k2; omega
        · have := hp'.1 (-x) k1; omega
        · exact ih hp'.2 k1 k2
    exact (h.1 x h6).1 (key l h.2 h5 h6)
  · rfl
theorem startGo_fst : ∀ (r : List Int) (ms : List Bool) (ok : Bool), (startGo r ms ok).1 = r.foldl setM ms
  | [], _, _ => rfl
  | l :: r, ms, ok => by rw [startGo, startGo_fst r, List.foldl_cons]
/-- the lemmas are accepted one after the other -/
def refGo (V : Nat) : List (List Int) → List (List Int) → Bool
  | _, [] => true
  | cs, l :: r => if clauseGo V none l = false then false else if okM V cs (negL l) = true then false else refGo V (cs ++ [l]) r
def lastE (ls : List (List Int)) : Bool := match ls.getLast? with
  | some [] => true
  | _ => false
def refutesB (V : Nat) (cs ls : List (List Int)) : Bool := refGo V cs ls && lastE ls
def refutesM (vars keep : Int) (cs ls : List (List Int)) : Bool × Int := if checkM vars keep cs ≠ 0 then (false, 1) else (refutesB vars.toNat cs ls, 0)
theorem lits_snoc {V : Nat} {cs : List (List Int)} {l : List Int} (h : LitsOk V cs) (hl : ∀ x ∈ l, LitOk V x) : LitsOk V (cs ++ [l]) := by
  intro c hc
  rcases List.mem_append.1 hc with h1 | h1
  · exact h c h1
  · simp at h1; exact h1 ▸ hl
theorem ok_conf {V : Nat} {cs : List (List Int)} {lits : List Int} (hcs : LitsOk V cs) (h : ∀ l ∈ lits, LitOk V l) : okM V cs lits = false ↔ Conf cs (· ∈ lits) := by
  obtain ⟨h1, h2⟩ := okM_conf hcs h
  refine ⟨h1, fun hc => ?_⟩
  rcases ho : okM V cs lits with _ | _
  · rfl
  · exact absurd hc (h2 ho).1
/-- lemmas that refute are accepted -/
theorem refL_go {V : Nat} : ∀ (ls cs pre : List (List Int)), LitsOk V (cs ++ pre) → (∀ (i : Nat) (c : List Int), ls[i]? = some c → Fmd V c ∧ Conf (cs ++ (pre ++ ls.take i)) (fun l => -l ∈ c)) → refGo V (cs ++ pre) ls = true
  | [], _, _, _, _ => by simp [refGo]
  | l :: r, cs, pre, hcs, h => by
    obtain ⟨h1, h2⟩ := h 0 l (by simp)
    rw [refGo, if_neg (by rw [clause_fmd.2 h1]; simp)]
    have hc : okM V (cs ++ pre) (negL l) = false := (ok_conf hcs h1.neg).2 (by
      refine h2.mono (fun x hx => by simpa using hx) fun x hx => mem_negL.2 hx)
    rw [if_neg (by rw [hc]; simp), List.append_assoc]
    refine refL_go r cs (pre ++ [l]) (by rw [← List.append_assoc]; exact lits_snoc hcs h1.1) fun i c hi => ?_
    have := h (i + 1) c (by simpa using hi)
    simpa using this
theorem RefL.accepted {V : Nat} {cs ls : List (List Int)} (hcs : LitsOk V cs) (h : RefL V cs ls) : refGo V cs ls = true := by
  have := refL_go ls cs [] (by simpa using hcs) (fun i c hi => by simpa using h i c hi)
  simpa using this
/-- what is accepted holds in every model -/
theorem refGo_sound {V : Nat} {x : List Bool} : ∀ (ls cs : List (List Int)), LitsOk V cs → x.length = V → modelB cs x = true → refGo V cs ls = true → ∀ l ∈ ls, l.any (litT x) = true
  | [], _, _, _, _, _ => by simp
  | l :: r, cs, hcs, hx, hm, h => by
    rw [refGo] at h
    rcases h1 : clauseGo V none l with _ | _
    · rw [h1] at h; simp at h
    have hf := clause_fmd.1 h1
    rcases h2 : okM V cs (negL l) with _ | _
    case true => rw [h1, h2] at h; simp at h
    rw [h1, h2, if_neg (by simp), if_neg (by simp)] at h
    have hc := (ok_conf hcs hf.neg).1 h2
    have hl : l.any (litT x) = true := by
      rcases ha : l.any (litT x) with _ | _
      · exfalso
        refine hc.no hcs (fun y hy => hf.neg y hy) hm fun y hy => ?_
        have hy' := mem_negL.1 hy
        have := List.any_eq_false.1 ha (-y) hy'
        have hn := (hf.1 _ hy').1
        have e := litT_neg (x := x) (l := -y) hn
        rw [Int.neg_neg] at e
        rw [e]
        simpa using this
      · rfl
    intro c hc'
    rcases List.mem_cons.1 hc' with rfl | hc'
    · exact hl
    · refine refGo_sound r (cs ++ [l]) (lits_snoc hcs hf.1) hx ?_ h c hc'
      unfold modelB at *
      rw [List.all_append, hm]
      simpa using hl
theorem lastE_mem {ls : List (List Int)} (h : lastE ls = true) : [] ∈ ls := by
  unfold lastE at h
  split at h
  · rename_i e
    exact List.mem_of_getLast? e
  · cases h
theorem refutes_no {V : Nat} {cs ls : List (List Int)} {x : List Bool} (hcs : LitsOk V cs) (hx : x.length = V) (h : refutesB V cs ls = true) : modelB cs x = false := by
  unfold refutesB at h
  rw [Bool.and_eq_true] at h
  rcases hm : modelB cs x with _ | _
  · rfl
  · have := refGo_sound ls cs hcs hx hm h.1 [] (lastE_mem h.2)
    simp at this
end Go.Proofs.Ytjbhglmmakkkgaa
