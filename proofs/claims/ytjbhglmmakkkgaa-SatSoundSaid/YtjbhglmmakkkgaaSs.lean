/- Plain: the statement's propagation, told by what follows (Der). No program in sight. -/
import Derived.Test.YtjbhglmmakkkgaaSq
import Derived.Test.YtjbhglmmakkkgaaSw14
namespace Go.Proofs.Ytjbhglmmakkkgaa
def allLits (V : Nat) : List Int := (List.range V).map (fun i => ((i + 1 : Nat) : Int)) ++ (List.range V).map fun i => -((i + 1 : Nat) : Int)
theorem allLits_len (V : Nat) : (allLits V).length = 2 * V := by simp [allLits]; omega
theorem mem_allLits {V : Nat} {l : Int} (h : LitOk V l) : l ∈ allLits V := by
  obtain ⟨v, h1, h2, h3⟩ := h.cases
  rcases h3 with ⟨rfl, _⟩ | ⟨rfl, _⟩
  · exact List.mem_append.2 (.inl (List.mem_map.2 ⟨v - 1, by simp; omega, by omega⟩))
  · exact List.mem_append.2 (.inr (List.mem_map.2 ⟨v - 1, by simp; omega, by omega⟩))
def hasS (set : List Int) (n : Int) : Bool := set.any fun m => m == n
theorem hasS_iff {set : List Int} {n : Int} : hasS set n = true ↔ n ∈ set := by
  unfold hasS
  simp
theorem countP_lt {α : Type} {p q : α → Bool} : ∀ (l : List α), (∀ x, q x = true → p x = true) → (∃ x ∈ l, p x = true ∧ q x = false) → l.countP q < l.countP p
  | [], _, h => by simp at h
  | a :: r, hqp, h => by
    have hle : r.countP q ≤ r.countP p := List.countP_mono_left fun x _ hx => hqp x hx
    rw [List.countP_cons, List.countP_cons]
    obtain ⟨x, hx, h1, h2⟩ := h
    rcases List.mem_cons.1 hx with rfl | hx
    · simp [h1, h2]; omega
    · have := countP_lt r hqp ⟨x, hx, h1, h2⟩
      by_cases hq : q a = true
      · simp [hq, hqp a hq]; omega
      · simp [hq]; split <;> omega
/-- how many literals are not in the set -/
def cntS (V : Nat) (set : List Int) : Nat := (allLits V).countP fun l => !hasS set l
theorem cntS_add {V : Nat} {set : List Int} {n : Int} (h : LitOk V n) (hn : hasS set n = false) : cntS V (set ++ [n]) < cntS V set := by
  refine countP_lt _ (fun x hx => ?_) ⟨n, mem_allLits h, by simp [hn], ?_⟩
  · simp only [Bool.not_eq_true'] at hx ⊢
    apply Bool.eq_false_iff.2
    intro h2
    rw [hasS_iff.2 (List.mem_append.2 (.inl (hasS_iff.1 h2)))] at hx
    cases hx
  · simp [hasS_iff.2 (List.mem_append.2 (.inr (List.mem_singleton.2 rfl)))]
theorem cntS_le (V : Nat) (set : List Int) : cntS V set ≤ 2 * V := by
  unfold cntS
  rw [← allLits_len V]
  exact List.countP_le_length
/-- what a set holds on the way -/
structure SInv (V : Nat) (cs : List (List Int)) (lits set : List Int) : Prop where
  lit : ∀ l ∈ set, LitOk V l
  der : ∀ l ∈ set, Der cs (· ∈ lits) l
  cnt : set.length + cntS V set ≤ 2 * V
theorem SInv.nil (V : Nat) (cs : List (List Int)) (lits : List Int) : SInv V cs lits [] := ⟨by simp, by simp, by simpa using cntS_le V []⟩
theorem SInv.add {V : Nat} {cs : List (List Int)} {lits set : List Int} {n : Int} (h : SInv V cs lits set) (hl : LitOk V n) (hd : Der cs (· ∈ lits) n) (hn : hasS set n = false) : SInv V cs lits (set ++ [n]) := by
  refine ⟨fun l hl' => ?_, fun l hl' => ?_, ?_⟩
  · rcases List.mem_append.1 hl' with h1 | h1
    · exact h.lit l h1
    · simp at h1; exact h1 ▸ hl
  · rcases List.mem_append.1 hl' with h1 | h1
    · exact h.der l h1
    · simp at h1; exact h1 ▸ hd
  · have := cntS_add hl hn
    have := h.cnt
    rw [List.length_append]
    simp only [List.length_cons, List.length_nil]
    omega
/-- forced -/
def forcedGo (set : List Int) (i : Nat) : List Int → Nat → Bool
  | [], _ => true
  | n :: r, k => if k ≠ i ∧ hasS set (-n) = false then false else forcedGo set i r (k + 1)
theorem forcedGo_iff {set : List Int} {i : Nat} : ∀ (l : List Int) (k : Nat), forcedGo set i l k = true ↔ ∀ (j : Nat) (n : Int), l[j]? = some n → k + j ≠ i → -n ∈ set
  | [], k => by simp [forcedGo]
  | a :: r, k => by
    have ih := forcedGo_iff (set := set) (i := i) r (k + 1)
    rw [forcedGo]
    split
    · rename_i h
      constructor
      · intro h2; cases h2
      · intro h2
        have := h2 0 a (by simp) (by omega)
        rw [hasS_iff.2 this] at h
        exact absurd h.2 (by simp)
    · rename_i h
      rw [ih]
      constructor
      · intro h2 j n hj hne
        rcases j with _ | j
        · simp at hj
          subst hj
          rcases hh : hasS set (-a) with _ | _
          · exact absurd ⟨by omega, hh⟩ h
          · exact hasS_iff.1 hh
        · exact h2 j n (by simpa using hj) (by omega)
      · intro h2 j n hj hne
        exact h2 (j + 1) n (by simpa using hj) (by omega)
/-- the set is closed at a place of a clause -/
def ClosedP (set : List Int) (c : List Int) (i : Nat) : Prop := ∀ l, c[i]? = some l → forcedGo set i c 0 = true → l ∈ set
theorem SInv.forced {V : Nat} {cs : List (List Int)} {lits set c : List Int} {i : Nat} {n : Int} (h : SInv V cs lits set) (hc : c ∈ cs) (hn : c[i]? = some n) (hf : forcedGo set i c 0 = true) : Der cs (· ∈ lits) n :=
  .step hc hn fun k m hk hm => h.der _ ((forcedGo_iff c 0).1 hf k m hm (by omega))
/-- a closed set holds just what follows -/
theorem closed_der {V : Nat} {cs : List (List Int)} {lits set : List Int} (h : SInv V cs lits set) (hl : ∀ l ∈ lits, l ∈ set) (hc : ∀ c ∈ cs, ∀ i, ClosedP set c i) (l : Int) : l ∈ set ↔ Der cs (· ∈ lits) l := by
  refine ⟨h.der l, fun hd => ?_⟩
  induction hd with
  | base h => exact hl _ h
  | step hm hi _ ih => exact hc _ hm _ _ hi ((forcedGo_iff _ 0).2 fun j n hj hne => ih j n (by omega) hj)
/-- the literals of a predicate from the variable v on -/
def outP (D : Int → Bool) : Nat → Nat → List Int
  | 0, _ => []
  | f + 1, v => (if D (-(v : Int)) = true then [-(v : Int)] else []) ++ ((if D (v : Int) = true then [(v : Int)] else []) ++ outP D f (v + 1))
theorem outP_ext {V : Nat} {D E : Int → Bool} (h : ∀ l, LitOk V l → D l = E l) : ∀ (f v : Nat), 1 ≤ v → v + f ≤ V + 1 → outP D f v = outP E f v
  | 0, _, _, _ => rfl
  | f + 1, v, h1, h2 => by
    rw [outP, outP, h v (by unfold LitOk; omega), h (-(v : Int)) (by unfold LitOk; omega), outP_ext h f (v + 1) (by omega) (by omega)]
theorem outP_mem {D : Int → Bool} {l : Int} : ∀ (f v : Nat), l ∈ outP D f v ↔ ∃ u : Nat, v ≤ u ∧ u < v + f ∧ (l = -(u : Int) ∧ D l = true ∨ l = (u : Int) ∧ D l = true)
  | 0, v => by simp [outP]; omega
  | f + 1, v => by
    rw [outP, List.mem_append, List.mem_append, outP_mem f (v + 1)]
    constructor
    · rintro (h | h | ⟨u, h1, h2, h3⟩)
      · split at h
        · rename_i hd
          simp at h
          exact ⟨v, Nat.le_refl _, by omega, .inl ⟨h, h ▸ hd⟩⟩
        · simp at h
      · split at h
        · rename_i hd
          simp at h
          exact ⟨v, Nat.le_refl _, by omega, .inr ⟨h, h ▸ hd⟩⟩
        · simp at h
      · exact ⟨u, by omega, by omega, h3⟩
    · rintro ⟨u, h1, h2, h3⟩
      by_cases e : u = v
      · subst e
        rcases h3 with ⟨rfl, hd⟩ | ⟨rfl, hd⟩
        · left; rw [if_pos hd]; simp
        · right; left; rw [if_pos hd]; simp
      · exact .inr (.inr ⟨u, by omega, by omega, h3⟩)
/-- what a propagation answers -/
structure PropRes (V : Nat) (cs : List (List Int)) (lits : List Int) (r : List Int × Bool) : Prop where
  conf : r.2 = true ↔ Conf cs (· ∈ lits)
  none : r.2 = true → r.1 = []
  some : r.2 = false → ∃ D : Int → Bool, (∀ l, LitOk V l → (D l = true ↔ Der cs (· ∈ lits) l)) ∧ r.1 = outP D V 1
theorem PropRes.eq {V : Nat} {cs : List (List Int)} {lits : List Int} {r q : List Int × Bool} (h : PropRes V cs lits r) (k : PropRes V cs lits q) : r = q := by
  obtain ⟨r1, r2⟩ := r
  obtain ⟨q1, q2⟩ := q
  have e : r2 = q2 := by
    rw [Bool.eq_iff_iff]
    exact h.conf.trans k.conf.symm
  subst e
  rcases r2 with _ | _
  · obtain ⟨D, h1, h2⟩ := h.some rfl
    obtain ⟨E, k1, k2⟩ := k.some rfl
    simp only at h2 k2
    rw [h2, k2, outP_ext (V := V) (D := D) (E := E) (fun l hl => by rw [Bool.eq_iff_iff]; exact (h1 l hl).trans (k1 l hl).symm) V 1 (by omega) (by omega)]
  · have h2 := h.none rfl
    have k2 := k.none rfl
    simp only at h2 k2
    rw [h2, k2]
theorem outGo2_P {m : List Bool} : ∀ (f v : Nat), 1 ≤ v → outGo2 m f v = outP (hasM m) f v
  | 0, _, _ => rfl
  | f + 1, v, h => by
    rw [outGo2, outP, outGo2_P f (v + 1) (by omega)]
    unfold hasM
    rw [(idx_pos h).1, (idx_pos h).2]
/-- sat's Propagate answers so -/
theorem prog_res {V : Nat} {cs : List (List Int)} {lits : List Int} (hcs : LitsOk V cs) (hl : ∀ l ∈ lits, LitOk V l) :
    PropRes V cs lits (if okM V cs lits = false then ([], true) else (outGo2 (marksM V cs lits) V 1, false)) := by
  obtain ⟨h1, h2⟩ := okM_conf hcs hl
  by_cases hok : okM V cs lits = false
  · rw [if_pos hok]
    exact ⟨⟨fun _ => h1 hok, fun _ => rfl⟩, fun _ => rfl, fun h => (by cases h)⟩
  · rw [if_neg hok]
    obtain ⟨k1, _, k3⟩ := h2 (by simpa using hok)
    exact ⟨⟨fun h => (by cases h), fun h => absurd h k1⟩, fun h => (by cases h), fun _ => ⟨hasM (marksM V cs lits), k3, outGo2_P V 1 (by omega)⟩⟩
end Go.Proofs.Ytjbhglmmakkkgaa
