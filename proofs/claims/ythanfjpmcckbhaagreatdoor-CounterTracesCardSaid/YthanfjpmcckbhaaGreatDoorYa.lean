/- (Counter seat) Plain: the classes of connected indices: repeated passes, and links with roots, name the same least indices. No program in sight. -/
import Derived.Test.YthanfjpmcckbhaaGreatDoorBase
namespace Go.Proofs.YthanfjpmcckbhaaGreatDoor
set_option linter.unusedVariables false

/-- connected by a chain of steps of S inside 0..n-1 -/
inductive Conn (S : Nat → Nat → Prop) : Nat → Nat → Prop
  | refl (a : Nat) : Conn S a a
  | tail {a b c : Nat} : Conn S a b → S b c → Conn S a c
namespace Conn
variable {S : Nat → Nat → Prop}
theorem trans {a b c : Nat} (h : Conn S a b) (h2 : Conn S b c) : Conn S a c := by
  induction h2 with
  | refl => exact h
  | tail _ hs ih => exact .tail ih hs
theorem one {a b : Nat} (h : S a b) : Conn S a b := .tail (.refl _) h
theorem symm (hs : ∀ a b, S a b → S b a) {a b : Nat} (h : Conn S a b) : Conn S b a := by
  induction h with
  | refl => exact .refl _
  | tail _ h1 ih => exact (one (hs _ _ h1)).trans ih
end Conn
/-- f names the least index of each class -/
structure Roots (n : Nat) (S : Nat → Nat → Prop) (f : Nat → Nat) : Prop where
  le : ∀ i, i < n → f i ≤ i
  same : ∀ i k, i < n → k < n → S i k → f i = f k
  conn : ∀ i, i < n → Conn S i (f i)
/-- steps stay inside 0..n-1 -/
def Within (n : Nat) (S : Nat → Nat → Prop) : Prop := ∀ a b, S a b → a < n ∧ b < n
theorem Roots.const {n : Nat} {S : Nat → Nat → Prop} {f : Nat → Nat} (h : Roots n S f) (hw : Within n S) {i k : Nat} (hc : Conn S i k) : f i = f k := by
  induction hc with
  | refl => rfl
  | tail _ hs ih => exact ih.trans (h.same _ _ (hw _ _ hs).1 (hw _ _ hs).2 hs)
theorem Roots.idem {n : Nat} {S : Nat → Nat → Prop} {f : Nat → Nat} (h : Roots n S f) (hw : Within n S) {i : Nat} (hi : i < n) : f (f i) = f i := (h.const hw (h.conn i hi)).symm
theorem Roots.unique {n : Nat} {S : Nat → Nat → Prop} {f g : Nat → Nat} (hf : Roots n S f) (hg : Roots n S g) (hw : Within n S) {i : Nat} (hi : i < n) : f i = g i := by
  have h1 : g i ≤ f i := by
    rw [hg.const hw (hf.conn i hi)]
    exact hg.le _ (Nat.lt_of_le_of_lt (hf.le i hi) hi)
  have h2 : f i ≤ g i := by
    rw [hf.const hw (hg.conn i hi)]
    exact hf.le _ (Nat.lt_of_le_of_lt (hg.le i hi) hi)
  omega
/-- the classes, in the order of their least indices -/
def groupsOf (n : Nat) (f : Nat → Nat) : List (List Nat) := ((List.range n).filter fun i => f i == i).map fun i => (List.range n).filter fun k => f k == i
theorem groupsOf_ext {n : Nat} {f g : Nat → Nat} (h : ∀ i, i < n → f i = g i) : groupsOf n f = groupsOf n g := by
  unfold groupsOf
  have h1 : (List.range n).filter (fun i => f i == i) = (List.range n).filter (fun i => g i == i) := List.filter_congr fun i hi => by rw [h i (List.mem_range.1 hi)]
  rw [h1]
  refine List.map_congr_left fun i _ => List.filter_congr fun k hk => by rw [h k (List.mem_range.1 hk)]

/-! the statement's: repeated passes -/
def setAt (l : List Nat) (i v : Nat) : List Nat := l.set i v
/-- one step of a pass -/
def stepL (S : Nat → Nat → Bool) (l : List Nat) (i k : Nat) : List Nat := if l.getD k 0 < l.getD i 0 && S i k then l.set i (l.getD k 0) else l
def inL (S : Nat → Nat → Bool) (i : Nat) : List Nat → List Nat → List Nat
  | [], l => l
  | k :: ks, l => inL S i ks (stepL S l i k)
def passL (S : Nat → Nat → Bool) (n : Nat) : List Nat → List Nat → List Nat
  | [], l => l
  | i :: is, l => passL S n is (inL S i (List.range n) l)
def passesL (S : Nat → Nat → Bool) (n : Nat) : Nat → List Nat → List Nat
  | 0, l => l
  | p + 1, l => passesL S n p (passL S n (List.range n) l)
def leastL (S : Nat → Nat → Bool) (n : Nat) : List Nat := passesL S n n (List.range n)
section least
variable {S : Nat → Nat → Bool} {n : Nat}
/-- what every step keeps: same length, no value grows, each value is connected to its place and at most it -/
structure Lz (S : Nat → Nat → Bool) (n : Nat) (l : List Nat) : Prop where
  len : l.length = n
  le : ∀ i, i < n → l.getD i 0 ≤ i
  conn : ∀ i, i < n → Conn (fun a b => a < n ∧ b < n ∧ S a b = true) i (l.getD i 0)
theorem getD_set {l : List Nat} {i j v : Nat} (hi : i < l.length) : (l.set i v).getD j 0 = if j = i then v else l.getD j 0 := by
  rw [List.getD_eq_getElem?_getD, List.getElem?_set, List.getD_eq_getElem?_getD]
  by_cases h : i = j
  · subst h; simp [hi]
  · rw [if_neg h, if_neg (fun e => h e.symm)]
theorem stepL_get {l : List Nat} {i k j : Nat} (hi : i < l.length) : (stepL S l i k).getD j 0 = if j = i ∧ l.getD k 0 < l.getD i 0 ∧ S i k = true then l.getD k 0 else l.getD j 0 := by
  unfold stepL
  by_cases h : (decide (l.getD k 0 < l.getD i 0) && S i k) = true
  · rw [if_pos h, getD_set hi]
    simp at h
    by_cases e : j = i
    · rw [if_pos e, if_pos ⟨e, by simpa using h.1, h.2⟩]
    · rw [if_neg e, if_neg (fun x => e x.1)]
  · rw [if_neg h, if_neg]
    rintro ⟨_, h1, h2⟩
    exact h (by simp [h2]; simpa using h1)
theorem stepL_le {l : List Nat} {i k j : Nat} (hi : i < l.length) : (stepL S l i k).getD j 0 ≤ l.getD j 0 := by
  rw [stepL_get hi]
  split
  · rename_i h; rw [h.1]; omega
  · omega
theorem stepL_lz {l : List Nat} {i k : Nat} (h : Lz S n l) (hi : i < n) (hk : k < n) : Lz S n (stepL S l i k) := by
  have hil : i < l.length := by rw [h.len]; exact hi
  refine ⟨?_, fun j hj => Nat.le_trans (stepL_le hil) (h.le j hj), fun j hj => ?_⟩
  · unfold stepL; split
    · rw [List.length_set]; exact h.len
    · exact h.len
  · rw [stepL_get hil]
    split
    · rename_i hh
      obtain ⟨e, _, hs⟩ := hh
      subst e
      exact (Conn.one ⟨hj, hk, hs⟩).trans (h.conn k hk)
    · exact h.conn j hj
theorem inL_lz {i : Nat} (hi : i < n) : ∀ {ks l : List Nat}, (∀ k ∈ ks, k < n) → Lz S n l → Lz S n (inL S i ks l) ∧ ∀ j, (inL S i ks l).getD j 0 ≤ l.getD j 0
  | [], l, _, h => ⟨h, fun _ => Nat.le_refl _⟩
  | k :: ks, l, hk, h => by
    have h1 := stepL_lz h hi (hk k (List.mem_cons_self ..))
    obtain ⟨h2, h3⟩ := inL_lz hi (fun x hx => hk x (List.mem_cons_of_mem _ hx)) h1
    exact ⟨h2, fun j => Nat.le_trans (h3 j) (stepL_le (by rw [h.len]; exact hi))⟩
/-- after the row of i its value is at most that of each neighbour before -/
theorem inL_nb {i k : Nat} (hi : i < n) (hs : S i k = true) : ∀ {ks l : List Nat}, (∀ k ∈ ks, k < n) → Lz S n l → k ∈ ks → (inL S i ks l).getD i 0 ≤ l.getD k 0
  | [], l, _, _, hm => by cases hm
  | q :: ks, l, hq, h, hm => by
    have hil : i < l.length := by rw [h.len]; exact hi
    have h1 := stepL_lz h hi (hq q (List.mem_cons_self ..))
    have hks := fun x hx => hq x (List.mem_cons_of_mem q hx)
    rcases List.mem_cons.1 hm with e | hm
    · subst e
      refine Nat.le_trans ((inL_lz hi hks h1).2 i) ?_
      rw [stepL_get hil]
      split
      · exact Nat.le_refl _
      · rename_i hn
        have : ¬ l.getD k 0 < l.getD i 0 := fun x => hn ⟨rfl, x, hs⟩
        omega
    · exact Nat.le_trans (inL_nb (ks := ks) (l := stepL S l i q) hi hs hks h1 hm) (stepL_le hil)
theorem passL_lz : ∀ {is l : List Nat}, (∀ i ∈ is, i < n) → Lz S n l → Lz S n (passL S n is l) ∧ ∀ j, (passL S n is l).getD j 0 ≤ l.getD j 0
  | [], l, _, h => ⟨h, fun _ => Nat.le_refl _⟩
  | i :: is, l, hi, h => by
    obtain ⟨h1, h2⟩ := inL_lz (hi i (List.mem_cons_self ..)) (ks := List.range n) (fun k hk => List.mem_range.1 hk) h
    obtain ⟨h3, h4⟩ := passL_lz (fun x hx => hi x (List.mem_cons_of_mem _ hx)) h1
    exact ⟨h3, fun j => Nat.le_trans (h4 j) (h2 j)⟩
theorem passL_nb {i k : Nat} (hs : S i k = true) (hk : k < n) : ∀ {is l : List Nat}, (∀ i ∈ is, i < n) → Lz S n l → i ∈ is → (passL S n is l).getD i 0 ≤ l.getD k 0
  | [], l, _, _, hm => by cases hm
  | q :: is, l, hq, h, hm => by
    have hqn := hq q (List.mem_cons_self ..)
    obtain ⟨h1, h2⟩ := inL_lz hqn (ks := List.range n) (fun k hk => List.mem_range.1 hk) h
    have his := fun x hx => hq x (List.mem_cons_of_mem q hx)
    rcases List.mem_cons.1 hm with e | hm
    · subst e
      exact Nat.le_trans ((passL_lz his h1).2 i) (inL_nb hqn hs (fun k hk => List.mem_range.1 hk) h (List.mem_range.2 hk))
    · exact Nat.le_trans (passL_nb (is := is) (l := inL S q (List.range n) l) hs hk his h1 hm) (h2 k)
/-- one pass -/
def pass1 (S : Nat → Nat → Bool) (n : Nat) (l : List Nat) : List Nat := passL S n (List.range n) l
theorem pass1_lz {l : List Nat} (h : Lz S n l) : Lz S n (pass1 S n l) := (passL_lz (fun i hi => List.mem_range.1 hi) h).1
theorem pass1_le {l : List Nat} (h : Lz S n l) (j : Nat) : (pass1 S n l).getD j 0 ≤ l.getD j 0 := (passL_lz (fun i hi => List.mem_range.1 hi) h).2 j
theorem pass1_nb {l : List Nat} (h : Lz S n l) {i k : Nat} (hs : S i k = true) (hi : i < n) (hk : k < n) : (pass1 S n l).getD i 0 ≤ l.getD k 0 := passL_nb hs hk (fun i hi => List.mem_range.1 hi) h (List.mem_range.2 hi)
theorem least_of {P : Nat → Prop} : ∀ (k : Nat), P k → ∃ m, P m ∧ ∀ y, P y → m ≤ y := by
  intro k
  induction k using Nat.strongRecOn with
  | ind k ih =>
    intro hk
    by_cases h : ∃ y, y < k ∧ P y
    · obtain ⟨y, hy, hp⟩ := h
      exact ih y hy hp
    · exact ⟨k, hk, fun y hy => Nat.le_of_not_lt fun hlt => h ⟨y, hlt, hy⟩⟩
abbrev Rel (S : Nat → Nat → Bool) (n : Nat) : Nat → Nat → Prop := fun a b => a < n ∧ b < n ∧ S a b = true
theorem rel_within (S : Nat → Nat → Bool) (n : Nat) : Within n (Rel S n) := fun _ _ h => ⟨h.1, h.2.1⟩
theorem conn_lt {S : Nat → Nat → Bool} {n a b : Nat} (h : Conn (Rel S n) a b) (ha : a < n) : b < n := by
  cases h with
  | refl => exact ha
  | tail _ h => exact h.2.1
/-- along a chain from a good place to a bad one there is a step from good to bad -/
theorem cross {S : Nat → Nat → Prop} {Q : Nat → Prop} {a b : Nat} (h : Conn S a b) (ha : Q a) (hb : ¬ Q b) : ∃ x y, Q x ∧ ¬ Q y ∧ S x y ∧ Conn S a x := by
  induction h with
  | refl => exact absurd ha hb
  | @tail c d hc hs ih =>
    by_cases hq : Q c
    · exact ⟨c, d, hq, hb, hs, hc⟩
    · exact ih hq
theorem filter_count_lt {n b : Nat} {P Q : Nat → Bool} (hb : b < n) (hP : P b = false) (hQ : Q b = true) (h : ∀ x, x < n → P x = true → Q x = true) :
    ((List.range n).filter P).length + 1 ≤ ((List.range n).filter Q).length := by
  induction n with
  | zero => omega
  | succ n ih =>
    rw [List.range_succ, List.filter_append, List.filter_append, List.length_append, List.length_append]
    by_cases e : b = n
    · subst e
      have h1 : ((List.range b).filter P).length ≤ ((List.range b).filter Q).length := by
        clear ih
        have : ∀ m, m ≤ b → ((List.range m).filter P).length ≤ ((List.range m).filter Q).length := by
          intro m hm
          induction m with
          | zero => simp
          | succ m ihm =>
            rw [List.range_succ, List.filter_append, List.filter_append, List.length_append, List.length_append]
            have h2 := ihm (by omega)
            have h3 : ([m].filter P).length ≤ ([m].filter Q).length := by
              rcases hp : P m with _ | _
              · simp [hp]
              · simp [hp, h m (by omega) hp]
            omega
        exact this b (Nat.le_refl _)
      simp [hP, hQ]
      omega
    · have h1 := ih (by omega) (fun x hx => h x (by omega))
      have h3 : ([n].filter P).length ≤ ([n].filter Q).length := by
        rcases hp : P n with _ | _
        · simp [hp]
        · simp [hp, h n (by omega) hp]
      omega
theorem passes_inv (hsym : ∀ a b, S a b = S b a) {m : Nat} (hm : m < n) (hmin : ∀ y, Conn (Rel S n) m y → m ≤ y) : ∀ (p : Nat) (l : List Nat), Lz S n l →
    ((∀ x, x < n → Conn (Rel S n) m x → l.getD x 0 = m) ∨ n + 1 ≤ p + ((List.range n).filter fun x => l.getD x 0 == m).length) → l.getD m 0 = m → Lz S n (passesL S n p l) ∧ (∀ x, x < n → Conn (Rel S n) m x → (passesL S n p l).getD x 0 = m) := by
  intro p
  induction p with
  | zero =>
    intro l hl h _
    refine ⟨hl, ?_⟩
    rcases h with h | h
    · exact h
    · have h1 : ((List.range n).filter fun x => l.getD x 0 == m).length ≤ n := by
        have := List.length_filter_le (fun x => l.getD x 0 == m) (List.range n)
        simpa using this
      omega
  | succ p ih =>
    intro l hl h hlm
    have hl2 := pass1_lz hl
    have hge : ∀ x, x < n → Conn (Rel S n) m x → m ≤ (pass1 S n l).getD x 0 := fun x hx hc => hmin _ (hc.trans (hl2.conn x hx))
    have hstay : ∀ x, x < n → Conn (Rel S n) m x → l.getD x 0 = m → (pass1 S n l).getD x 0 = m := fun x hx hc e => by
      have h1 := pass1_le hl x
      have h2 := hge x hx hc
      omega
    refine ih (pass1 S n l) hl2 ?_ (hstay m hm (.refl _) hlm)
    rcases h with h | h
    · exact .inl fun x hx hc => hstay x hx hc (h x hx hc)
    · by_cases hall : ∀ x, x < n → Conn (Rel S n) m x → (pass1 S n l).getD x 0 = m
      · exact .inl hall
      · right
        obtain ⟨x, hx⟩ := Classical.not_forall.1 hall
        obtain ⟨hxn, hx⟩ := Classical.not_imp.1 hx
        obtain ⟨hxc, hxv⟩ := Classical.not_imp.1 hx
        obtain ⟨a, b, qa, qb, hab, hca⟩ := cross (Q := fun y => l.getD y 0 = m) hxc hlm (fun e => hxv (hstay x hxn hxc e))
        obtain ⟨han, hbn, hs⟩ := hab
        have hcb : Conn (Rel S n) m b := hca.tail ⟨han, hbn, hs⟩
        have h1 := pass1_nb hl (i := b) (k := a) (by rw [hsym]; exact hs) hbn han
        have h2 := hge b hbn hcb
        have hb : (pass1 S n l).getD b 0 = m := by rw [qa] at h1; omega
        have h3 := filter_count_lt (n := n) (b := b) (P := fun x => l.getD x 0 == m) (Q := fun x => (pass1 S n l).getD x 0 == m) hbn (by simpa using qb) (by simpa using hb) (fun x hx hp => by
          have hp : l.getD x 0 = m := by simpa using hp
          have hc : Conn (Rel S n) m x := by
            have h4 := hl.conn x hx
            rw [hp] at h4
            exact h4.symm fun a b ⟨h1, h2, h3⟩ => ⟨h2, h1, by rw [hsym]; exact h3⟩
          simpa using hstay x hx hc hp)
        omega
theorem range_getD {i : Nat} (h : i < n) : (List.range n).getD i 0 = i := by
  rw [List.getD_eq_getElem?_getD, List.getElem?_range h]; rfl
/-- the statement's least numbers name the least index of each class -/
theorem leastL_roots (hsym : ∀ a b, S a b = S b a) : Roots n (Rel S n) fun i => (leastL S n).getD i 0 := by
  have h0 : Lz S n (List.range n) := ⟨by simp, fun i hi => by rw [range_getD hi]; exact Nat.le_refl _, fun i hi => by rw [range_getD hi]; exact .refl _⟩
  have hsy : ∀ a b, Rel S n a b → Rel S n b a := fun a b ⟨h1, h2, h3⟩ => ⟨h2, h1, by rw [hsym]; exact h3⟩
  have key : ∀ i, i < n → ∃ m, Conn (Rel S n) i m ∧ (∀ y, Conn (Rel S n) i y → m ≤ y) ∧ (leastL S n).getD i 0 = m := fun i hi => by
    obtain ⟨m, hm, hmin⟩ := least_of (P := fun y => Conn (Rel S n) i y) i (.refl _)
    have hmn := conn_lt hm hi
    have hmin2 : ∀ y, Conn (Rel S n) m y → m ≤ y := fun y hy => hmin y (hm.trans hy)
    have := (passes_inv hsym hmn hmin2 n (List.range n) h0 (.inr (by
      have : 1 ≤ ((List.range n).filter fun x => (List.range n).getD x 0 == m).length := by
        refine List.length_pos_iff.2 (List.ne_nil_of_mem (a := m) (List.mem_filter.2 ⟨List.mem_range.2 hmn, ?_⟩))
        simp only [beq_iff_eq]
        exact range_getD hmn
      omega)) (range_getD hmn)).2 i hi (hm.symm hsy)
    exact ⟨m, hm, hmin, this⟩
  have hlz : Lz S n (leastL S n) := by
    have : ∀ p l, Lz S n l → Lz S n (passesL S n p l) := by
      intro p
      induction p with
      | zero => exact fun l h => h
      | succ p ih => exact fun l h => ih _ (pass1_lz h)
    exact this n _ h0
  refine ⟨fun i hi => hlz.le i hi, fun i k hi hk hs => ?_, fun i hi => hlz.conn i hi⟩
  obtain ⟨a, ha, hamin, ea⟩ := key i hi
  obtain ⟨b, hb, hbmin, eb⟩ := key k hk
  have h1 := hamin b ((Conn.one hs).trans hb)
  have h2 := hbmin a ((Conn.one (hsy _ _ hs)).trans ha)
  show (leastL S n).getD i 0 = (leastL S n).getD k 0
  omega
end least

/-! the program's: links to smaller indices -/
def rtL (l : List Nat) : Nat → Nat → Nat
  | 0, i => i
  | f + 1, i => if l.getD i 0 = i then i else rtL l f (l.getD i 0)
def rootL (l : List Nat) (i : Nat) : Nat := rtL l i i
structure Lk (n : Nat) (l : List Nat) : Prop where
  len : l.length = n
  le : ∀ i, i < n → l.getD i 0 ≤ i
section links
variable {n : Nat} {l : List Nat}
theorem rtL_fuel (h : Lk n l) : ∀ (f g i : Nat), i < n → i ≤ f → i ≤ g → rtL l f i = rtL l g i
  | 0, 0, i, _, _, _ => rfl
  | 0, g + 1, i, hi, h0, _ => by
    have : l.getD i 0 = i := by have := h.le i hi; omega
    rw [rtL, rtL, if_pos this]
  | f + 1, 0, i, hi, _, h0 => by
    have : l.getD i 0 = i := by have := h.le i hi; omega
    rw [rtL, rtL, if_pos this]
  | f + 1, g + 1, i, hi, h1, h2 => by
    rw [rtL, rtL]
    split
    · rfl
    · have := h.le i hi
      exact rtL_fuel h f g _ (by omega) (by omega) (by omega)
theorem rootL_step (h : Lk n l) {i : Nat} (hi : i < n) : rootL l i = if l.getD i 0 = i then i else rootL l (l.getD i 0) := by
  have hle := h.le i hi
  rw [rootL]
  rcases i with _ | i
  · rw [rtL, if_pos (by omega)]
  · rw [rtL]
    split
    · rfl
    · exact rtL_fuel h _ _ _ (by omega) (by omega) (Nat.le_refl _)
theorem rootL_le (h : Lk n l) : ∀ i, i < n → rootL l i ≤ i := by
  intro i
  induction i using Nat.strongRecOn with
  | ind i ih =>
    intro hi
    have hle := h.le i hi
    rw [rootL_step h hi]
    split
    · exact Nat.le_refl _
    · have := ih (l.getD i 0) (by omega) (by omega)
      omega
theorem rootL_fix (h : Lk n l) : ∀ i, i < n → l.getD (rootL l i) 0 = rootL l i := by
  intro i
  induction i using Nat.strongRecOn with
  | ind i ih =>
    intro hi
    have hle := h.le i hi
    rw [rootL_step h hi]
    split
    · assumption
    · exact ih (l.getD i 0) (by omega) (by omega)
theorem rootL_of_fix (h : Lk n l) {i : Nat} (hi : i < n) (hf : l.getD i 0 = i) : rootL l i = i := by rw [rootL_step h hi, if_pos hf]
def unite (l : List Nat) (x y : Nat) : List Nat := l.set (max (rootL l x) (rootL l y)) (min (rootL l x) (rootL l y))
theorem unite_lk (h : Lk n l) {x y : Nat} (hx : x < n) (hy : y < n) : Lk n (unite l x y) := by
  have h1 := rootL_le h x hx
  have h2 := rootL_le h y hy
  refine ⟨by unfold unite; rw [List.length_set]; exact h.len, fun i hi => ?_⟩
  unfold unite
  rw [getD_set (by rw [h.len]; omega)]
  split
  · omega
  · exact h.le i hi
theorem unite_root (h : Lk n l) {x y : Nat} (hx : x < n) (hy : y < n) : ∀ i, i < n → rootL (unite l x y) i = if rootL l i = max (rootL l x) (rootL l y) then min (rootL l x) (rootL l y) else rootL l i := by
  have hk := unite_lk h hx hy
  have h1 := rootL_le h x hx
  have h2 := rootL_le h y hy
  have f1 := rootL_fix h x hx
  have f2 := rootL_fix h y hy
  have hg : ∀ j, (unite l x y).getD j 0 = if j = max (rootL l x) (rootL l y) then min (rootL l x) (rootL l y) else l.getD j 0 := fun j => by
    unfold unite
    rw [getD_set (by rw [h.len]; omega)]
  generalize unite l x y = u at *
  generalize rootL l x = a at *
  generalize rootL l y = b at *
  have hfa : ∀ j, l.getD j 0 = j → j ≠ max a b → u.getD j 0 = j := fun j hj hne => by rw [hg, if_neg hne]; exact hj
  have hmin : u.getD (min a b) 0 = min a b := by
    rw [hg]
    split
    · rfl
    · rcases Nat.le_total a b with e | e
      · rw [Nat.min_eq_left e]; exact f1
      · rw [Nat.min_eq_right e]; exact f2
  intro i
  induction i using Nat.strongRecOn with
  | ind i ih =>
    intro hi
    have hle := h.le i hi
    rw [rootL_step hk hi, hg i, rootL_step h hi]
    by_cases e : i = max a b
    · have hli : l.getD i 0 = i := by
        rw [e]
        rcases Nat.le_total a b with q | q
        · rw [Nat.max_eq_right q]; exact f2
        · rw [Nat.max_eq_left q]; exact f1
      rw [if_pos e, if_pos hli, if_pos e]
      split
      · omega
      · exact rootL_of_fix hk (by omega) hmin
    · rw [if_neg e]
      by_cases hli : l.getD i 0 = i
      · simp only [if_pos hli, if_neg e]
      · simp only [if_neg hli]
        exact ih (l.getD i 0) (by omega) (by omega)
/-- the index at which a size is first met -/
def firstO (os : List (Nat × Int)) (s : Int) : Option Nat := (os.find? fun p => p.2 == s).map Prod.fst
theorem firstO_mem {os : List (Nat × Int)} {s : Int} {k : Nat} (h : firstO os s = some k) : (k, s) ∈ os := by
  unfold firstO at h
  rcases hf : os.find? (fun p => p.2 == s) with _ | p
  · rw [hf] at h; cases h
  · rw [hf] at h
    have h1 := List.mem_of_find?_eq_some hf
    have h2 := List.find?_some hf
    obtain ⟨a, b⟩ := p
    simp at h h2
    subst h h2
    exact h1
theorem firstO_snoc {os : List (Nat × Int)} {i : Nat} {s t : Int} : firstO (os ++ [(i, s)]) t = match firstO os t with | some k => some k | none => if t = s then some i else none := by
  unfold firstO
  rw [List.find?_append]
  rcases hf : os.find? (fun p => p.2 == t) with _ | p
  · rw [hf]
    by_cases e : t = s
    · subst e; simp
    · have : (s == t) = false := by simp; exact fun h => e h.symm
      simp [this, e]
  · rw [hf]; simp
theorem firstO_none {os : List (Nat × Int)} {s : Int} (h : firstO os s = none) : ∀ i, (i, s) ∉ os := by
  unfold firstO at h
  rw [Option.map_eq_none_iff, List.find?_eq_none] at h
  intro i hi
  have := h _ hi
  simp at this
/-- the state after some occurrences -/
structure Uf (n : Nat) (S : Nat → Nat → Prop) (l : List Nat) (os : List (Nat × Int)) : Prop where
  lk : Lk n l
  dom : ∀ p ∈ os, p.1 < n
  first : ∀ i s k, (i, s) ∈ os → firstO os s = some k → rootL l i = rootL l k
  conn : ∀ i, i < n → Conn S i (rootL l i)
theorem Uf.start (n : Nat) (S : Nat → Nat → Prop) : Uf n S (List.range n) [] := by
  have hk : Lk n (List.range n) := ⟨by simp, fun i hi => by rw [range_getD hi]; exact Nat.le_refl _⟩
  exact ⟨hk, fun p hp => by simp at hp, fun i s k h => by simp at h, fun i hi => by rw [rootL_of_fix hk hi (range_getD hi)]; exact .refl _⟩
/-- a size met for the first time -/
theorem Uf.fresh {S : Nat → Nat → Prop} {os : List (Nat × Int)} (h : Uf n S l os) {i : Nat} {s : Int} (hi : i < n) (hn : firstO os s = none) : Uf n S l (os ++ [(i, s)]) := by
  refine ⟨h.lk, fun p hp => ?_, fun a t k ha hf => ?_, h.conn⟩
  · rcases List.mem_append.1 hp with h1 | h1
    · exact h.dom p h1
    · simp at h1; subst h1; exact hi
  · rw [firstO_snoc] at hf
    rcases List.mem_append.1 ha with h1 | h1
    · rcases hft : firstO os t with _ | q
      · exact absurd h1 (firstO_none hft a)
      · rw [hft] at hf; simp at hf; subst hf; exact h.first a t q h1 hft
    · simp at h1
      obtain ⟨rfl, rfl⟩ := h1
      rw [hn] at hf
      simp at hf
      rw [hf]
/-- a size met before -/
theorem Uf.join {S : Nat → Nat → Prop} {os : List (Nat × Int)} (hsy : ∀ a b, S a b → S b a) (h : Uf n S l os) {i k : Nat} {s : Int} (hi : i < n) (hn : firstO os s = some k) (hS : S k i) : Uf n S (unite l k i) (os ++ [(i, s)]) := by
  have hk := h.dom _ (firstO_mem hn)
  have hk : k < n := hk
  have hr := unite_root h.lk hk hi
  have hxy : rootL (unite l k i) i = rootL (unite l k i) k := by
    rw [hr i hi, hr k hk]
    rcases Nat.le_total (rootL l k) (rootL l i) with q | q
    · rw [Nat.max_eq_right q, Nat.min_eq_left q, if_pos rfl]
      split
      · rfl
      · rfl
    · rw [Nat.max_eq_left q, Nat.min_eq_right q, if_pos rfl]
      split
      · rfl
      · rfl
  refine ⟨unite_lk h.lk hk hi, fun p hp => ?_, fun a t q ha hf => ?_, fun a ha => ?_⟩
  · rcases List.mem_append.1 hp with h1 | h1
    · exact h.dom p h1
    · simp at h1; subst h1; exact hi
  · rw [firstO_snoc] at hf
    have hold : ∀ a t q, (a, t) ∈ os → firstO os t = some q → rootL (unite l k i) a = rootL (unite l k i) q := fun a t q h1 h2 => by
      have ha := h.dom _ h1
      have hq := h.dom _ (firstO_mem h2)
      rw [hr a ha, hr q hq, h.first a t q h1 h2]
    rcases List.mem_append.1 ha with h1 | h1
    · rcases hft : firstO os t with _ | q'
      · exact absurd h1 (firstO_none hft a)
      · rw [hft] at hf; simp at hf; subst hf; exact hold a t q' h1 hft
    · simp at h1
      obtain ⟨rfl, rfl⟩ := h1
      rw [hn] at hf
      simp at hf
      subst hf
      exact hxy
  · rw [hr a ha]
    have hca := h.conn a ha
    have hck := h.conn k hk
    have hci := h.conn i hi
    split
    · rename_i e
      rw [e] at hca
      have hki : Conn S (rootL l k) (rootL l i) := (hck.symm hsy).trans ((Conn.one hS).trans hci)
      rcases Nat.le_total (rootL l k) (rootL l i) with q | q
      · rw [Nat.max_eq_right q] at hca
        rw [Nat.min_eq_left q]
        exact hca.trans (hki.symm hsy)
      · rw [Nat.max_eq_left q] at hca
        rw [Nat.min_eq_right q]
        exact hca.trans hki
    · exact hca
theorem Uf.roots {S : Nat → Nat → Prop} {os : List (Nat × Int)} (h : Uf n S l os) (hS : ∀ i k, i < n → k < n → S i k → ∃ s, (i, s) ∈ os ∧ (k, s) ∈ os) : Roots n S (rootL l) := by
  refine ⟨fun i hi => rootL_le h.lk i hi, fun i k hi hk hs => ?_, h.conn⟩
  obtain ⟨s, h1, h2⟩ := hS i k hi hk hs
  rcases hf : firstO os s with _ | q
  · exact absurd h1 (firstO_none hf i)
  · rw [h.first i s q h1 hf, h.first k s q h2 hf]
end links
end Go.Proofs.YthanfjpmcckbhaaGreatDoor
