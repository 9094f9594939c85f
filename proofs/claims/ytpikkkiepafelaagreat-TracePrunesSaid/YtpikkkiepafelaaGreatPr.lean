/- (Trace seat) Pruning, as plain Lean: what Prune computes, that pruning twice is pruning once, and that an accepted trace stays accepted with the same total. No condition. -/
import Derived.Test.YtpikkkiepafelaaGreatVz
namespace Go.Proofs.YtpikkkiepafelaaGreat
open Go.ChangeShapes Go.WideShapes Go.ChangeAt Go.RowKit
set_option linter.unusedVariables false
set_option linter.unusedSimpArgs false

def badAt (i : Nat) (c : Claim) : Bool := c.kids.any fun k => decide (k < 0) || decide ((i : Int) ≤ k)
def okGo : List Claim → Nat → Bool
  | [], _ => true
  | c :: r, i => if badAt i c = true then false else okGo r (i + 1)
def setAll : List Bool → List Int → List Bool
  | m, [] => m
  | m, k :: r => setAll (m.set k.toNat true) r
def markDn (ts : List Claim) : Nat → List Bool → List Bool
  | 0, m => m
  | i + 1, m => markDn ts i (if m.getD i false = true then setAll m (ts.getD i clNil).kids else m)
def renC (nm : List Int) (c : Claim) : Claim := { c with kids := c.kids.map fun k => nm.getD k.toNat 0 }
def renGo : List Claim → List Bool → List Int → Nat → Nat → List Claim
  | c :: r, m :: mr, nm, i, n => if m = true then renC (nm.set i n) c :: renGo r mr (nm.set i n) (i + 1) (n + 1) else renGo r mr nm (i + 1) n
  | _, _, _, _, _ => []
def marksM (ts : List Claim) : List Bool := markDn ts ts.length ((List.replicate ts.length false).set (ts.length - 1) true)
def prnM (ts : List Claim) : List Claim :=
  if okGo ts 0 = false then ts else renGo ts (marksM ts) (List.replicate ts.length 0) 0 0

theorem badAt_no {i : Nat} {c : Claim} : badAt i c = false ↔ ∀ k ∈ c.kids, 0 ≤ k ∧ k < (i : Int) := by
  unfold badAt
  rw [List.any_eq_false]
  constructor
  · intro h k hk
    have := h k hk
    simp at this
    omega
  · intro h k hk
    have := h k hk
    simp
    omega
theorem okGo_iff : ∀ (ts : List Claim) (i : Nat), okGo ts i = true ↔ ∀ j, j < ts.length → ∀ k ∈ (ts.getD j clNil).kids, 0 ≤ k ∧ k < ((i + j : Nat) : Int)
  | [], i => by simp [okGo]
  | c :: r, i => by
    rw [okGo]
    by_cases h : badAt i c = true
    · rw [if_pos h]
      constructor
      · intro h; cases h
      · intro h2
        have := badAt_no.2 (fun k hk => by have := h2 0 (by simp) k hk; simpa using this)
        have e : (c :: r).getD 0 clNil = c := rfl
        rw [e, h] at this; cases this
    · rw [if_neg h, okGo_iff r (i + 1)]
      have hb := badAt_no.1 (by simpa using h)
      constructor
      · intro h2 j hj k hk
        rcases j with _ | j
        · simpa using hb k hk
        · have := h2 j (by simpa using hj) k (by simpa using hk)
          omega
      · intro h2 j hj k hk
        have := h2 (j + 1) (by simp; omega) k (by simpa using hk)
        omega
theorem getD_set {α : Type} {m : List α} {a j : Nat} {x d : α} (h : a < m.length) : (m.set a x).getD j d = if j = a then x else m.getD j d := by
  rw [List.getD_eq_getElem?_getD, List.getD_eq_getElem?_getD, List.getElem?_set]
  by_cases e : a = j
  · subst e; simp [h]
  · rw [if_neg e, if_neg (fun h => e h.symm)]
theorem setAll_len : ∀ (ks : List Int) (m : List Bool), (setAll m ks).length = m.length
  | [], m => rfl
  | k :: r, m => by rw [setAll, setAll_len r]; simp
theorem setAll_get : ∀ (ks : List Int) (m : List Bool) (j : Nat), (∀ k ∈ ks, 0 ≤ k ∧ k < (m.length : Int)) → ((setAll m ks).getD j false = true ↔ m.getD j false = true ∨ (j : Int) ∈ ks)
  | [], m, j, _ => by simp [setAll]
  | k :: r, m, j, h => by
    have hk := h k (List.mem_cons_self ..)
    rw [setAll, setAll_get r _ j (fun x hx => by have := h x (List.mem_cons_of_mem _ hx); simpa using this), getD_set (by omega)]
    by_cases e : j = k.toNat
    · rw [if_pos e]
      have : (j : Int) = k := by omega
      simp [this]
    · rw [if_neg e]
      have : (j : Int) ≠ k := by omega
      simp [this]
theorem mark_spec (ts : List Claim) (hk : ∀ j, j < ts.length → ∀ k ∈ (ts.getD j clNil).kids, 0 ≤ k ∧ k < (j : Int)) : ∀ (i : Nat) (m : List Bool), i ≤ ts.length → m.length = ts.length →
    (markDn ts i m).length = m.length ∧ (∀ j, i ≤ j → (markDn ts i m).getD j false = m.getD j false) ∧ (∀ j, m.getD j false = true → (markDn ts i m).getD j false = true) ∧
    (∀ j, j < i → (markDn ts i m).getD j false = true → ∀ k ∈ (ts.getD j clNil).kids, (markDn ts i m).getD k.toNat false = true) ∧
    (∀ j, (markDn ts i m).getD j false = true → m.getD j false = true ∨ ∃ j', j < j' ∧ j' < i ∧ (markDn ts i m).getD j' false = true ∧ (j : Int) ∈ (ts.getD j' clNil).kids)
  | 0, m, _, _ => ⟨rfl, fun _ _ => rfl, fun _ h => h, fun j h => by omega, fun j h => .inl h⟩
  | i + 1, m, hi, hm => by
    rw [markDn]
    by_cases hmi : m.getD i false = true
    · rw [if_pos hmi]
      have hki := hk i (by omega)
      have hg := fun j => setAll_get (ts.getD i clNil).kids m j (fun k h => by have := hki k h; omega)
      obtain ⟨h1, h2, h3, h4, h5⟩ := mark_spec ts hk i (setAll m (ts.getD i clNil).kids) (by omega) (by rw [setAll_len]; exact hm)
      have hii : (markDn ts i (setAll m (ts.getD i clNil).kids)).getD i false = true := by rw [h2 i (Nat.le_refl _)]; exact (hg i).2 (.inl hmi)
      refine ⟨h1.trans (setAll_len _ _), fun j hj => ?_, fun j hj => h3 j ((hg j).2 (.inl hj)), fun j hj hr k hkk => ?_, fun j hj => ?_⟩
      · rw [h2 j (by omega)]
        have := hg j
        have hno : ¬ (j : Int) ∈ (ts.getD i clNil).kids := fun h => by have := hki _ h; omega
        rw [show ((j : Int) ∈ (ts.getD i clNil).kids) = False from eq_false hno, or_false] at this
        exact Bool.eq_iff_iff.2 this
      · by_cases e : j = i
        · subst e
          have := hki k hkk
          exact h3 _ ((hg _).2 (.inr (by rw [show ((k.toNat : Nat) : Int) = k by omega]; exact hkk)))
        · exact h4 j (by omega) hr k hkk
      · rcases h5 j hj with h | ⟨j', e1, e2, e3, e4⟩
        · rcases (hg j).1 h with h | h
          · exact .inl h
          · exact .inr ⟨i, by have := hki _ h; omega, by omega, hii, h⟩
        · exact .inr ⟨j', e1, by omega, e3, e4⟩
    · rw [if_neg hmi]
      obtain ⟨h1, h2, h3, h4, h5⟩ := mark_spec ts hk i m (by omega) hm
      refine ⟨h1, fun j hj => h2 j (by omega), h3, fun j hj hr k hkk => ?_, fun j hj => ?_⟩
      · by_cases e : j = i
        · subst e
          rw [h2 j (Nat.le_refl _)] at hr
          exact absurd hr hmi
        · exact h4 j (by omega) hr k hkk
      · rcases h5 j hj with h | ⟨j', e1, e2, e3, e4⟩
        · exact .inl h
        · exact .inr ⟨j', e1, by omega, e3, e4⟩
/-- what the marks of a trace with good kids are -/
structure MarksOk (ts : List Claim) (M : List Bool) : Prop where
  len : M.length = ts.length
  last : 0 < ts.length → M.getD (ts.length - 1) false = true
  kids : ∀ j, j < ts.length → ∀ k ∈ (ts.getD j clNil).kids, 0 ≤ k ∧ k < (j : Int)
  closed : ∀ j, j < ts.length → M.getD j false = true → ∀ k ∈ (ts.getD j clNil).kids, M.getD k.toNat false = true
  least : ∀ j, M.getD j false = true → j = ts.length - 1 ∨ ∃ j', j < j' ∧ j' < ts.length ∧ M.getD j' false = true ∧ (j : Int) ∈ (ts.getD j' clNil).kids
theorem marks_ok {ts : List Claim} (h : okGo ts 0 = true) : MarksOk ts (marksM ts) := by
  have hk : ∀ j, j < ts.length → ∀ k ∈ (ts.getD j clNil).kids, 0 ≤ k ∧ k < (j : Int) := fun j hj k hkk => by have := (okGo_iff ts 0).1 h j hj k hkk; simpa using this
  obtain ⟨h1, h2, h3, h4, h5⟩ := mark_spec ts hk ts.length ((List.replicate ts.length false).set (ts.length - 1) true) (Nat.le_refl _) (by simp)
  refine ⟨by rw [marksM, h1]; simp, fun hp => h3 _ ?_, hk, fun j hj => h4 j hj, fun j hj => ?_⟩
  · rw [getD_set (by simp; omega), if_pos rfl]
  · rcases h5 j hj with h | h
    · left
      by_cases hp : 0 < ts.length
      · rw [getD_set (by simp; omega)] at h
        by_cases e : j = ts.length - 1
        · exact e
        · rw [if_neg e, List.getD_eq_getElem?_getD, List.getElem?_replicate] at h
          split at h <;> simp at h
      · rw [List.eq_nil_of_length_eq_zero (by omega : ts.length = 0)] at h
        simp at h
    · exact .inr h
/-- how many places below j are marked -/
def rank : List Bool → Nat → Nat
  | _, 0 => 0
  | [], _ => 0
  | m :: r, j + 1 => (if m = true then 1 else 0) + rank r j
theorem rank_succ : ∀ (M : List Bool) (j : Nat), rank M (j + 1) = rank M j + if M.getD j false = true then 1 else 0
  | [], 0 => by simp [rank]
  | [], j + 1 => by simp [rank]
  | m :: r, 0 => by cases r <;> simp [rank]
  | m :: r, j + 1 => by
    rw [rank, rank_succ r j, rank]
    simp only [List.getD_cons_succ]
    omega
theorem rank_mono (M : List Bool) {a b : Nat} (h : a ≤ b) : rank M a ≤ rank M b := by
  induction h with
  | refl => exact Nat.le_refl _
  | step _ ih => rw [Nat.succ_eq_add_one, rank_succ]; omega
theorem rank_lt {M : List Bool} {a b : Nat} (h : a < b) (hm : M.getD a false = true) : rank M a < rank M b := by
  have h1 := rank_mono M (show a + 1 ≤ b by omega)
  rw [rank_succ, if_pos hm] at h1
  omega
theorem rank_le (M : List Bool) : ∀ j, rank M j ≤ j
  | 0 => by cases M <;> simp [rank]
  | j + 1 => by rw [rank_succ]; have := rank_le M j; split <;> omega
def sel : List Claim → List Bool → List Claim
  | c :: r, m :: mr => if m = true then c :: sel r mr else sel r mr
  | _, _ => []
theorem sel_get : ∀ {ts : List Claim} {M : List Bool} {j : Nat}, M.length = ts.length → M.getD j false = true → (sel ts M)[rank M j]? = ts[j]?
  | [], [], j, _, h => by simp at h
  | c :: r, m :: mr, 0, hl, h => by
    have : m = true := by simpa using h
    subst this
    simp [sel, rank]
  | c :: r, m :: mr, j + 1, hl, h => by
    have ih := @sel_get r mr j (by simpa using hl) (by simpa using h)
    rw [sel, rank]
    cases m
    · simpa using ih
    · rw [if_pos rfl, if_pos rfl, show 1 + rank mr j = rank mr j + 1 by omega]; simpa using ih
theorem sel_len : ∀ {ts : List Claim} {M : List Bool}, M.length = ts.length → (sel ts M).length = rank M ts.length
  | [], [], _ => rfl
  | c :: r, m :: mr, hl => by
    have ih := @sel_len r mr (by simpa using hl)
    rw [sel, List.length_cons, rank]
    cases m
    · simpa using ih
    · rw [if_pos rfl, if_pos rfl, List.length_cons, ih]; omega
theorem rank_surj : ∀ (M : List Bool) (n p : Nat), p < rank M n → ∃ j, j < n ∧ M.getD j false = true ∧ rank M j = p
  | M, 0, p, h => by cases M <;> simp [rank] at h
  | M, n + 1, p, h => by
    by_cases hp : p < rank M n
    · obtain ⟨j, h1, h2⟩ := rank_surj M n p hp
      exact ⟨j, by omega, h2⟩
    · rw [rank_succ] at h
      by_cases hm : M.getD n false = true
      · rw [if_pos hm] at h
        exact ⟨n, by omega, hm, by omega⟩
      · rw [if_neg hm] at h; omega
/-- a claim under its new names -/
def renF (M : List Bool) (c : Claim) : Claim := { c with kids := c.kids.map fun k => ((rank M k.toNat : Nat) : Int) }
theorem renGo_sel {ts : List Claim} {M : List Bool} (h : MarksOk ts M) : ∀ (r : List Claim) (mr : List Bool) (nm : List Int) (i n : Nat), ts.drop i = r → M.drop i = mr → nm.length = ts.length → n = rank M i →
    (∀ j, j < i → M.getD j false = true → nm.getD j 0 = ((rank M j : Nat) : Int)) → renGo r mr nm i n = (sel r mr).map (renF M)
  | [], mr, nm, i, n, _, _, _, _, _ => by cases mr <;> rfl
  | c :: r, [], nm, i, n, hr, hmr, _, _, _ => by
    have h1 := drop_nil hmr
    have h2 := (drop_cons hr).2.2
    have := h.len
    omega
  | c :: r, m :: mr, nm, i, n, hr, hmr, hl, hn, hg => by
    obtain ⟨r1, r2, r3⟩ := drop_cons hr
    obtain ⟨m1, m2, m3⟩ := drop_cons hmr
    have hmi : M.getD i false = m := by rw [List.getD_eq_getElem?_getD, m1]; rfl
    have hci : ts.getD i clNil = c := by rw [List.getD_eq_getElem?_getD, r1]; rfl
    have hrs := rank_succ M i
    rw [hmi] at hrs
    rw [renGo, sel]
    by_cases hm : m = true
    · rw [if_pos hm] at hrs
      rw [if_pos hm, if_pos hm, List.map_cons]
      have hg2 : ∀ j, j < i + 1 → M.getD j false = true → (nm.set i (n : Int)).getD j 0 = ((rank M j : Nat) : Int) := fun j hj hmj => by
        rw [getD_set (by omega)]
        by_cases e : j = i
        · rw [if_pos e, e, hn]
        · rw [if_neg e]; exact hg j (by omega) hmj
      rw [renGo_sel h r mr (nm.set i n) (i + 1) (n + 1) r2 m2 (by simpa using hl) (by omega) hg2]
      congr 1
      unfold renC renF
      congr 1
      refine List.map_congr_left fun k hk => ?_
      have hkk := h.kids i r3 k (by rw [hci]; exact hk)
      exact hg2 _ (by omega) (h.closed i r3 (by rw [hmi]; exact hm) k (by rw [hci]; exact hk))
    · rw [if_neg hm] at hrs
      rw [if_neg hm, if_neg hm]
      refine renGo_sel h r mr nm (i + 1) n r2 m2 hl (by omega) fun j hj hmj => ?_
      by_cases e : j = i
      · rw [e, hmi] at hmj
        exact absurd hmj hm
      · exact hg j (by omega) hmj
theorem prnM_eq {ts : List Claim} (h : okGo ts 0 = true) : prnM ts = (sel ts (marksM ts)).map (renF (marksM ts)) := by
  unfold prnM
  rw [if_neg (by simp [h])]
  exact renGo_sel (marks_ok h) _ _ _ 0 0 rfl rfl (by simp) (by cases marksM ts <;> rfl) fun j hj => by omega
theorem prn_at {ts : List Claim} (h : okGo ts 0 = true) {j : Nat} (hj : j < ts.length) (hm : (marksM ts).getD j false = true) :
    rank (marksM ts) j < (prnM ts).length ∧ (prnM ts).getD (rank (marksM ts) j) clNil = renF (marksM ts) (ts.getD j clNil) := by
  have hk := marks_ok h
  have hg := sel_get hk.len hm
  rw [List.getElem?_eq_getElem hj] at hg
  rw [prnM_eq h]
  refine ⟨by rw [List.length_map]; exact (List.getElem?_eq_some_iff.1 hg).1, ?_⟩
  rw [List.getD_eq_getElem?_getD, List.getElem?_map, hg, List.getD_eq_getElem?_getD, List.getElem?_eq_getElem hj]
  rfl
theorem prn_len {ts : List Claim} (h : okGo ts 0 = true) : (prnM ts).length = rank (marksM ts) ts.length := by
  rw [prnM_eq h, List.length_map, sel_len (marks_ok h).len]
theorem prn_inv {ts : List Claim} (h : okGo ts 0 = true) {p : Nat} (hp : p < (prnM ts).length) : ∃ j, j < ts.length ∧ (marksM ts).getD j false = true ∧ rank (marksM ts) j = p ∧ (prnM ts).getD p clNil = renF (marksM ts) (ts.getD j clNil) := by
  rw [prn_len h] at hp
  obtain ⟨j, h1, h2, h3⟩ := rank_surj _ _ _ hp
  exact ⟨j, h1, h2, h3, by rw [← h3]; exact (prn_at h h1 h2).2⟩
theorem prn_last {ts : List Claim} (h : okGo ts 0 = true) (hp : 0 < ts.length) : (prnM ts).length = rank (marksM ts) (ts.length - 1) + 1 := by
  rw [prn_len h]
  have := rank_succ (marksM ts) (ts.length - 1)
  rw [show ts.length - 1 + 1 = ts.length by omega, if_pos ((marks_ok h).last hp)] at this
  exact this

/-! ### twice is once -/
theorem prn_ok {ts : List Claim} (h : okGo ts 0 = true) : okGo (prnM ts) 0 = true := by
  refine (okGo_iff _ 0).2 fun p hp k hk => ?_
  obtain ⟨j, h1, h2, h3, h4⟩ := prn_inv h hp
  rw [h4] at hk
  obtain ⟨x, hx, rfl⟩ := List.mem_map.1 hk
  have hkk := (marks_ok h).kids j h1 x hx
  have := rank_lt (show x.toNat < j by omega) ((marks_ok h).closed j h1 h2 x hx)
  omega
theorem prn_marks {ts : List Claim} (h : okGo ts 0 = true) : ∀ p, p < (prnM ts).length → (marksM (prnM ts)).getD p false = true := by
  have hu := marks_ok (prn_ok h)
  have hk := marks_ok h
  -- downwards
  have key : ∀ d p, p < (prnM ts).length → (prnM ts).length - 1 - p ≤ d → (marksM (prnM ts)).getD p false = true := by
    intro d
    induction d with
    | zero =>
      intro p hp hd
      rw [show p = (prnM ts).length - 1 by omega]
      exact hu.last (by omega)
    | succ d ih =>
      intro p hp hd
      by_cases e : p = (prnM ts).length - 1
      · rw [e]; exact hu.last (by omega)
      obtain ⟨j, h1, h2, h3, h4⟩ := prn_inv h hp
      rcases hk.least j h2 with hl | ⟨j', e1, e2, e3, e4⟩
      · subst hl
        have := prn_last h (by omega)
        omega
      · obtain ⟨q1, q2⟩ := prn_at h e2 e3
        have hlt := rank_lt e1 h2
        have hm := ih (rank (marksM ts) j') q1 (by omega)
        have := hu.closed _ q1 hm (p : Int) (by
          rw [q2]
          exact List.mem_map.2 ⟨(j : Int), e4, by rw [← h3]; rfl⟩)
        simpa using this
  exact fun p hp => key _ p hp (Nat.le_refl _)
theorem rank_ones : ∀ (M : List Bool) (n : Nat), (∀ p, p < n → M.getD p false = true) → rank M n = n
  | M, 0, _ => by cases M <;> rfl
  | M, n + 1, h => by rw [rank_succ, rank_ones M n (fun p hp => h p (by omega)), if_pos (h n (by omega))]
theorem sel_ones : ∀ (ts : List Claim) (M : List Bool), M.length = ts.length → (∀ p, p < ts.length → M.getD p false = true) → sel ts M = ts
  | [], [], _, _ => rfl
  | c :: r, m :: mr, hl, h => by
    have : m = true := by simpa using h 0 (by simp)
    subst this
    rw [sel, if_pos rfl, sel_ones r mr (by simpa using hl) (fun p hp => by have := h (p + 1) (by simp; omega); simpa using this)]
theorem prn_prn (ts : List Claim) : prnM (prnM ts) = prnM ts := by
  by_cases h : okGo ts 0 = true
  · have hu := marks_ok (prn_ok h)
    have hm := prn_marks h
    rw [prnM_eq (prn_ok h), sel_ones _ _ hu.len hm]
    conv => rhs; rw [← List.map_id (prnM ts)]
    refine List.map_congr_left fun c hc => ?_
    obtain ⟨p, hp⟩ := List.mem_iff_getElem?.1 hc
    have hpl := (List.getElem?_eq_some_iff.1 hp).1
    have hcp : (prnM ts).getD p clNil = c := by rw [List.getD_eq_getElem?_getD, hp]; rfl
    show renF _ c = c
    obtain ⟨cl, ru, li, ki, co⟩ := c
    unfold renF
    congr 1
    conv => rhs; rw [← List.map_id ki]
    refine List.map_congr_left fun k hk => ?_
    have hkk := hu.kids p hpl k (by rw [hcp]; exact hk)
    rw [rank_ones _ _ fun q hq => hm q (by omega)]
    show ((k.toNat : Nat) : Int) = k
    omega
  · have : prnM ts = ts := by unfold prnM; rw [if_pos (by simpa using h)]
    rw [this, this]

/-! ### the total stays -/
def strip (c : Claim) : Claim := { c with kids := [] }
theorem strip_getD (ks : List Claim) (i : Nat) : (ks.map strip).getD i clNil = strip (ks.getD i clNil) := by
  rw [List.getD_eq_getElem?_getD, List.getD_eq_getElem?_getD, List.getElem?_map]
  cases ks[i]? <;> rfl
theorem disj_strip : ∀ (ks : List Claim) (s : List Int), disjGo (ks.map strip) s = disjGo ks s
  | [], s => rfl
  | k :: r, s => by
    rw [List.map_cons, disjGo, disjGo, disj_strip r]
    rfl
theorem all_strip (ks : List Claim) : allM (ks.map strip) = allM ks := by
  unfold allM
  rw [List.flatMap_map]
  rfl
theorem prod_strip (n : Int) : ∀ (ks : List Claim) (p : Int), prodGo n (ks.map strip) p = prodGo n ks p
  | [], p => rfl
  | k :: r, p => by
    rw [List.map_cons, prodGo, prodGo, prod_strip n r]
    rfl
theorem fol_strip (keep : Int) (c : Claim) (ks : List Claim) (vs : List Int) : folM keep (strip c) (ks.map strip) vs = folM keep c ks vs := by
  unfold folM unitM decM splitM tryM bothM resB liftM
  simp only [strip_getD, disj_strip, all_strip, prod_strip, List.length_map, List.any_map]
  rfl
theorem cc_mk {keep : Int} {ts : List Claim} {i : Nat} (h0 : 0 ≤ keep) (h40 : keep ≤ 40) (hi : i < ts.length) (hc : canB (ts.getD i clNil).cls = true) (hn : 0 ≤ (ts.getD i clNil).count) (hm : (ts.getD i clNil).count ≤ 2 ^ (keptM keep (occM (ts.getD i clNil).cls)).length)
    (hk : ∀ k ∈ (ts.getD i clNil).kids, 0 ≤ k ∧ k < (i : Int)) (hf : folM keep (ts.getD i clNil) (kidsM ts (ts.getD i clNil)) (occM (ts.getD i clNil).cls) = true) : ccM keep ts i = 0 := by
  unfold ccM
  rw [show ((i : Nat) : Int).toNat = i by omega]
  rw [if_neg (by omega), if_neg (by rw [hc]; simp), if_neg (by omega), if_neg, if_neg (by rw [hf]; simp)]
  have := badAt_no.2 hk
  unfold badAt at this
  rw [this]; simp
theorem ccGo_zero {keep : Int} {ts : List Claim} : ∀ (n i : Nat), (∀ j, i ≤ j → j < i + n → ccM keep ts j = 0) → ccGo keep ts n i = 0
  | 0, i, _ => rfl
  | n + 1, i, h => by
    rw [ccGo, if_neg (by simp [h i (Nat.le_refl _) (by omega)])]
    exact ccGo_zero n (i + 1) fun j h1 h2 => h j (by omega) (by omega)
theorem tck_mk {vars keep : Int} {cs : List (List Int)} {ts : List Claim} (hc : checkM vars keep cs = 0) (h40 : keep ≤ 40) (hl : ts.length ≤ 65536) (hp : 0 < ts.length) (ha : ∀ i : Nat, i < ts.length → ccM keep ts i = 0) (hz : (ts.getD (ts.length - 1) clNil).cls = cs) : tckM vars keep cs ts = 0 := by
  unfold tckM
  rw [if_neg (by simp [hc]), if_neg (by omega), if_neg (by omega), if_neg (by rw [ccGo_zero _ _ fun j _ hj => ha j (by omega)]; simp), if_neg (by rw [hz]; simp)]
theorem prn_acc {vars keep : Int} {cs : List (List Int)} {ts : List Claim} (h : tckM vars keep cs ts = 0) : tckM vars keep cs (prnM ts) = 0 ∧ totN keep cs (prnM ts) = totN keep cs ts := by
  obtain ⟨hc, h40, hp, ha, hz⟩ := tck_acc h
  have hl : ts.length ≤ 65536 := by
    unfold tckM at h
    rw [if_neg (by simp [hc])] at h
    by_cases h1 : 40 < keep ∨ 65536 < ts.length
    · rw [if_pos h1] at h; cases h
    · omega
  have hok : okGo ts 0 = true := (okGo_iff ts 0).2 fun j hj k hk => by
    have := (cc_count (ha j hj)).2.2.2.2.2.2.1 k hk
    simpa using this
  have hmk := marks_ok hok
  have hlast := prn_last hok hp
  obtain ⟨_, hzl⟩ := prn_at hok (show ts.length - 1 < ts.length by omega) (hmk.last hp)
  have hzl2 : (prnM ts).getD ((prnM ts).length - 1) clNil = renF (marksM ts) (ts.getD (ts.length - 1) clNil) := by
    rw [hlast, Nat.add_sub_cancel]; exact hzl
  refine ⟨tck_mk hc h40 ?_ (by omega) (fun p hp2 => ?_) ?_, ?_⟩
  · rw [prn_len hok]
    have := rank_le (marksM ts) ts.length
    omega
  · obtain ⟨j, h1, h2, h3, h4⟩ := prn_inv hok hp2
    obtain ⟨e1, e2, e3, e4, e5, e6, e7, e8⟩ := cc_count (ha j h1)
    refine cc_mk e1 e2 hp2 (by rw [h4]; exact e4) (by rw [h4]; exact e5) (by rw [h4]; exact e6) (fun k hk => ?_) ?_
    · have := (okGo_iff _ 0).1 (prn_ok hok) p hp2 k hk
      simpa using this
    · rw [h4]
      show folM keep (renF (marksM ts) (ts.getD j clNil)) (kidsM (prnM ts) (renF (marksM ts) (ts.getD j clNil))) (occM (ts.getD j clNil).cls) = true
      rw [← e8, ← fol_strip keep (renF _ _), ← fol_strip keep (ts.getD j clNil)]
      have hkids : (kidsM (prnM ts) (renF (marksM ts) (ts.getD j clNil))).map strip = (kidsM ts (ts.getD j clNil)).map strip := by
        unfold kidsM renF
        simp only [List.map_map]
        refine List.map_congr_left fun k hk => ?_
        have hkk := hmk.kids j h1 k hk
        have := (prn_at hok (show k.toNat < ts.length by omega) (hmk.closed j h1 h2 k hk)).2
        simp only [Function.comp, Int.toNat_natCast]
        rw [this]
        rfl
      rw [hkids]
      rfl
  · rw [hzl2]; exact hz
  · unfold totN
    rw [hzl2]
    rfl
end Go.Proofs.YtpikkkiepafelaaGreat
