/- (Trace text seat) What reading numbers, claims and traces means, as relations in plain Lean. No condition. -/
import Derived.Test.YtljaegmmfjllkaaGreatDoorN3
namespace Go.Proofs.YtljaegmmfjllkaaGreatDoor
open Go.RowKit Go.Lib
set_option linter.unusedVariables false
set_option linter.unusedSimpArgs false

theorem rest_uniq {n n' : Int} {l l' : List Int} {m m' : Bts} (hn : I64 n) (hn' : I64 n') (h : restT (n :: l) m = restT (n' :: l') m') : n = n' ∧ restT l m = restT l' m' := by
  obtain ⟨s, hs, e⟩ := rest_step n l m
  obtain ⟨s', hs', e'⟩ := rest_step n' l' m'
  rw [e, e'] at h
  have h1 := idx_itoa n hs (restT l m)
  rw [h, idx_itoa n' hs' _] at h1
  have hlen : (itoa n).length = (itoa n').length := by omega
  obtain ⟨e1, e2⟩ := List.append_inj h hlen
  injection e2 with e3 e4
  have a1 := all_itoa hn.1 hn.2
  rw [e1, all_itoa hn'.1 hn'.2] at a1
  injection a1 with a1
  exact ⟨a1.symm, e4⟩
theorem good_drop : ∀ (l r : List Int) (m : Bts), GoodT (restT (l ++ r) m) → GoodT (restT r m)
  | [], r, m, h => h
  | x :: l, r, m, h => by
    obtain ⟨s, _, e⟩ := rest_step x (l ++ r) m
    rw [List.cons_append, e] at h
    exact good_drop l r m h.tail
/-- one call of number: from the text t and the mark b to t' and b', with the answer n -/
structure StepR (t : Bts) (b : Bool) (n : Int) (t' : Bts) (b' : Bool) : Prop where
  i : I64 n
  lt : n ≠ 0 ∨ b' = false → t'.length < t.length
  le : t'.length ≤ t.length
  mono : b' = false → b = false
  exact : b = false → ∀ (n0 : Int) (l : List Int) (m : Bts), I64 n0 → GoodT (restT (n0 :: l) m) → t = restT (n0 :: l) m → n = n0 ∧ t' = restT l m ∧ b' = false
inductive Steps (t : Bts) (b : Bool) : List Int → Bts → Bool → Prop
  | nil : Steps t b [] t b
  | snoc {l : List Int} {n : Int} {t1 t2 : Bts} {b1 b2 : Bool} (h : Steps t b l t1 b1) (h1 : StepR t1 b1 n t2 b2) : Steps t b (l ++ [n]) t2 b2
theorem Steps.le {t t' : Bts} {b b' : Bool} {l : List Int} (h : Steps t b l t' b') : t'.length ≤ t.length := by
  induction h with
  | nil => exact Nat.le_refl _
  | snoc h h1 ih => exact Nat.le_trans h1.le ih
theorem Steps.mono {t t' : Bts} {b b' : Bool} {l : List Int} (h : Steps t b l t' b') : b' = false → b = false := by
  induction h with
  | nil => exact id
  | snoc h h1 ih => exact fun e => ih (h1.mono e)
theorem Steps.i64 {t t' : Bts} {b b' : Bool} {l : List Int} (h : Steps t b l t' b') : ∀ n ∈ l, I64 n := by
  induction h with
  | nil => intro n hn; cases hn
  | snoc h h1 ih =>
    intro n hn
    rcases List.mem_append.1 hn with hn | hn
    · exact ih n hn
    · rw [List.mem_singleton.1 hn]; exact h1.i
theorem Steps.len {t t' : Bts} {b b' : Bool} {l : List Int} (h : Steps t b l t' b') : b' = false → l.length + t'.length ≤ t.length := by
  induction h with
  | nil => intro _; simp
  | snoc h h1 ih =>
    intro e
    have i1 := ih (h1.mono e)
    have i2 := h1.lt (.inr e)
    rw [List.length_append, List.length_singleton]
    omega
theorem Steps.app {t t1 t2 : Bts} {b b1 b2 : Bool} {l l2 : List Int} (h : Steps t b l t1 b1) (h2 : Steps t1 b1 l2 t2 b2) : Steps t b (l ++ l2) t2 b2 := by
  induction h2 with
  | nil => rw [List.append_nil]; exact h
  | snoc h3 h4 ih => rw [← List.append_assoc]; exact .snoc ih h4
/-- one list goes on the other -/
def CP : List Int → List Int → Prop
  | [], _ => True
  | _ :: _, [] => True
  | a :: l, b :: L => a = b ∧ CP l L
theorem cp_take : ∀ {l L : List Int}, CP l L → l.length ≤ L.length → l = L.take l.length
  | [], _, _, _ => by simp
  | a :: l, [], _, h => by simp at h
  | a :: l, b :: L, h, hl => by
    obtain ⟨e, h⟩ := h
    rw [List.length_cons, List.length_cons] at hl
    rw [List.length_cons, List.take_succ_cons, ← cp_take h (by omega), e]
theorem cp_over : ∀ {l L : List Int} (z : List Int), CP l L → L.length ≤ l.length → CP (l ++ z) L
  | [], [], z, _, _ => by cases z <;> trivial
  | [], b :: L, z, _, h => by simp at h
  | a :: l, [], z, _, _ => trivial
  | a :: l, b :: L, z, h, hl => ⟨h.1, cp_over z h.2 (by simpa using hl)⟩
theorem cp_pre : ∀ (l r : List Int), CP l (l ++ r)
  | [], r => trivial
  | a :: l, r => ⟨rfl, cp_pre l r⟩
theorem cp_drop : ∀ {a l L : List Int}, CP (a ++ l) (a ++ L) → CP l L
  | [], l, L, h => h
  | x :: a, l, L, h => cp_drop (a := a) h.2
theorem Steps.exact {t t' : Bts} {b b' : Bool} {l : List Int} (h : Steps t b l t' b') : b = false → ∀ (L : List Int) (m : Bts), (∀ x ∈ L, I64 x) → GoodT (restT L m) → t = restT L m → CP l L ∧ (l.length ≤ L.length → t' = restT (L.drop l.length) m ∧ b' = false) := by
  induction h with
  | nil =>
    intro hb L m _ _ e
    exact ⟨trivial, fun _ => ⟨e, hb⟩⟩
  | @snoc l n t1 t2 b1 b2 h h1 ih =>
    intro hb L m h64 hg e
    obtain ⟨i1, i2⟩ := ih hb L m h64 hg e
    by_cases hl : l.length < L.length
    · obtain ⟨e1, e2⟩ := i2 (by omega)
      have et := cp_take i1 (by omega)
      have ed := List.drop_eq_getElem_cons hl
      obtain ⟨x, hx⟩ : ∃ x, L[l.length] = x := ⟨_, rfl⟩
      rw [hx] at ed
      have eL : L = l ++ x :: L.drop (l.length + 1) := by rw [← ed]; conv => lhs; rw [← List.take_append_drop l.length L, ← et]
      have hx64 : I64 x := h64 x (by rw [eL]; simp)
      have hg2 : GoodT (restT (x :: L.drop (l.length + 1)) m) := good_drop l _ m (by rw [← eL]; exact hg)
      obtain ⟨q1, q2, q3⟩ := h1.exact e2 x _ m hx64 hg2 (by rw [e1, ed])
      subst q1
      refine ⟨?_, fun _ => ⟨by rw [List.length_append, List.length_singleton]; exact q2, q3⟩⟩
      have := cp_pre (l ++ [n]) (L.drop (l.length + 1))
      rw [List.append_assoc, List.singleton_append, ← eL] at this
      exact this
    · refine ⟨cp_over _ i1 (by omega), fun h2 => ?_⟩
      rw [List.length_append, List.length_singleton] at h2
      omega
theorem cp_clause : ∀ (x y r s : List Int), (∀ n ∈ x, n ≠ 0) → (∀ n ∈ y, n ≠ 0) → CP (x ++ 0 :: r) (y ++ 0 :: s) → x = y ∧ CP r s
  | [], [], r, s, _, _, h => ⟨rfl, h.2⟩
  | [], b :: y, r, s, _, hy, h => absurd h.1.symm (hy b (List.mem_cons_self ..))
  | a :: x, [], r, s, hx, _, h => absurd h.1 (hx a (List.mem_cons_self ..))
  | a :: x, b :: y, r, s, hx, hy, h => by
    obtain ⟨e1, e2⟩ := cp_clause x y r s (fun n hn => hx n (List.mem_cons_of_mem _ hn)) (fun n hn => hy n (List.mem_cons_of_mem _ hn)) h.2
    exact ⟨by rw [h.1, e1], e2⟩
theorem cp_flat : ∀ (cs ds : List (List Int)), (∀ x ∈ cs, ∀ n ∈ x, n ≠ 0) → (∀ x ∈ ds, ∀ n ∈ x, n ≠ 0) → cs.length ≤ ds.length → CP (flatM cs) (flatM ds) → cs = ds.take cs.length
  | [], _, _, _, _, _ => by simp
  | a :: cs, [], _, _, h, _ => by simp at h
  | a :: cs, b :: ds, hc, hd, hl, h => by
    obtain ⟨e1, e2⟩ := cp_clause a b _ _ (hc a (List.mem_cons_self ..)) (hd b (List.mem_cons_self ..)) h
    have e3 := cp_flat cs ds (fun x hx => hc x (List.mem_cons_of_mem _ hx)) (fun x hx => hd x (List.mem_cons_of_mem _ hx)) (by simpa using hl) e2
    rw [List.length_cons, List.take_succ_cons, ← e3, e1]
theorem flat_take (ds : List (List Int)) (k : Nat) : (flatM (ds.take k)).length ≤ (flatM ds).length := by
  have e := congrArg List.length (flat_app (ds.take k) (ds.drop k))
  rw [List.take_append_drop, List.length_append] at e
  omega
/-- what the reader's claim reads -/
def ClmR (t : Bts) (b : Bool) (c : Claim) (t' : Bts) (b' : Bool) : Prop :=
  ∃ (nk nc : Int) (t1 : Bts) (b1 : Bool), Steps t b (c.rule :: c.lit :: c.count :: nk :: c.kids) t1 b1 ∧ c.kids.length ≤ nk.toNat ∧ (b1 = true ∨ c.kids.length = nk.toNat) ∧
    Steps t1 b1 (nc :: flatM c.cls) t' b' ∧ c.cls.length ≤ nc.toNat ∧ (b' = true ∨ c.cls.length = nc.toNat) ∧ ∀ x ∈ c.cls, ∀ n ∈ x, n ≠ 0
theorem ClmR.le {t t' : Bts} {b b' : Bool} {c : Claim} (h : ClmR t b c t' b') : t'.length ≤ t.length := by
  obtain ⟨_, _, _, _, h1, _, _, h2, _⟩ := h
  exact Nat.le_trans h2.le h1.le
theorem ClmR.mono {t t' : Bts} {b b' : Bool} {c : Claim} (h : ClmR t b c t' b') : b' = false → b = false := by
  obtain ⟨_, _, _, _, h1, _, _, h2, _⟩ := h
  exact fun e => h1.mono (h2.mono e)
theorem ClmR.len {t t' : Bts} {b b' : Bool} {c : Claim} (h : ClmR t b c t' b') (e : b' = false) : (lineM c).length + t'.length ≤ t.length := by
  obtain ⟨_, _, _, _, h1, _, _, h2, _⟩ := h
  have i1 := h1.len (h2.mono e)
  have i2 := h2.len e
  unfold lineM
  simp only [List.length_cons, List.length_append] at i1 i2 ⊢
  omega
theorem ClmR.nz {t t' : Bts} {b b' : Bool} {c : Claim} (h : ClmR t b c t' b') : ∀ x ∈ c.cls, ∀ n ∈ x, n ≠ 0 := by
  obtain ⟨_, _, _, _, _, _, _, _, _, _, h⟩ := h
  exact h
theorem ClmR.exact {t t' : Bts} {b b' : Bool} {c : Claim} (h : ClmR t b c t' b') (hb : b = false) (d : Claim) (m : Bts) (h64 : ∀ x ∈ lineM d, I64 x) (hg : GoodT (restT (lineM d) m)) (e : t = restT (lineM d) m) (hd : ∀ x ∈ d.cls, ∀ n ∈ x, n ≠ 0) : c = d ∧ t' = m ∧ b' = false := by
  obtain ⟨nk, nc, t1, b1, h1, hk, hkb, h2, hc, hcb, hz⟩ := h
  obtain ⟨i1, i2⟩ := h1.exact hb _ m h64 hg e
  obtain ⟨e1, e2, e3, e4, i5⟩ := i1
  have ekl : nk.toNat = d.kids.length := by rw [e4]; simp
  have hkl : c.kids.length ≤ d.kids.length := by omega
  obtain ⟨e5, e6⟩ := i2 (by unfold lineM; simp only [List.length_cons, List.length_append]; omega)
  have hkk : c.kids.length = d.kids.length := by
    rcases hkb with h | h
    · rw [e6] at h; cases h
    · omega
  have i6 := cp_take i5 (by rw [List.length_append]; omega)
  rw [hkk, List.take_left] at i6
  have ed : (lineM d).drop (c.rule :: c.lit :: c.count :: nk :: c.kids).length = (d.cls.length : Int) :: flatM d.cls := by
    unfold lineM
    simp only [List.length_cons, List.drop_succ_cons]
    rw [hkk, List.drop_left]
  rw [ed] at e5
  have eL : lineM d = (d.rule :: d.lit :: d.count :: (d.kids.length : Int) :: d.kids) ++ ((d.cls.length : Int) :: flatM d.cls) := rfl
  have h64' : ∀ x ∈ (d.cls.length : Int) :: flatM d.cls, I64 x := fun x hx => h64 x (by rw [eL]; exact List.mem_append_right _ hx)
  have hg' : GoodT (restT ((d.cls.length : Int) :: flatM d.cls) m) := good_drop _ _ m (by rw [← eL]; exact hg)
  obtain ⟨⟨j1, j2⟩, j3⟩ := h2.exact e6 _ m h64' hg' e5
  have ecl : nc.toNat = d.cls.length := by rw [j1]; simp
  have q1 := cp_flat c.cls d.cls hz hd (by omega) j2
  have q2 := flat_take d.cls c.cls.length
  rw [← q1] at q2
  obtain ⟨j4, j5⟩ := j3 (by simp only [List.length_cons]; omega)
  have hcc : c.cls.length = d.cls.length := by
    rcases hcb with h | h
    · rw [j5] at h; cases h
    · omega
  rw [hcc, List.take_length] at q1
  refine ⟨?_, ?_, j5⟩
  · cases c; cases d; simp_all
  · rw [j4, q1]
    simp [restT]
inductive ClmsR (t : Bts) (b : Bool) : List Claim → Bts → Bool → Prop
  | nil : ClmsR t b [] t b
  | snoc {l : List Claim} {c : Claim} {t1 t2 : Bts} {b1 b2 : Bool} (h : ClmsR t b l t1 b1) (h1 : ClmR t1 b1 c t2 b2) : ClmsR t b (l ++ [c]) t2 b2
theorem ClmsR.le {t t' : Bts} {b b' : Bool} {l : List Claim} (h : ClmsR t b l t' b') : t'.length ≤ t.length := by
  induction h with
  | nil => exact Nat.le_refl _
  | snoc h h1 ih => exact Nat.le_trans h1.le ih
theorem ClmsR.mono {t t' : Bts} {b b' : Bool} {l : List Claim} (h : ClmsR t b l t' b') : b' = false → b = false := by
  induction h with
  | nil => exact id
  | snoc h h1 ih => exact fun e => ih (h1.mono e)
def lineS (l : List Claim) : Nat := (l.map fun c => (lineM c).length).sum
theorem ClmsR.len {t t' : Bts} {b b' : Bool} {l : List Claim} (h : ClmsR t b l t' b') : b' = false → lineS l + t'.length ≤ t.length := by
  induction h with
  | nil => intro _; simp [lineS]
  | snoc h h1 ih =>
    intro e
    have i1 := ih (h1.mono e)
    have i2 := h1.len e
    unfold lineS at i1 ⊢
    rw [List.map_append, List.sum_append, List.map_singleton, List.sum_singleton]
    omega
theorem ClmsR.nz {t t' : Bts} {b b' : Bool} {l : List Claim} (h : ClmsR t b l t' b') : ∀ c ∈ l, ∀ x ∈ c.cls, ∀ n ∈ x, n ≠ 0 := by
  induction h with
  | nil => intro c hc; cases hc
  | snoc h h1 ih =>
    intro c hc
    rcases List.mem_append.1 hc with hc | hc
    · exact ih c hc
    · rw [List.mem_singleton.1 hc]; exact h1.nz
theorem ClmsR.exact {t t' : Bts} {b b' : Bool} {l : List Claim} (h : ClmsR t b l t' b') : b = false → ∀ (ds : List Claim), (∀ d ∈ ds, ∀ x ∈ lineM d, I64 x) → GoodT (clmsT ds) → t = clmsT ds → (∀ d ∈ ds, ∀ x ∈ d.cls, ∀ n ∈ x, n ≠ 0) → l.length ≤ ds.length → l = ds.take l.length ∧ t' = clmsT (ds.drop l.length) ∧ b' = false := by
  induction h with
  | nil =>
    intro hb ds _ _ e _ _
    exact ⟨by simp, e, hb⟩
  | @snoc l c t1 t2 b1 b2 h h1 ih =>
    intro hb ds h64 hg e hz hl
    rw [List.length_append, List.length_singleton] at hl
    obtain ⟨i1, i2, i3⟩ := ih hb ds h64 hg e hz (by omega)
    have hlt : l.length < ds.length := by omega
    have ed := List.drop_eq_getElem_cons hlt
    obtain ⟨x, hx⟩ : ∃ x, ds[l.length] = x := ⟨_, rfl⟩
    rw [hx] at ed
    have hm : x ∈ ds := by rw [← hx]; exact List.getElem_mem hlt
    have hgd : GoodT (clmsT (ds.drop l.length)) := by
      have e2 := clms_app (ds.take l.length) (ds.drop l.length)
      rw [List.take_append_drop] at e2
      rw [e2] at hg
      exact ⟨fun b hb => hg.1 b (List.mem_append_right _ hb), by have := hg.2; rw [List.length_append] at this; omega⟩
    rw [ed, clms_rest] at i2 hgd
    obtain ⟨q1, q2, q3⟩ := h1.exact i3 x _ (h64 x hm) hgd i2 (hz x hm)
    subst q1
    refine ⟨?_, by rw [List.length_append, List.length_singleton]; exact q2, q3⟩
    rw [List.length_append, List.length_singleton, List.take_add_one, ← i1, List.getElem?_eq_getElem hlt, hx]
    rfl
end Go.Proofs.YtljaegmmfjllkaaGreatDoor
