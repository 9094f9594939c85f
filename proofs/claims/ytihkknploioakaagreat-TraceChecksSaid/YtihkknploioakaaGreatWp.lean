/- (Trace seat Z) Plain: the statement's definition of a claim's following agrees with the checker's. No condition but the ranges. -/
import Derived.Test.YtihkknploioakaaGreatVp
import Derived.Test.YtihkknploioakaaGreatWg
namespace Go.Proofs.YtihkknploioakaaGreat
open Go.ChangeShapes Go.WideShapes Go.ChangeAt Go.RowKit
set_option linter.unusedVariables false

def prodS : List Claim → Int → Int × Bool
  | [], p => (p, true)
  | k :: r, p => if 1099511627776 / k.count < p then (0, false) else prodS r (p * k.count)
def splitS (f : List (List Int)) (ks : List Claim) : Int × Bool :=
  if ks.length < 2 then (0, false)
  else if disjGo ks [] = false then (0, false)
  else if (allM ks).length ≠ f.length ∨ (canM (allM ks) == f) = false then (0, false)
  else if (ks.any fun k => decide (k.count = 0)) = true then (0, true)
  else prodS ks 1
def occB (c : Claim) : Bool := decide (0 < sizeM c.lit) && (occM c.cls).contains (sizeM c.lit)
def wovS (keep : Int) (c : Claim) : List Int := withoutM (keptM keep (occM c.cls)) (sizeM c.lit)
def unitS (keep : Int) (c : Claim) (ks : List Claim) : Bool :=
  if ks.length ≠ 1 ∨ sizeM c.lit = 0 ∨ (c.cls.any fun x => x == [c.lit]) = false ∨ resB c ks 0 c.lit = false then false
  else (liftS keep (wovS keep c) (ks.getD 0 clNil)).2 && (c.count == (liftS keep (wovS keep c) (ks.getD 0 clNil)).1)
def decS (keep : Int) (c : Claim) (ks : List Claim) : Bool :=
  if c.lit < 1 ∨ keep < c.lit ∨ occB c = false ∨ residualsM c.cls (sizeM c.lit) ks = false then false
  else (liftS keep (wovS keep c) (ks.getD 0 clNil)).2 && ((liftS keep (wovS keep c) (ks.getD 1 clNil)).2 && (c.count == (liftS keep (wovS keep c) (ks.getD 0 clNil)).1 + (liftS keep (wovS keep c) (ks.getD 1 clNil)).1))
def splS (c : Claim) (ks : List Claim) : Bool := (c.lit == 0) && ((splitS c.cls ks).2 && (c.count == (splitS c.cls ks).1))
def tryS (keep : Int) (c : Claim) (ks : List Claim) : Bool :=
  occB c && (decide ((keptM keep (occM c.cls)).length = 0) && (decide (ks.length = 1) && (resB c ks 0 c.lit && (((ks.getD 0 clNil).count == 1) && (c.count == 1)))))
def bothS (c : Claim) (ks : List Claim) : Bool :=
  decide (0 < c.lit) && (occB c && (residualsM c.cls (sizeM c.lit) ks && (((ks.getD 0 clNil).count == 0) && (((ks.getD 1 clNil).count == 0) && (c.count == 0)))))
def folS (keep : Int) (c : Claim) (ks : List Claim) : Bool :=
  if (ks.any fun k => decide (k.count < 0) || decide (1099511627776 < k.count)) = true then false
  else if c.rule = 0 then (c.lit == 0) && (decide (ks.length = 0) && (decide (c.cls.length = 0) && (c.count == 1)))
  else if c.rule = 1 then (c.lit == 0) && (decide (ks.length = 0) && (decide (0 < c.cls.length) && (decide ((c.cls.getD 0 []).length = 0) && (c.count == 0))))
  else if c.rule = 2 then unitS keep c ks
  else if c.rule = 3 then decS keep c ks
  else if c.rule = 4 then splS c ks
  else if c.rule = 5 then tryS keep c ks
  else if c.rule = 6 then bothS c ks
  else false

theorem size_iff {lit v : Int} (h : 1 ≤ v ∧ v ≤ 20000) : (lit = v ∨ lit = -v) ↔ sizeM lit = v := by
  unfold sizeM varM
  repeat' split
  all_goals omega
theorem size_range (lit : Int) : 0 ≤ sizeM lit ∧ sizeM lit ≤ 20000 := by
  unfold sizeM varM
  repeat' split
  all_goals omega
theorem varK_size {lit : Int} : ∀ {vs : List Int}, (∀ v ∈ vs, 1 ≤ v ∧ v ≤ 20000) → varK lit vs = if (decide (0 < sizeM lit) && vs.contains (sizeM lit)) = true then sizeM lit else 0
  | [], _ => by simp [varK]
  | v :: r, h => by
    have hv := h v (List.mem_cons_self ..)
    have ih := varK_size (lit := lit) (vs := r) fun x hx => h x (List.mem_cons_of_mem _ hx)
    rw [varK]
    by_cases q : sizeM lit = v
    · rw [if_pos ((size_iff hv).2 q), q]
      simp
      omega
    · rw [if_neg (fun h => q ((size_iff hv).1 h)), ih]
      simp [q]
theorem varK_occ (c : Claim) : varK c.lit (occM c.cls) = if occB c = true then sizeM c.lit else 0 := varK_size fun v hv => occM_range hv
theorem occB_pos {c : Claim} (h : occB c = true) : 0 < sizeM c.lit := by
  unfold occB at h
  simp at h
  exact h.1
theorem lost_eq (keep v : Int) (O : List Int) (cs : List (List Int)) : lostM v (keptM keep O) (occM cs) = lostS keep (withoutM (keptM keep O) v) cs := by
  unfold lostM lostS withoutM
  rw [List.filter_filter]
  congr 1
  refine List.filter_congr fun w hw => ?_
  have hk := (kept_mem.1 hw).2
  have : (keptM keep (occM cs)).contains w = (occM cs).contains w := by
    rw [Bool.eq_iff_iff]
    simp [kept_mem, hk]
  rw [this, Bool.and_comm]
theorem dbl_cases : ∀ (t : Nat) (n : Int), 0 ≤ n → n ≤ 1099511627776 → ((dblS t n).2 = true ∧ dblM t n = (dblS t n).1 ∧ 0 ≤ (dblS t n).1 ∧ (dblS t n).1 ≤ 1099511627776) ∨ ((dblS t n).2 = false ∧ (dblM t n < 0 ∨ 1099511627776 < dblM t n))
  | 0, n, h0, h1 => .inl ⟨rfl, rfl, h0, h1⟩
  | t + 1, n, h0, h1 => by
    rw [dblM, if_neg (by omega), dblS]
    by_cases q : 1099511627776 < n * 2
    · rw [if_pos q]
      refine .inr ⟨rfl, ?_⟩
      rcases t with _ | t
      · exact .inr q
      · rw [dblM, if_pos q]; exact .inl (by omega)
    · rw [if_neg q]
      exact dbl_cases t (n * 2) (by omega) (by omega)
theorem lift_cases (keep : Int) (c k : Claim) (h0 : 0 ≤ k.count) (h1 : k.count ≤ 1099511627776) :
    ((liftS keep (wovS keep c) k).2 = true ∧ liftM keep (sizeM c.lit) (occM c.cls) k = (liftS keep (wovS keep c) k).1 ∧ 0 ≤ (liftS keep (wovS keep c) k).1 ∧ (liftS keep (wovS keep c) k).1 ≤ 1099511627776) ∨
    ((liftS keep (wovS keep c) k).2 = false ∧ (liftM keep (sizeM c.lit) (occM c.cls) k < 0 ∨ 1099511627776 < liftM keep (sizeM c.lit) (occM c.cls) k)) := by
  unfold liftS liftM wovS
  rw [lost_eq]
  exact dbl_cases _ _ h0 h1
theorem prod_eq {cnt : Int} : ∀ {ks : List Claim} {p : Int}, prodGo cnt ks p = ((prodS ks p).2 && (cnt == (prodS ks p).1))
  | [], p => by simp [prodGo, prodS]
  | k :: r, p => by
    rw [prodGo, prodS]
    split
    · rfl
    · exact prod_eq
theorem spl_eq (c : Claim) (ks : List Claim) : splS c ks = splitM c ks := by
  unfold splS splitM splitS
  by_cases h0 : c.lit = 0
  · rw [show (c.lit == 0) = true by simpa using h0, Bool.true_and]
    by_cases h2 : ks.length < 2
    · rw [if_pos h2, if_pos (.inr h2)]; rfl
    have hn : ¬(c.lit ≠ 0 ∨ ks.length < 2) := by rintro (h | h); exact h h0; exact h2 h
    rw [if_neg h2, if_neg hn]
    by_cases h3 : disjGo ks [] = false
    · rw [if_pos h3, if_pos h3]; rfl
    rw [if_neg h3, if_neg h3]
    by_cases h4 : (allM ks).length ≠ c.cls.length ∨ (canM (allM ks) == c.cls) = false
    · rw [if_pos h4, if_pos h4]; rfl
    rw [if_neg h4, if_neg h4]
    by_cases h5 : (ks.any fun k => decide (k.count = 0)) = true
    · rw [if_pos h5, if_pos h5]; rfl
    rw [if_neg h5, if_neg h5]
    exact prod_eq.symm
  · rw [show (c.lit == 0) = false by simpa using h0, Bool.false_and, if_pos (.inl h0)]
theorem unit_eq {keep : Int} {c : Claim} {ks : List Claim} (hc : Cn' c.cls) (hk : ∀ k ∈ ks, 0 ≤ k.count ∧ k.count ≤ 1099511627776) (h0 : 0 ≤ c.count) (h1 : c.count ≤ 1099511627776) : unitS keep c ks = unitM keep c ks (occM c.cls) := by
  unfold unitS unitM
  by_cases ha : (c.cls.any fun x => x == [c.lit]) = false
  · rw [if_pos (.inr (.inr (.inl ha))), if_pos (.inr (.inr ha))]
  have ha' : (c.cls.any fun x => x == [c.lit]) = true := by simpa using ha
  obtain ⟨x, hx, hxe⟩ := List.any_eq_true.1 ha'
  have hxe := beq_iff_eq.1 hxe
  subst hxe
  have hl := hc.2 _ hx c.lit (List.mem_cons_self ..)
  have ho : varM c.lit ∈ occM c.cls := hc.mem.2 ⟨_, hx, c.lit, List.mem_cons_self .., rfl⟩
  have hs : sizeM c.lit = varM c.lit := by unfold sizeM; rw [if_neg (by omega)]
  have hb : occB c = true := by
    unfold occB
    rw [hs]
    have := occM_range ho
    simp [ho]
    omega
  rw [varK_occ, if_pos hb]
  have hp := occB_pos hb
  by_cases hn : ks.length = 1
  · obtain ⟨k, rfl⟩ : ∃ k, ks = [k] := by
      rcases ks with _ | ⟨a, _ | ⟨b, r⟩⟩
      · simp at hn
      · exact ⟨a, rfl⟩
      · simp at hn
    obtain ⟨k0, k1⟩ := hk k (List.mem_cons_self ..)
    rw [if_neg (show ¬(sizeM c.lit = 0 ∨ ([k] : List Claim).length ≠ 1 ∨ (c.cls.any fun x => x == [c.lit]) = false) by rintro (h | h | h); omega; exact h rfl; exact ha h)]
    by_cases hr : resB c [k] 0 c.lit = false
    · rw [if_pos (.inr (.inr (.inr hr))), hr]; rfl
    rw [if_neg (by rintro (h | h | h | h); exact h rfl; omega; exact ha h; exact hr h), show resB c [k] 0 c.lit = true by simpa using hr, Bool.true_and]
    show ((liftS keep (wovS keep c) k).2 && (c.count == (liftS keep (wovS keep c) k).1)) = (c.count == liftM keep (sizeM c.lit) (occM c.cls) k)
    rcases lift_cases keep c k k0 k1 with ⟨e1, e2, _, _⟩ | ⟨e1, e2⟩
    · rw [e1, e2, Bool.true_and]
    · rw [e1, Bool.false_and]
      symm
      simp
      omega
  · rw [if_pos (.inl hn), if_pos (.inr (.inl hn))]
theorem resd_eq {c : Claim} {ks : List Claim} (V : Int) : residualsM c.cls V ks = (decide (ks.length = 2) && (resB c ks 0 (-V) && resB c ks 1 V)) := rfl
theorem dec_eq {keep : Int} {c : Claim} {ks : List Claim} (hc : Cn' c.cls) (hk : ∀ k ∈ ks, 0 ≤ k.count ∧ k.count ≤ 1099511627776) (h0 : 0 ≤ c.count) (h1 : c.count ≤ 1099511627776) : decS keep c ks = decM keep c ks (occM c.cls) := by
  unfold decS decM
  rw [varK_occ]
  by_cases hb : occB c = true
  case neg =>
    rw [if_pos (.inr (.inr (.inl (by simpa using hb)))), if_pos (.inl (if_neg hb))]
  rw [if_pos hb]
  have hp := occB_pos hb
  have hz := size_range c.lit
  by_cases hl : c.lit = sizeM c.lit
  case neg =>
    have hlt : c.lit < 1 := by
      rcases (size_iff (lit := c.lit) ⟨hp, hz.2⟩).2 rfl with h | h
      · exact absurd h hl
      · omega
    rw [if_pos (.inl hlt), if_pos (.inr (.inl hl))]
  by_cases hkp : keep < sizeM c.lit
  · rw [if_pos (.inr (.inl (by omega))), if_pos (.inr (.inr (.inl hkp)))]
  rw [resd_eq]
  by_cases h2 : ks.length = 2
  case neg =>
    rw [if_pos (.inr (.inr (.inr (by rw [decide_eq_false h2]; rfl)))), if_pos (.inr (.inr (.inr (.inl h2))))]
  rw [decide_eq_true h2, Bool.true_and]
  by_cases r0 : resB c ks 0 (-sizeM c.lit) = false
  · rw [if_pos (.inr (.inr (.inr (by rw [r0]; rfl)))), if_pos (.inr (.inr (.inr (.inr (.inl r0)))))]
  by_cases r1 : resB c ks 1 (sizeM c.lit) = false
  · rw [if_pos (.inr (.inr (.inr (by rw [r1, Bool.and_false])))), if_pos (.inr (.inr (.inr (.inr (.inr r1)))))]
  have r0' : resB c ks 0 (-sizeM c.lit) = true := by simpa using r0
  have r1' : resB c ks 1 (sizeM c.lit) = true := by simpa using r1
  rw [if_neg (by rintro (h | h | h | h); omega; omega; rw [hb] at h; cases h; rw [r0', r1'] at h; cases h),
    if_neg (by rintro (h | h | h | h | h | h); omega; exact h hl; exact hkp h; exact h h2; exact r0 h; exact r1 h)]
  obtain ⟨a, b, rfl⟩ := two_ks h2
  obtain ⟨a0, a1⟩ := hk a (by simp)
  obtain ⟨b0, b1⟩ := hk b (by simp)
  show ((liftS keep (wovS keep c) a).2 && ((liftS keep (wovS keep c) b).2 && (c.count == (liftS keep (wovS keep c) a).1 + (liftS keep (wovS keep c) b).1))) = (decide (0 ≤ liftM keep (sizeM c.lit) (occM c.cls) a) && (decide (0 ≤ liftM keep (sizeM c.lit) (occM c.cls) b) && (c.count == liftM keep (sizeM c.lit) (occM c.cls) a + liftM keep (sizeM c.lit) (occM c.cls) b)))
  have hx := lift_cases keep c a a0 a1
  have hy := lift_cases keep c b b0 b1
  generalize liftM keep (sizeM c.lit) (occM c.cls) a = x at *
  generalize liftM keep (sizeM c.lit) (occM c.cls) b = y at *
  generalize liftS keep (wovS keep c) a = p at *
  generalize liftS keep (wovS keep c) b = q at *
  rcases hx with ⟨e1, e2, e3, e4⟩ | ⟨e1, e2⟩ <;> rcases hy with ⟨g1, g2, g3, g4⟩ | ⟨g1, g2⟩
  · rw [e1, g1, e2, g2, decide_eq_true e3, decide_eq_true g3]
  all_goals
    first | rw [e1, Bool.false_and] | rw [e1, g1, Bool.false_and, Bool.and_false]
    symm
    rw [Bool.eq_false_iff]
    simp only [ne_eq, Bool.and_eq_true, decide_eq_true_eq, beq_iff_eq, not_and]
    omega
theorem try_eq {keep : Int} {c : Claim} {ks : List Claim} : tryS keep c ks = tryM keep c ks (occM c.cls) := by
  unfold tryS tryM
  rw [varK_occ]
  by_cases hb : occB c = true
  case neg =>
    rw [if_pos (.inl (if_neg hb)), show occB c = false by simpa using hb, Bool.false_and]
  rw [if_pos hb, hb, Bool.true_and]
  have hp := occB_pos hb
  by_cases hn : ks.length = 1
  case neg => rw [if_pos (.inr (.inl hn)), decide_eq_false hn, Bool.false_and, Bool.and_false]
  by_cases hkk : (keptM keep (occM c.cls)).length = 0
  case neg => rw [if_pos (.inr (.inr (.inl (by omega)))), decide_eq_false hkk, Bool.false_and]
  by_cases r0 : resB c ks 0 c.lit = false
  · rw [if_pos (.inr (.inr (.inr r0))), r0, Bool.false_and, Bool.and_false, Bool.and_false]
  rw [if_neg (by rintro (h | h | h | h); omega; exact h hn; omega; exact r0 h), decide_eq_true hn, decide_eq_true hkk, show resB c ks 0 c.lit = true by simpa using r0]
  rfl
theorem both_eq {c : Claim} {ks : List Claim} : bothS c ks = bothM c ks (occM c.cls) := by
  unfold bothS bothM
  rw [varK_occ]
  by_cases hb : occB c = true
  case neg =>
    rw [if_pos (.inl (if_neg hb)), show occB c = false by simpa using hb, Bool.false_and, Bool.and_false]
  rw [if_pos hb, hb, Bool.true_and]
  have hp := occB_pos hb
  have hz := size_range c.lit
  by_cases hl : c.lit = sizeM c.lit
  case neg =>
    rw [if_pos (.inr (.inl hl)), decide_eq_false, Bool.false_and]
    rcases (size_iff (lit := c.lit) ⟨hp, hz.2⟩).2 rfl with h | h
    · exact absurd h hl
    · omega
  rw [decide_eq_true (show 0 < c.lit by omega), Bool.true_and, resd_eq]
  by_cases h2 : ks.length = 2
  case neg => rw [if_pos (.inr (.inr (.inl h2))), decide_eq_false h2, Bool.false_and, Bool.false_and]
  by_cases r0 : resB c ks 0 (-sizeM c.lit) = false
  · rw [if_pos (.inr (.inr (.inr (.inl r0)))), r0, Bool.false_and, Bool.and_false, Bool.false_and]
  by_cases r1 : resB c ks 1 (sizeM c.lit) = false
  · rw [if_pos (.inr (.inr (.inr (.inr r1)))), r1, Bool.and_false, Bool.and_false, Bool.false_and]
  rw [if_neg (by rintro (h | h | h | h | h); omega; exact h hl; exact h h2; exact r0 h; exact r1 h), decide_eq_true h2, show resB c ks 0 (-sizeM c.lit) = true by simpa using r0, show resB c ks 1 (sizeM c.lit) = true by simpa using r1]
  rfl
/-- a canonical list has its empty clause first -/
theorem empty_first {cs : List (List Int)} (hc : Cn' cs) : (cs.any fun x => decide (x.length = 0)) = (decide (0 < cs.length) && decide ((cs.getD 0 []).length = 0)) := by
  rcases cs with _ | ⟨y, r⟩
  · rfl
  rw [List.any_cons, decide_eq_true (show 0 < (y :: r).length by simp), Bool.true_and]
  show (decide (y.length = 0) || _) = decide (y.length = 0)
  by_cases hy : y.length = 0
  · rw [decide_eq_true hy, Bool.true_or]
  rw [decide_eq_false hy, Bool.false_or, List.any_eq_false]
  intro x hx
  have hs : Strict clsC (y :: r) := ((canGo_iff none _).1 ((canGo_canM _).2 hc.1)).2.1
  have h1 := (List.pairwise_cons.1 hs).1 x hx
  rcases x with _ | ⟨a, x⟩
  · rcases y with _ | ⟨b, y⟩
    · simp at hy
    · simp [clsC] at h1
  · simp
theorem fol_eq {keep : Int} {c : Claim} {ks : List Claim} (hc : Cn' c.cls) (h0 : 0 ≤ c.count) (h1 : c.count ≤ 1099511627776) : folS keep c ks = folM keep c ks (occM c.cls) := by
  unfold folS folM
  by_cases ha : (ks.any fun k => decide (k.count < 0) || decide (1099511627776 < k.count)) = true
  · rw [if_pos ha, if_pos ha]
  rw [if_neg ha, if_neg ha]
  have hk : ∀ k ∈ ks, 0 ≤ k.count ∧ k.count ≤ 1099511627776 := by simpa using ha
  rw [unit_eq hc hk h0 h1, dec_eq hc hk h0 h1, spl_eq, try_eq, both_eq, empty_first hc, Bool.and_assoc]
end Go.Proofs.YtihkknploioakaaGreat
