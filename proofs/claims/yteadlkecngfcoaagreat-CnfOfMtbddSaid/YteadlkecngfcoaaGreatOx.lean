/- Plain: the projected models of an OfMtbdd formula are the words that the diagram reaches. No program in sight. -/
import Derived.Test.YteadlkecngfcoaaGreatQ2
import Derived.Test.YteadlkecngfcoaaGreatNc
import Derived.Test.YteadlkecngfcoaaGreatOt
import Derived.Test.YteadlkecngfcoaaGreatOp
namespace Go.Proofs.YteadlkecngfcoaaGreat
open Go.RowKit
set_option linter.unusedVariables false

/-! ### assignments and lists of bits -/
theorem assM_cons (n k : Nat) : assM (n + 1) k = k.testBit n :: assM n k := by
  unfold assM
  rw [List.range_succ_eq_map, List.map_cons, List.map_map]
  congr 1
  refine List.map_congr_left fun j hj => ?_
  show k.testBit (n + 1 - 1 - (j + 1)) = k.testBit (n - 1 - j)
  congr 1
  omega
theorem assM_add (n k : Nat) : ∀ m, m ≤ n → assM m (2 ^ n + k) = assM m k
  | 0, _ => rfl
  | m + 1, h => by
    rw [assM_cons, assM_cons, assM_add n k m (by omega), Nat.testBit_two_pow_add_gt (by omega)]
theorem assM_ex : ∀ (x : List Bool), ∃ k, k < 2 ^ x.length ∧ assM x.length k = x
  | [] => ⟨0, by simp, rfl⟩
  | b :: y => by
    obtain ⟨k, hk, e⟩ := assM_ex y
    cases b with
    | false =>
      refine ⟨k, by rw [List.length_cons, Nat.pow_succ]; omega, ?_⟩
      rw [List.length_cons, assM_cons, e, Nat.testBit_lt_two_pow hk]
    | true =>
      refine ⟨2 ^ y.length + k, by rw [List.length_cons, Nat.pow_succ]; omega, ?_⟩
      rw [List.length_cons, assM_cons, assM_add _ _ _ (Nat.le_refl _), e, Nat.testBit_two_pow_add_eq, Nat.testBit_lt_two_pow hk]
      rfl
theorem assM_get {n k j : Nat} (h : j < n) : (assM n k)[j]? = some (k.testBit (n - 1 - j)) := by
  unfold assM
  rw [List.getElem?_map, List.getElem?_range h]
  rfl
theorem assM_inj {n k l : Nat} (hk : k < 2 ^ n) (hl : l < 2 ^ n) (h : assM n k = assM n l) : k = l := by
  refine Nat.eq_of_testBit_eq fun i => ?_
  by_cases hi : i < n
  · have h1 := assM_get (n := n) (k := k) (j := n - 1 - i) (by omega)
    have h2 := assM_get (n := n) (k := l) (j := n - 1 - i) (by omega)
    rw [h, h2] at h1
    injection h1 with h1
    rw [show n - 1 - (n - 1 - i) = i by omega] at h1
    exact h1.symm
  · rw [Nat.testBit_lt_two_pow (Nat.lt_of_lt_of_le hk (Nat.pow_le_pow_right (by omega) (by omega))), Nat.testBit_lt_two_pow (Nat.lt_of_lt_of_le hl (Nat.pow_le_pow_right (by omega) (by omega)))]
theorem sum_one (k0 : Nat) : ∀ N, sumTo (fun k => if k = k0 then 1 else 0) N = if k0 < N then 1 else 0
  | 0 => by simp [sumTo]
  | N + 1 => by
    rw [sumTo, sum_one k0 N]
    by_cases h : N = k0
    · rw [if_pos h, if_neg (by omega), if_pos (by omega)]
    · rw [if_neg h]
      by_cases h2 : k0 < N
      · rw [if_pos h2, if_pos (by omega)]
      · rw [if_neg h2, if_neg (by omega)]
theorem sum_plus (F G : Nat → Nat) : ∀ N, sumTo (fun k => F k + G k) N = sumTo F N + sumTo G N
  | 0 => rfl
  | N + 1 => by rw [sumTo, sumTo, sumTo, sum_plus F G N]; omega
theorem sum_zero : ∀ N, sumTo (fun _ => 0) N = 0
  | 0 => rfl
  | N + 1 => by rw [sumTo, sum_zero N]
theorem sum_mem (D : Nat) : ∀ (l : List (List Bool)), l.Nodup → (∀ x ∈ l, x.length = D) → sumTo (fun k => if assM D k ∈ l then 1 else 0) (2 ^ D) = l.length
  | [], _, _ => by simp [sum_zero]
  | x :: r, hn, hl => by
    obtain ⟨hx, hr⟩ := List.nodup_cons.1 hn
    have hxl := hl x (List.mem_cons_self ..)
    obtain ⟨k0, hk0, e0⟩ := assM_ex x
    rw [hxl] at hk0 e0
    rw [List.length_cons, ← sum_mem D r hr fun y hy => hl y (List.mem_cons_of_mem _ hy)]
    have h1 : sumTo (fun k => if k = k0 then 1 else 0) (2 ^ D) = 1 := by rw [sum_one, if_pos hk0]
    refine (sumTo_congr (G := fun k => (if k = k0 then 1 else 0) + (if assM D k ∈ r then 1 else 0)) fun k hk => ?_).trans (by rw [sum_plus, h1, Nat.add_comm])
    show (if assM D k ∈ x :: r then 1 else 0) = (if k = k0 then 1 else 0) + (if assM D k ∈ r then 1 else 0)
    by_cases h : k = k0
    · subst h
      rw [if_pos (by rw [e0]; exact List.mem_cons_self ..), if_pos rfl, if_neg (by rw [e0]; exact hx)]
    · have hne : assM D k ≠ x := fun e => h (assM_inj hk hk0 (e.trans e0.symm))
      rw [if_neg h]
      by_cases h2 : assM D k ∈ r
      · rw [if_pos (List.mem_cons_of_mem _ h2), if_pos h2]
      · rw [if_neg (by simp [hne, h2]), if_neg h2]

/-! ### the clauses -/
theorem evR_cons (f : Int → Bool) (c : List Int) (r : List (List Int)) : evR f (c :: r) = (c.any (litR f) && evR f r) := by unfold evR; rw [List.all_cons]
theorem litR_p (f : Int → Bool) {x : Int} (h : 0 < x) : litR f x = f x := by unfold litR; rw [if_pos h]
theorem litR_n (f : Int → Bool) {x : Int} (h : 0 < x) : litR f (-x) = !f x := by rw [litR_neg f (by omega), litR_p f h]
theorem bits_ev (f : Int → Bool) {A : Int} (hA : 0 < A) : ∀ (bs : List Bool) (k : Nat), evR f (btC A bs k) = true ↔ (f A = true → ∀ (j : Nat) (b : Bool), bs[j]? = some b → f (((k + j : Nat) : Int) + 1) = b)
  | [], k => by simp [btC, evR]
  | b :: r, k => by
    have hl : litR f (if b = true then (k : Int) + 1 else -(k : Int) - 1) = (f ((k : Int) + 1) == b) := by
      cases b with
      | true => rw [if_pos rfl, litR_p f (by omega)]; simp
      | false => rw [if_neg (by simp), show -(k : Int) - 1 = -((k : Int) + 1) by omega, litR_n f (by omega)]; simp
    rw [btC, evR_cons, Bool.and_eq_true, bits_ev f hA r (k + 1)]
    simp only [List.any_cons, List.any_nil, Bool.or_false, litR_n f hA, hl]
    constructor
    · rintro ⟨h1, h2⟩ ha j c hc
      rcases j with _ | j
      · simp at hc
        subst hc
        rw [ha] at h1
        simpa using h1
      · have := h2 ha j c (by simpa using hc)
        rw [show k + (j + 1) = k + 1 + j by omega]
        exact this
    · intro h
      refine ⟨?_, fun ha j c hc => ?_⟩
      · cases ha : f A with
        | false => simp
        | true =>
          have := h ha 0 b (by simp)
          simpa using this
      · have := h ha (j + 1) c (by simpa using hc)
        rw [show k + 1 + j = k + (j + 1) by omega]
        exact this
theorem ndC_ev (f : Int → Bool) {fst : Int} {wd L : Nat} (hf : 0 < fst) : ∀ (r : List Fork) (i : Nat), (∀ g ∈ r, 0 ≤ g.1 ∧ 0 ≤ g.2.1 ∧ 0 ≤ g.2.2) →
    (evR f (ndC fst wd L r i) = true ↔ ∀ (j : Nat) (g : Fork), r[j]? = some g → f (fst + L + ((i + j : Nat) : Int)) = true → f (fst + if f (wd + g.1 + 1) = true then g.2.2 else g.2.1) = true)
  | [], i, _ => by simp [ndC, evR]
  | g :: r, i, hg => by
    obtain ⟨g1, g2, g3⟩ := hg g (List.mem_cons_self ..)
    rw [ndC, evR_cons, evR_cons, Bool.and_eq_true, Bool.and_eq_true, ndC_ev f hf r (i + 1) fun x hx => hg x (List.mem_cons_of_mem _ hx)]
    simp only [List.any_cons, List.any_nil, Bool.or_false]
    rw [litR_n f (show (0 : Int) < fst + L + i by omega), litR_n f (show (0 : Int) < wd + g.1 + 1 by omega), litR_p f (show (0 : Int) < fst + g.2.2 by omega), litR_p f (show (0 : Int) < wd + g.1 + 1 by omega), litR_p f (show (0 : Int) < fst + g.2.1 by omega)]
    constructor
    · rintro ⟨h1, h2, h3⟩ j x hx ha
      rcases j with _ | j
      · simp at hx
        subst hx
        simp only [Nat.add_zero] at ha
        rw [ha] at h1 h2
        split <;> simp_all
      · have := h3 j x (by simpa using hx)
        rw [show i + 1 + j = i + (j + 1) by omega] at this
        exact this ha
    · intro h
      have h0 := h 0 g (by simp)
      simp only [Nat.add_zero] at h0
      refine ⟨?_, ?_, fun j x hx ha => ?_⟩
      · cases ha : f (fst + L + i) with
        | false => rfl
        | true =>
          have := h0 ha
          cases hx : f (wd + g.1 + 1) with
          | false => rfl
          | true => rw [hx, if_pos rfl] at this; simp [this]
      · cases ha : f (fst + L + i) with
        | false => rfl
        | true =>
          have := h0 ha
          cases hx : f (wd + g.1 + 1) with
          | true => rfl
          | false => rw [hx, if_neg (by simp)] at this; simp [this]
      · rw [show i + 1 + j = i + (j + 1) by omega] at ha
        exact h (j + 1) x (by simpa using hx) ha
/-- the leaf's value is a word that the bits spell -/
def Spell (f : Int → Bool) (ws : List (List Bool)) (v : Int) : Prop := ¬ v < 0 ∧ ∀ (k : Nat) (b : Bool), (ws.getD v.toNat [])[k]? = some b → f ((k : Int) + 1) = b
theorem lfC_ev (f : Int → Bool) {fst : Int} (ws : List (List Bool)) (hf : 0 < fst) : ∀ (r : List Int) (i : Nat),
    (evR f (lfC fst ws r i) = true ↔ ∀ (j : Nat) (v : Int), r[j]? = some v → f (fst + ((i + j : Nat) : Int)) = true → Spell f ws v)
  | [], i => by simp [lfC, evR]
  | v :: r, i => by
    rw [lfC, evR_app, Bool.and_eq_true, lfC_ev f ws hf r (i + 1)]
    have h0 : evR f (if v < 0 then [[-(fst + i)]] else btC (fst + i) (ws.getD v.toNat []) 0) = true ↔ (f (fst + i) = true → Spell f ws v) := by
      by_cases hv : v < 0
      · rw [if_pos hv, evR_cons]
        simp only [List.any_cons, List.any_nil, Bool.or_false]
        rw [litR_n f (by omega)]
        unfold Spell
        cases f (fst + i) <;> simp [evR, hv]
      · rw [if_neg hv, bits_ev f (by omega)]
        unfold Spell
        simp only [Nat.zero_add]
        exact ⟨fun h ha => ⟨hv, h ha⟩, fun h ha => (h ha).2⟩
    rw [h0]
    constructor
    · rintro ⟨h1, h2⟩ j x hx ha
      rcases j with _ | j
      · simp at hx
        subst hx
        exact h1 (by simpa using ha)
      · exact h2 j x (by simpa using hx) (by rw [show i + 1 + j = i + (j + 1) by omega]; exact ha)
    · intro h
      refine ⟨fun ha => h 0 v (by simp) (by simpa using ha), fun j x hx ha => h (j + 1) x (by simpa using hx) (by rw [show i + (j + 1) = i + 1 + j by omega]; exact ha)⟩
/-- what a diagram of the right form has -/
structure MtOk (m : Nat) (lvs : List Int) (ns : List Fork) (root : Int) (ws : List (List Bool)) : Prop where
  hm : m ≤ 40
  hL : lvs.length ≤ 40
  hn : ns.length ≤ 40
  back : BackB lvs.length ns
  rt : 0 ≤ root ∧ root < lvs.length + ns.length
  vr : ∀ f ∈ ns, 0 ≤ f.1 ∧ f.1 < m
  hD : widM ws ≤ 12
  same : SameW ws
  fit : FitW lvs ws
theorem MtOk.refs {m : Nat} {lvs : List Int} {ns : List Fork} {root : Int} {ws : List (List Bool)} (h : MtOk m lvs ns root ws) : ∀ g ∈ ns, (0 ≤ g.2.1 ∧ g.2.1 < lvs.length + ns.length) ∧ (0 ≤ g.2.2 ∧ g.2.2 < lvs.length + ns.length) := fun g hg => by
  obtain ⟨j, hj⟩ := List.getElem?_of_mem hg
  have hlt := (List.getElem?_eq_some_iff.1 hj).1
  have := h.back j g hj
  exact ⟨⟨by omega, by omega⟩, by omega, by omega⟩
/-- the leaf that an assignment reaches -/
def lfV (m : Nat) (lvs : List Int) (ns : List Fork) (root : Int) (h : Int → Bool) : Int := lvs.getD (folV ns lvs.length h (lvs.length + ns.length) root).toNat 0
theorem mtC_ev {m : Nat} {lvs : List Int} {ns : List Fork} {root : Int} {ws : List (List Bool)} (f : Int → Bool) (h : MtOk m lvs ns root ws) {F : Int} (hF : fstM m ws = F) : evR f (mtC m lvs ns root ws) = true ↔
    f (F + root) = true ∧ (∀ (j : Nat) (g : Fork), ns[j]? = some g → f (F + lvs.length + (j : Int)) = true → f (F + if f ((widM ws : Int) + g.1 + 1) = true then g.2.2 else g.2.1) = true) ∧ (∀ (j : Nat) (v : Int), lvs[j]? = some v → f (F + (j : Int)) = true → Spell f ws v) := by
  have hF0 : 0 < F := by rw [← hF]; unfold fstM; omega
  have hr := h.rt
  unfold mtC
  rw [hF, evR_cons, evR_app, Bool.and_eq_true, Bool.and_eq_true, ndC_ev f hF0 ns 0 (fun g hg => ⟨(h.vr g hg).1, (h.refs g hg).1.1, (h.refs g hg).2.1⟩), lfC_ev f ws hF0 lvs 0]
  simp only [List.any_cons, List.any_nil, Bool.or_false, Nat.zero_add]
  rw [litR_p f (by omega)]
/-- an assignment spells the word of the leaf that it reaches -/
def MtT (m : Nat) (lvs : List Int) (ns : List Fork) (root : Int) (ws : List (List Bool)) (f : Int → Bool) : Prop := Spell f ws (lfV m lvs ns root fun v => f ((widM ws : Int) + v + 1))
theorem names_up {m : Nat} {lvs : List Int} {ns : List Fork} {root : Int} {ws : List (List Bool)} {f : Int → Bool} {F : Int} (h : MtOk m lvs ns root ws) (he : ∀ (j : Nat) (g : Fork), ns[j]? = some g → f (F + lvs.length + (j : Int)) = true → f (F + if f ((widM ws : Int) + g.1 + 1) = true then g.2.2 else g.2.1) = true) :
    ∀ (k : Nat) (r : Int), 0 ≤ r → r < lvs.length + ns.length → r < k → f (F + r) = true → f (F + folV ns lvs.length (fun v => f ((widM ws : Int) + v + 1)) k r) = true
  | 0, r, h0, h1, h2, h3 => by omega
  | k + 1, r, h0, h1, h2, h3 => by
    rw [folV]
    by_cases hr : r < lvs.length
    · rw [if_pos hr]; exact h3
    · rw [if_neg hr]
      obtain ⟨g, hg⟩ : ∃ g, ns[(r - lvs.length).toNat]? = some g := ⟨_, List.getElem?_eq_getElem (by omega)⟩
      rw [hg]
      simp only
      have hbk := h.back _ g hg
      have h4 := he _ g hg
      rw [show F + (lvs.length : Int) + ((r - lvs.length).toNat : Int) = F + r by omega] at h4
      have h5 := h4 h3
      split
      · rename_i hx
        rw [if_pos hx] at h5
        exact names_up h he k _ (by omega) (by omega) (by omega) h5
      · rename_i hx
        rw [if_neg hx] at h5
        exact names_up h he k _ (by omega) (by omega) (by omega) h5
theorem mt_down {m : Nat} {lvs : List Int} {ns : List Fork} {root : Int} {ws : List (List Bool)} (h : MtOk m lvs ns root ws) (f : Int → Bool) (hf : evR f (mtC m lvs ns root ws) = true) : MtT m lvs ns root ws f := by
  obtain ⟨F, hF⟩ : ∃ F, fstM (m : Int) ws = F := ⟨_, rfl⟩
  obtain ⟨h1, h2, h3⟩ := (mtC_ev f h hF).1 hf
  have hr := h.rt
  have h4 := names_up h h2 (lvs.length + ns.length) root hr.1 hr.2 (by omega) h1
  have h5 := fol_end h.back (fun v => f ((widM ws : Int) + v + 1)) (lvs.length + ns.length) root hr.1 hr.2 (by omega)
  unfold MtT lfV
  generalize folV ns (lvs.length : Int) (fun v => f ((widM ws : Int) + v + 1)) (lvs.length + ns.length) root = i at h4 h5
  obtain ⟨v, hv⟩ : ∃ v, lvs[i.toNat]? = some v := ⟨_, List.getElem?_eq_getElem (by omega)⟩
  rw [getD_some hv]
  exact h3 i.toNat v hv (by rw [show F + (i.toNat : Int) = F + i by omega]; exact h4)
theorem mt_up {m : Nat} {lvs : List Int} {ns : List Fork} {root : Int} {ws : List (List Bool)} (h : MtOk m lvs ns root ws) (f : Int → Bool) (hf : MtT m lvs ns root ws f) : ∃ g, evR g (mtC m lvs ns root ws) = true ∧ ∀ v, v ≤ (widM ws : Int) + m → g v = f v := by
  obtain ⟨F, hF⟩ : ∃ F, fstM (m : Int) ws = F := ⟨_, rfl⟩
  have hFe : F = (widM ws : Int) + m + 1 := by rw [← hF]; rfl
  have hr := h.rt
  obtain ⟨H, hH⟩ : ∃ H : Int → Bool, (fun v => f ((widM ws : Int) + v + 1)) = H := ⟨_, rfl⟩
  obtain ⟨K, hK⟩ : ∃ K, lvs.length + ns.length = K := ⟨_, rfl⟩
  unfold MtT lfV at hf
  rw [hH, hK] at hf
  have h5 := fol_end h.back H K root hr.1 hr.2 (by omega)
  obtain ⟨i, hi⟩ : ∃ i, folV ns lvs.length H K root = i := ⟨_, rfl⟩
  rw [hi] at hf h5
  obtain ⟨G, hG⟩ : ∃ G : Int → Bool, (fun x => if x < F then f x else decide (folV ns lvs.length H K (x - F) = i)) = G := ⟨_, rfl⟩
  have glow : ∀ x, x < F → G x = f x := fun x hx => by rw [← hG]; exact if_pos hx
  have ghi : ∀ r : Int, 0 ≤ r → G (F + r) = decide (folV ns lvs.length H K r = i) := fun r hr => by
    rw [← hG]
    show (if F + r < F then _ else _) = _
    rw [if_neg (by omega), show F + r - F = r by omega]
  refine ⟨G, (mtC_ev G h hF).2 ⟨?_, fun j g hg ha => ?_, fun j v hv ha => ?_⟩, fun v hv => glow v (by omega)⟩
  · rw [ghi root hr.1]
    exact decide_eq_true hi
  · have hbk := h.back j g hg
    have hj := (List.getElem?_eq_some_iff.1 hg).1
    have hgv := h.vr g (List.mem_of_getElem? hg)
    rw [show F + (lvs.length : Int) + (j : Int) = F + ((lvs.length : Int) + j) by omega, ghi _ (by omega)] at ha
    have ha := of_decide_eq_true ha
    rw [glow ((widM ws : Int) + g.1 + 1) (by omega)]
    have hHg : f ((widM ws : Int) + g.1 + 1) = H g.1 := by rw [← hH]
    rw [hHg, ghi _ (by split <;> omega)]
    refine decide_eq_true ?_
    have e1 : folV ns lvs.length H (K + 1) ((lvs.length : Int) + j) = folV ns lvs.length H K (if H g.1 = true then g.2.2 else g.2.1) := by
      rw [folV, if_neg (by omega), show ((lvs.length : Int) + j - lvs.length).toNat = j by omega, hg]
    rw [← ha, fol_fuel h.back H K (K + 1) _ (show 0 ≤ (lvs.length : Int) + j by omega) (by omega) (by omega), e1]
  · rw [ghi _ (by omega)] at ha
    have ha := of_decide_eq_true ha
    have hj := (List.getElem?_eq_some_iff.1 hv).1
    have e : folV ns lvs.length H K (j : Int) = j := by
      obtain ⟨q, rfl⟩ : ∃ q, K = q + 1 := ⟨K - 1, by omega⟩
      rw [folV, if_pos (by omega)]
    rw [e] at ha
    rw [← ha, show ((j : Int)).toNat = j from rfl, getD_some hv] at hf
    refine ⟨hf.1, fun k b hb => ?_⟩
    have hk := (List.getElem?_eq_some_iff.1 hb).1
    rw [glow]
    · exact hf.2 k b hb
    · have hw := h.fit v (List.mem_of_getElem? hv)
      have hv0 := hf.1
      obtain ⟨word, hwd⟩ : ∃ x, ws[v.toNat]? = some x := ⟨_, List.getElem?_eq_getElem (by omega)⟩
      rw [getD_some hwd, h.same word (List.mem_of_getElem? hwd)] at hk
      omega
/-! ### the words reached -/
/-- the leaf's value under the assignment with the number q -/
def qV (m : Nat) (lvs : List Int) (ns : List Fork) (root : Int) (q : Nat) : Int := lfV m lvs ns root fun v => (assM m q).getD v.toNat false
def seenM (m : Nat) (lvs : List Int) (ns : List Fork) (root : Int) (ws : List (List Bool)) : Nat → List (List Bool)
  | 0 => []
  | j + 1 => let v := qV m lvs ns root j
    let s := seenM m lvs ns root ws j
    if 0 ≤ v ∧ ws.getD v.toNat [] ∉ s then s ++ [ws.getD v.toNat []] else s
theorem seen_spec {m : Nat} {lvs : List Int} {ns : List Fork} {root : Int} {ws : List (List Bool)} (h : MtOk m lvs ns root ws) (hne : 1 ≤ lvs.length) : ∀ j, (seenM m lvs ns root ws j).Nodup ∧ (seenM m lvs ns root ws j).length ≤ j ∧ (∀ x, x ∈ seenM m lvs ns root ws j ↔ ∃ q, q < j ∧ 0 ≤ qV m lvs ns root q ∧ ws.getD (qV m lvs ns root q).toNat [] = x)
  | 0 => by simp [seenM]
  | j + 1 => by
    obtain ⟨h1, h2, h3⟩ := seen_spec h hne j
    rw [seenM]
    split
    · rename_i hc
      refine ⟨?_, by rw [List.length_append]; simp; omega, fun x => ?_⟩
      · rw [List.nodup_append]
        refine ⟨h1, by simp, fun a ha b hb => ?_⟩
        rw [List.mem_singleton] at hb
        subst hb
        intro e
        exact hc.2 (e ▸ ha)
      · rw [List.mem_append, List.mem_singleton, h3]
        constructor
        · rintro (⟨q, hq, h4, h5⟩ | rfl)
          · exact ⟨q, by omega, h4, h5⟩
          · exact ⟨j, by omega, hc.1, rfl⟩
        · rintro ⟨q, hq, h4, h5⟩
          by_cases hj : q = j
          · subst hj; exact .inr h5.symm
          · exact .inl ⟨q, by omega, h4, h5⟩
    · rename_i hc
      refine ⟨h1, by omega, fun x => ?_⟩
      rw [h3]
      constructor
      · rintro ⟨q, hq, h4, h5⟩
        exact ⟨q, by omega, h4, h5⟩
      · rintro ⟨q, hq, h4, h5⟩
        by_cases hj : q = j
        · subst hj
          rw [← h5, ← h3]
          exact Classical.byContradiction fun hn => hc ⟨h4, hn⟩
        · exact ⟨q, by omega, h4, h5⟩
theorem qV_mem {m : Nat} {lvs : List Int} {ns : List Fork} {root : Int} {ws : List (List Bool)} (h : MtOk m lvs ns root ws) (f : Int → Bool) : lfV m lvs ns root f ∈ lvs := by
  have h5 := fol_end h.back f (lvs.length + ns.length) root h.rt.1 h.rt.2 (by have := h.rt; omega)
  unfold lfV
  obtain ⟨v, hv⟩ : ∃ v, lvs[(folV ns lvs.length f (lvs.length + ns.length) root).toNat]? = some v := ⟨_, List.getElem?_eq_getElem (by omega)⟩
  rw [getD_some hv]
  exact List.mem_of_getElem? hv
theorem word_at {m : Nat} {lvs : List Int} {ns : List Fork} {root : Int} {ws : List (List Bool)} (h : MtOk m lvs ns root ws) (f : Int → Bool) (h0 : 0 ≤ lfV m lvs ns root f) : ∃ x, ws[(lfV m lvs ns root f).toNat]? = some x ∧ x.length = widM ws := by
  have hw := h.fit _ (qV_mem h f)
  obtain ⟨x, hx⟩ : ∃ x, ws[(lfV m lvs ns root f).toNat]? = some x := ⟨_, List.getElem?_eq_getElem (by omega)⟩
  exact ⟨x, hx, h.same x (List.mem_of_getElem? hx)⟩
theorem list_get {α : Type} {x y : List α} (hl : x.length = y.length) (h : ∀ (k : Nat) (b : α), x[k]? = some b → y[k]? = some b) : x = y := by
  refine List.ext_getElem? fun k => ?_
  by_cases hk : k < x.length
  · rw [List.getElem?_eq_getElem hk, h k _ (List.getElem?_eq_getElem hk)]
  · rw [List.getElem?_eq_none (by omega), List.getElem?_eq_none (by omega)]
theorem mt_sat {m : Nat} {lvs : List Int} {ns : List Fork} {root : Int} {ws : List (List Bool)} (h : MtOk m lvs ns root ws) (hne : 1 ≤ lvs.length) : cntN (fun f => evR f (mtC m lvs ns root ws) = true) (ivl 0 (widM ws)) = (seenM m lvs ns root ws (2 ^ m)).length := by
  obtain ⟨s1, s2, s3⟩ := seen_spec h hne (2 ^ m)
  rw [← sum_mem (widM ws) _ s1 (fun x hx => by
    obtain ⟨q, hq, h4, h5⟩ := (s3 x).1 hx
    obtain ⟨y, hy, hl⟩ := word_at h _ h4
    unfold qV at h5
    rw [getD_some hy] at h5
    rw [← h5]; exact hl)]
  rw [cnt_congr _ _ (MtT m lvs ns root ws), cnt_sum]
  · refine sumTo_congr fun k hk => ?_
    by_cases hx : assM (widM ws) k ∈ seenM m lvs ns root ws (2 ^ m)
    · rw [if_pos hx, if_pos]
      obtain ⟨q, hq, h4, h5⟩ := (s3 _).1 hx
      obtain ⟨f, hf⟩ : ∃ f : Int → Bool, (fun x => if x ≤ (widM ws : Int) then (assM (widM ws) k).getD (x - 1).toNat false else (assM m q).getD (x - (widM ws : Int) - 1).toNat false) = f := ⟨_, rfl⟩
      have flow : ∀ j : Nat, j < widM ws → f ((j : Int) + 1) = k.testBit (widM ws - 1 - j) := fun j hj => by
        rw [← hf]
        show (if (j : Int) + 1 ≤ (widM ws : Int) then _ else _) = _
        rw [if_pos (by omega), show ((j : Int) + 1 - 1).toNat = j by omega, getD_some (assM_get hj)]
      have fhi : (fun v => f ((widM ws : Int) + v + 1)) = fun v => if v < 0 then f ((widM ws : Int) + v + 1) else (assM m q).getD v.toNat false := by
        funext v
        by_cases hv : v < 0
        · rw [if_pos hv]
        · rw [if_neg hv, ← hf]
          show (if (widM ws : Int) + v + 1 ≤ (widM ws : Int) then _ else _) = _
          rw [if_neg (by omega), show (widM ws : Int) + v + 1 - (widM ws : Int) - 1 = v by omega]
      have hfol : lfV m lvs ns root (fun v => f ((widM ws : Int) + v + 1)) = qV m lvs ns root q := by
        unfold qV lfV
        have hc : ∀ g ∈ ns, (fun v : Int => if v < 0 then f ((widM ws : Int) + v + 1) else (assM m q).getD v.toNat false) g.1 = (fun v : Int => (assM m q).getD v.toNat false) g.1 := fun g hg => by
          have := h.vr g hg
          show (if g.1 < 0 then _ else _) = (assM m q).getD g.1.toNat false
          rw [if_neg (by omega)]
        rw [fhi, fol_congr (g := fun v : Int => (assM m q).getD v.toNat false) hc]
      refine ⟨f, ⟨by rw [hfol]; omega, fun j b hb => ?_⟩, fun j hj => by rw [show (0 : Int) + 1 + j = (j : Int) + 1 by omega]; exact flow j hj⟩
      rw [hfol, h5] at hb
      have hj := (List.getElem?_eq_some_iff.1 hb).1
      rw [assM_len] at hj
      rw [assM_get hj] at hb
      injection hb with hb
      rw [flow j hj, hb]
    · rw [if_neg hx, if_neg]
      rintro ⟨f, ⟨h0, hs⟩, hb⟩
      refine hx ((s3 _).2 ?_)
      obtain ⟨q, hq, eq⟩ := assM_ex ((List.range m).map fun j : Nat => f ((widM ws : Int) + j + 1))
      simp only [List.length_map, List.length_range] at hq eq
      have hfol : lfV m lvs ns root (fun v => f ((widM ws : Int) + v + 1)) = qV m lvs ns root q := by
        unfold qV lfV
        have hc : ∀ g ∈ ns, (fun v : Int => f ((widM ws : Int) + v + 1)) g.1 = (fun v : Int => (assM m q).getD v.toNat false) g.1 := fun g hg => by
          have := h.vr g hg
          show f ((widM ws : Int) + g.1 + 1) = (assM m q).getD g.1.toNat false
          rw [eq, List.getD_eq_getElem?_getD, List.getElem?_map, List.getElem?_range (by omega)]
          show _ = f ((widM ws : Int) + (g.1.toNat : Int) + 1)
          rw [show (g.1.toNat : Int) = g.1 by omega]
        rw [fol_congr (g := fun v : Int => (assM m q).getD v.toNat false) hc]
      rw [hfol] at h0 hs
      refine ⟨q, hq, by omega, ?_⟩
      obtain ⟨y, hy, hl⟩ := word_at h (fun v => (assM m q).getD v.toNat false) (by show 0 ≤ qV m lvs ns root q; omega)
      have hy : ws[(qV m lvs ns root q).toNat]? = some y := hy
      rw [getD_some hy] at hs ⊢
      refine list_get (by rw [assM_len]; exact hl) fun j b hb' => ?_
      have hj := (List.getElem?_eq_some_iff.1 hb').1
      rw [assM_get (by omega), ← hb j (by omega), show (0 : Int) + 1 + j = (j : Int) + 1 by omega, hs j b hb']
  · intro f hf
    exact ⟨f, mt_down h f hf, fun _ _ => rfl⟩
  · intro f hf
    obtain ⟨g, hg, ha⟩ := mt_up h f hf
    refine ⟨g, hg, fun v hv => ha v ?_⟩
    rw [ivl_mem] at hv
    omega
/-! ### the variables of the formula -/
theorem btC_lv {A n : Int} (hA : 0 < A ∧ A ≤ n) : ∀ (bs : List Bool) (k : Nat), (k : Int) + bs.length ≤ n → ∀ c ∈ btC A bs k, ∀ x ∈ c, x ≠ 0 ∧ varM x ≤ n
  | [], k, _, c, hc => by cases hc
  | b :: r, k, hl, c, hc => by
    rw [List.length_cons] at hl
    rw [btC] at hc
    rcases List.mem_cons.1 hc with hc | hc
    · subst hc
      intro x hx
      simp only [List.mem_cons, List.not_mem_nil, or_false] at hx
      unfold varM
      rcases hx with rfl | rfl
      · exact ⟨by omega, by split <;> omega⟩
      · refine ⟨by split <;> omega, ?_⟩
        split <;> split <;> omega
    · exact btC_lv hA r (k + 1) (by omega) c hc
theorem ndC_lv {fst n : Int} {wd L : Nat} (hf : 0 < fst) : ∀ (r : List Fork) (i : Nat), fst + L + i + r.length ≤ n + 1 → (∀ g ∈ r, (0 ≤ g.1 ∧ (wd : Int) + g.1 + 1 ≤ n) ∧ (0 ≤ g.2.1 ∧ fst + g.2.1 ≤ n) ∧ (0 ≤ g.2.2 ∧ fst + g.2.2 ≤ n)) → ∀ c ∈ ndC fst wd L r i, ∀ x ∈ c, x ≠ 0 ∧ varM x ≤ n
  | [], i, _, _, c, hc => by cases hc
  | g :: r, i, hl, hg, c, hc => by
    rw [List.length_cons] at hl
    obtain ⟨g1, g2, g3⟩ := hg g (List.mem_cons_self ..)
    rw [ndC] at hc
    rcases List.mem_cons.1 hc with hc | hc
    · subst hc
      intro x hx
      simp only [List.mem_cons, List.not_mem_nil, or_false] at hx
      unfold varM
      rcases hx with rfl | rfl | rfl <;> exact ⟨by omega, by split <;> omega⟩
    rcases List.mem_cons.1 hc with hc | hc
    · subst hc
      intro x hx
      simp only [List.mem_cons, List.not_mem_nil, or_false] at hx
      unfold varM
      rcases hx with rfl | rfl | rfl <;> exact ⟨by omega, by split <;> omega⟩
    · exact ndC_lv hf r (i + 1) (by omega) (fun x hx => hg x (List.mem_cons_of_mem _ hx)) c hc
theorem lfC_lv {fst n : Int} {ws : List (List Bool)} (hf : 0 < fst) (hw : ∀ v : Nat, ((ws.getD v []).length : Int) ≤ n) : ∀ (r : List Int) (i : Nat), fst + i + r.length ≤ n + 1 → ∀ c ∈ lfC fst ws r i, ∀ x ∈ c, x ≠ 0 ∧ varM x ≤ n
  | [], i, _, c, hc => by cases hc
  | v :: r, i, hl, c, hc => by
    rw [List.length_cons] at hl
    rw [lfC] at hc
    rcases List.mem_append.1 hc with hc | hc
    · split at hc
      · rw [List.mem_singleton] at hc
        subst hc
        intro x hx
        rw [List.mem_singleton] at hx
        subst hx
        unfold varM
        exact ⟨by omega, by split <;> omega⟩
      · exact btC_lv ⟨by omega, by omega⟩ _ 0 (by have := hw v.toNat; omega) c hc
    · exact lfC_lv hf hw r (i + 1) (by omega) c hc
theorem getD_wid {ws : List (List Bool)} (h : SameW ws) (v : Nat) : (ws.getD v []).length ≤ widM ws := by
  rw [List.getD_eq_getElem?_getD]
  rcases hx : ws[v]? with _ | x
  · simp
  · have := h x (List.mem_of_getElem? hx)
    simp only [Option.getD_some]
    omega
theorem mtC_lv {m : Nat} {lvs : List Int} {ns : List Fork} {root : Int} {ws : List (List Bool)} (h : MtOk m lvs ns root ws) : ∀ c ∈ mtC m lvs ns root ws, ∀ x ∈ c, x ≠ 0 ∧ varM x ≤ (widM ws : Int) + m + lvs.length + ns.length := by
  obtain ⟨F, hF⟩ : ∃ F, fstM (m : Int) ws = F := ⟨_, rfl⟩
  have hFe : F = (widM ws : Int) + m + 1 := by rw [← hF]; rfl
  have hr := h.rt
  intro c hc
  unfold mtC at hc
  rw [hF] at hc
  rcases List.mem_cons.1 hc with hc | hc
  · subst hc
    intro x hx
    rw [List.mem_singleton] at hx
    subst hx
    unfold varM
    exact ⟨by omega, by split <;> omega⟩
  rcases List.mem_append.1 hc with hc | hc
  · refine ndC_lv (by omega) ns 0 (by omega) (fun g hg => ?_) c hc
    have h1 := h.vr g hg
    obtain ⟨h2, h3⟩ := h.refs g hg
    exact ⟨⟨h1.1, by omega⟩, ⟨h2.1, by omega⟩, h3.1, by omega⟩
  · exact lfC_lv (by omega) (fun v => by have := getD_wid h.same v; omega) lvs 0 (by omega) c hc
theorem mtC_vs {m : Nat} {lvs : List Int} {ns : List Fork} {root : Int} {ws : List (List Bool)} (h : MtOk m lvs ns root ws) : Vs (ivl 0 (widM ws + m + lvs.length + ns.length)) (canM (mtC m lvs ns root ws)) := by
  intro c hc x hx
  obtain ⟨_, d, hd, rfl⟩ := canM_iff.1 hc
  rw [claM_iff] at hx
  obtain ⟨h1, h2⟩ := mtC_lv h d hd x hx
  refine ⟨h1, (ivl_mem _ _ _).2 ?_⟩
  unfold varM at *
  split at h2 <;> split <;> omega
/-- the projected count -/
theorem mt_count {m : Nat} {lvs : List Int} {ns : List Fork} {root : Int} {ws : List (List Bool)} (h : MtOk m lvs ns root ws) (hne : 1 ≤ lvs.length) (k : Nat) (hk : widM ws + m + lvs.length + ns.length < k) :
    cntM k (ivl 0 (widM ws)) (canM (mtC m lvs ns root ws)) = (seenM m lvs ns root ws (2 ^ m)).length := by
  have hvs := mtC_vs h
  have a1 := h.hm
  have a2 := h.hL
  have a3 := h.hn
  have a4 := h.hD
  rw [← mt_sat h hne, cnt_eq k _ (ivl 0 (widM ws + m + lvs.length + ns.length)) _ (canM_idem _) hvs (fun v hv => by rw [ivl_mem] at hv; omega) (by rw [ivl_len]; omega) (ivl_nodup _ _) (fun v hv => by rw [ivl_mem] at hv; omega)]
  refine cnt_congr _ _ _ (fun f hf => ⟨f, by rw [← evR_can]; exact hf, fun _ _ => rfl⟩) (fun f hf => ⟨f, by rw [evR_can]; exact hf, fun _ _ => rfl⟩)
theorem ndC_len (fst : Int) (wd L : Nat) : ∀ (ns : List Fork) (i : Nat), (ndC fst wd L ns i).length = 2 * ns.length
  | [], i => rfl
  | f :: r, i => by rw [ndC, List.length_cons, List.length_cons, ndC_len fst wd L r, List.length_cons]; omega
theorem btC_len (A : Int) : ∀ (bs : List Bool) (k : Nat), (btC A bs k).length = bs.length
  | [], k => rfl
  | b :: r, k => by rw [btC, List.length_cons, btC_len A r, List.length_cons]
theorem lfC_len (fst : Int) {ws : List (List Bool)} {d : Nat} (hw : ∀ v : Nat, (ws.getD v []).length ≤ d) : ∀ (r : List Int) (i : Nat), (lfC fst ws r i).length ≤ (d + 1) * r.length
  | [], i => by simp [lfC]
  | v :: r, i => by
    have := lfC_len fst hw r (i + 1)
    have h1 := hw v.toNat
    rw [lfC, List.length_append, List.length_cons, Nat.mul_add, Nat.mul_one]
    split
    · simp; omega
    · rw [btC_len]; omega
theorem mtC_len {m : Nat} {lvs : List Int} {ns : List Fork} {root : Int} {ws : List (List Bool)} (h : MtOk m lvs ns root ws) : (mtC m lvs ns root ws).length ≤ 1000 := by
  have h1 := lfC_len (fstM (m : Int) ws) (ws := ws) (d := 12) (fun v => by have := getD_wid h.same v; have := h.hD; omega) lvs 0
  have a2 := h.hL
  have a3 := h.hn
  unfold mtC
  rw [List.length_cons, List.length_append, ndC_len]
  omega
theorem make_mt {m : Nat} {lvs : List Int} {ns : List Fork} {root : Int} {ws : List (List Bool)} (h : MtOk m lvs ns root ws) : makeM ((widM ws : Int) + m + lvs.length + ns.length) (widM ws) (mtC m lvs ns root ws) = 0 := by
  have a1 := h.hm
  have a2 := h.hL
  have a3 := h.hn
  have a4 := h.hD
  unfold makeM
  rw [if_neg (by omega), if_neg (by omega), if_neg, if_neg]
  · have := mtC_len h
    have := canM_ln (mtC m lvs ns root ws)
    omega
  · intro he
    rw [List.any_eq_true] at he
    obtain ⟨c, hc, he⟩ := he
    rw [List.any_eq_true] at he
    obtain ⟨x, hx, he⟩ := he
    obtain ⟨g1, g2⟩ := mtC_lv h c hc x hx
    unfold outB at he
    simp at he
    omega
/-- what the form of a diagram says -/
theorem mt_ok {m : Nat} {lvs : List Int} {ns : List Fork} {root : Int} {ws : List (List Bool)} (h : MtP m lvs ns root) (hL : lvs.length ≤ 40) (hn : ns.length ≤ 40) (hD : widM ws ≤ 12) (hs : SameW ws) (hf : FitW lvs ws) : MtOk m lvs ns root ws := by
  obtain ⟨h1, h2, h3, h4, h5⟩ := h
  have d := FrmP.dia (root := root) (vars := m) ⟨by omega, by omega⟩ h3 h4 h5.1 h5.2.1
  refine ⟨by omega, hL, hn, d.back, h5.2.2.1 |> fun a => ⟨a, h5.2.2.2.1⟩, fun f hf' => ?_, hD, hs, hf⟩
  obtain ⟨j, hj⟩ := List.getElem?_of_mem hf'
  have := h5.2.1 j f hj
  exact ⟨this.2.2.2.2.2.2.1, d.vr f hf'⟩
theorem mt_ne {m : Nat} {lvs : List Int} {ns : List Fork} {root : Int} {ws : List (List Bool)} (h : MtOk m lvs ns root ws) : 1 ≤ lvs.length := by
  have h5 := fol_end h.back (fun _ => false) (lvs.length + ns.length) root h.rt.1 h.rt.2 (by have := h.rt; omega)
  omega
end Go.Proofs.YteadlkecngfcoaaGreat
