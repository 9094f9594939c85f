/- Plain: unit propagation as a closure (Der), its soundness, and that sat's propagation computes it. No program in sight. -/
import Derived.Test.YtjbhglmmakkkgaaSp
namespace Go.Proofs.Ytjbhglmmakkkgaa

/-- what follows by unit propagation from the literals in L -/
inductive Der (cs : List (List Int)) (L : Int → Prop) : Int → Prop
  | base {l : Int} : L l → Der cs L l
  | step {c : List Int} {i : Nat} {l : Int} : c ∈ cs → c[i]? = some l → (∀ (k : Nat) (n : Int), k ≠ i → c[k]? = some n → Der cs L (-n)) → Der cs L l
def Conf (cs : List (List Int)) (L : Int → Prop) : Prop := [] ∈ cs ∨ ∃ l, Der cs L l ∧ Der cs L (-l)
/-- every literal of the clauses is one of V variables -/
def LitsOk (V : Nat) (cs : List (List Int)) : Prop := ∀ c ∈ cs, ∀ l ∈ c, LitOk V l

theorem Der.mono {cs cs' : List (List Int)} {L L' : Int → Prop} {l : Int} (h : Der cs L l) (hc : ∀ c ∈ cs, c ∈ cs') (hL : ∀ l, L l → L' l) : Der cs' L' l := by
  induction h with
  | base h => exact .base (hL _ h)
  | step hm hi _ ih => exact .step (hc _ hm) hi ih
theorem Der.trans {cs : List (List Int)} {L L' : Int → Prop} {l : Int} (h : Der cs L' l) (hL : ∀ l, L' l → Der cs L l) : Der cs L l := by
  induction h with
  | base h => exact hL _ h
  | step hm hi _ ih => exact .step hm hi ih
theorem Der.lit {V : Nat} {cs : List (List Int)} {L : Int → Prop} {l : Int} (h : Der cs L l) (hc : LitsOk V cs) (hL : ∀ l, L l → LitOk V l) : LitOk V l := by
  cases h with
  | base h => exact hL _ h
  | step hm hi _ => exact hc _ hm _ (List.mem_of_getElem? hi)
theorem Conf.mono {cs cs' : List (List Int)} {L L' : Int → Prop} (h : Conf cs L) (hc : ∀ c ∈ cs, c ∈ cs') (hL : ∀ l, L l → L' l) : Conf cs' L' := by
  rcases h with h | ⟨l, h1, h2⟩
  · exact .inl (hc _ h)
  · exact .inr ⟨l, h1.mono hc hL, h2.mono hc hL⟩

/-- a literal's value -/
def litT (x : List Bool) (l : Int) : Bool := x.getD (l.natAbs - 1) false == decide (0 < l)
theorem litT_neg {x : List Bool} {l : Int} (h : l ≠ 0) : litT x (-l) = !litT x l := by
  unfold litT
  rw [Int.natAbs_neg]
  have : decide (0 < -l) = !decide (0 < l) := by by_cases h1 : 0 < l <;> simp [h1] <;> omega
  rw [this]
  cases x.getD (l.natAbs - 1) false <;> cases decide (0 < l) <;> rfl
def modelB (cs : List (List Int)) (x : List Bool) : Bool := cs.all fun c => c.any (litT x)
theorem Der.sound {cs : List (List Int)} {L : Int → Prop} {l : Int} {x : List Bool} (h : Der cs L l) (hc : ∀ c ∈ cs, ∀ l ∈ c, l ≠ 0) (hx : modelB cs x = true) (hL : ∀ l, L l → litT x l = true) : litT x l = true := by
  induction h with
  | base h => exact hL _ h
  | @step c i l hm hi _ ih =>
    obtain ⟨n, hn, ht⟩ := List.any_eq_true.1 (List.all_eq_true.1 hx c hm)
    obtain ⟨k, hk, he⟩ := List.getElem_of_mem hn
    by_cases hki : k = i
    · subst hki
      rw [List.getElem?_eq_getElem hk, he] at hi
      injection hi with hi
      exact hi ▸ ht
    · have := ih k n hki (by rw [List.getElem?_eq_getElem hk, he])
      rw [litT_neg (hc c hm n hn), ht] at this
      cases this
theorem LitsOk.ne {V : Nat} {cs : List (List Int)} (h : LitsOk V cs) : ∀ c ∈ cs, ∀ l ∈ c, l ≠ 0 := fun c hc l hl => (h c hc l hl).1
theorem Conf.no {V : Nat} {cs : List (List Int)} {L : Int → Prop} {x : List Bool} (h : Conf cs L) (hc : LitsOk V cs) (hLL : ∀ l, L l → LitOk V l) (hx : modelB cs x = true) (hL : ∀ l, L l → litT x l = true) : False := by
  rcases h with h | ⟨l, h1, h2⟩
  · have := List.all_eq_true.1 hx [] h
    simp at this
  · have h3 := h1.sound hc.ne hx hL
    have h4 := h2.sound hc.ne hx hL
    rw [litT_neg (h1.lit hc hLL).1, h3] at h4
    cases h4

theorem idx_inj {V : Nat} {a b : Int} (ha : LitOk V a) (hb : LitOk V b) (h : idx a = idx b) : a = b := by
  obtain ⟨v, hv1, _, h1⟩ := ha.cases
  obtain ⟨u, hu1, _, h2⟩ := hb.cases
  omega
theorem idx_lt {V : Nat} {a : Int} (ha : LitOk V a) : idx a < (V + 1) * 2 := by
  obtain ⟨v, hv1, _, h1⟩ := ha.cases
  omega
theorem setM_len {ms : List Bool} {u : Int} : (setM ms u).length = ms.length := by simp [setM]
theorem hasM_set {V : Nat} {ms : List Bool} {u l : Int} (hlen : ms.length = (V + 1) * 2) (hu : LitOk V u) (hl : LitOk V l) : hasM (setM ms u) l = true ↔ l = u ∨ hasM ms l = true := by
  have hi := idx_lt hu
  unfold hasM setM
  rw [List.getD, List.getElem?_set]
  by_cases e : idx u = idx l
  · have : l = u := idx_inj hl hu e.symm
    subst this
    simp [hlen, hi]
  · have : l ≠ u := fun h => e (by rw [h])
    rw [if_neg e]
    simp [this, List.getD]

theorem unitGo_some {ms : List Bool} : ∀ (c : List Int) (u x : Int), u ≠ 0 → unitGo ms c u = some x → x = u ∧ ∀ n ∈ c, hasM ms (-n) = true
  | [], u, x, _, h => by simp [unitGo] at h; exact ⟨h.symm, by simp⟩
  | l :: r, u, x, hu, h => by
    rw [unitGo] at h
    split at h
    · rename_i hl
      obtain ⟨h1, h2⟩ := unitGo_some r u x hu h
      refine ⟨h1, fun n hn => ?_⟩
      rcases List.mem_cons.1 hn with rfl | hn
      · exact hl
      · exact h2 n hn
    · first | cases h | (rw [if_pos hu] at h; cases h)
theorem unitGo_zero {ms : List Bool} : ∀ (c : List Int), (∀ l ∈ c, l ≠ 0) → unitGo ms c 0 = some 0 → ∀ n ∈ c, hasM ms (-n) = true
  | [], _, _ => by simp
  | l :: r, hc, h => by
    rw [unitGo] at h
    split at h
    · rename_i hl
      intro n hn
      rcases List.mem_cons.1 hn with rfl | hn
      · exact hl
      · exact unitGo_zero r (fun y hy => hc y (by simp [hy])) h n hn
    · rw [if_neg (by simp)] at h
      exact absurd (unitGo_some r l 0 (hc l (by simp)) h).1.symm (hc l (by simp))
theorem unitGo_unit {ms : List Bool} : ∀ (c : List Int) (u : Int), (∀ l ∈ c, l ≠ 0) → unitGo ms c 0 = some u → u ≠ 0 →
    ∃ i, c[i]? = some u ∧ hasM ms (-u) = false ∧ ∀ (k : Nat) (n : Int), k ≠ i → c[k]? = some n → hasM ms (-n) = true
  | [], u, _, h, hu => by simp [unitGo] at h; exact absurd h.symm hu
  | l :: r, u, hc, h, hu => by
    rw [unitGo] at h
    split at h
    · rename_i hl
      obtain ⟨i, h1, h2, h3⟩ := unitGo_unit r u (fun y hy => hc y (by simp [hy])) h hu
      refine ⟨i + 1, by simpa using h1, h2, fun k n hk hn => ?_⟩
      rcases k with _ | k
      · simp at hn; subst hn; exact hl
      · exact h3 k n (by omega) (by simpa using hn)
    · rename_i hl
      rw [if_neg (by simp)] at h
      obtain ⟨rfl, h2⟩ := unitGo_some r l u (hc l (by simp)) h
      refine ⟨0, by simp, by simpa using hl, fun k n hk hn => ?_⟩
      rcases k with _ | k
      · omega
      · exact h2 n (List.mem_of_getElem? (i := k) (by simpa using hn))
theorem unitGo_none1 {ms : List Bool} : ∀ (c : List Int) (u : Int), u ≠ 0 → unitGo ms c u = none → ∃ (i : Nat) (l : Int), c[i]? = some l ∧ hasM ms (-l) = false
  | [], u, _, h => by simp [unitGo] at h
  | l :: r, u, hu, h => by
    rw [unitGo] at h
    split at h
    · obtain ⟨i, n, h1, h2⟩ := unitGo_none1 r u hu h
      exact ⟨i + 1, n, by simpa using h1, h2⟩
    · rename_i hl
      exact ⟨0, l, by simp, by simpa using hl⟩
theorem unitGo_none {ms : List Bool} : ∀ (c : List Int), (∀ l ∈ c, l ≠ 0) → unitGo ms c 0 = none → ∃ (i j : Nat) (l n : Int), i ≠ j ∧ c[i]? = some l ∧ c[j]? = some n ∧ hasM ms (-l) = false ∧ hasM ms (-n) = false
  | [], _, h => by simp [unitGo] at h
  | l :: r, hc, h => by
    rw [unitGo] at h
    split at h
    · obtain ⟨i, j, a, b, h1, h2, h3, h4⟩ := unitGo_none r (fun y hy => hc y (by simp [hy])) h
      exact ⟨i + 1, j + 1, a, b, by omega, by simpa using h2, by simpa using h3, h4⟩
    · rename_i hl
      rw [if_neg (by simp)] at h
      obtain ⟨i, n, h1, h2⟩ := unitGo_none1 r l (hc l (by simp)) h
      exact ⟨0, i + 1, l, n, by omega, by simp, by simpa using h1, by simpa using hl, h2⟩

structure MInv (V : Nat) (cs : List (List Int)) (L : Int → Prop) (ms : List Bool) : Prop where
  len : ms.length = (V + 1) * 2
  der : ∀ l, LitOk V l → hasM ms l = true → Der cs L l
  con : ∀ l, LitOk V l → hasM ms l = true → hasM ms (-l) = false
theorem MInv.set {V : Nat} {cs : List (List Int)} {L : Int → Prop} {ms : List Bool} {u : Int} (h : MInv V cs L ms) (hu : LitOk V u) (hd : Der cs L u) (hn : hasM ms (-u) = false) : MInv V cs L (setM ms u) := by
  refine ⟨by rw [setM_len]; exact h.len, fun l hl hh => ?_, fun l hl hh => ?_⟩
  · rcases (hasM_set h.len hu hl).1 hh with rfl | h1
    · exact hd
    · exact h.der l hl h1
  · apply Bool.eq_false_iff.2
    intro h2
    rcases (hasM_set h.len hu hl).1 hh with rfl | h1 <;> rcases (hasM_set h.len hu hl.neg).1 h2 with h3 | h3
    · have := hl.1; omega
    · rw [hn] at h3; cases h3
    · rw [← h3, Int.neg_neg] at hn; rw [hn] at h1; cases h1
    · rw [h.con l hl h1] at h3; cases h3
/-- the marks are closed at a clause -/
def ClosedAt (ms : List Bool) (c : List Int) : Prop := c ≠ [] ∧ ∀ (i : Nat) (l : Int), c[i]? = some l → (∀ (k : Nat) (n : Int), k ≠ i → c[k]? = some n → hasM ms (-n) = true) → hasM ms l = true

theorem passGo_spec {V : Nat} {cs : List (List Int)} {L : Int → Prop} (hcs : LitsOk V cs) : ∀ (r : List (List Int)) (ms : List Bool) (ch b : Bool) (m : List Bool) (ch' : Bool), (∀ c ∈ r, c ∈ cs) → MInv V cs L ms → passGo r ms ch = (b, m, ch') →
    (b = false → Conf cs L) ∧ (b = true → MInv V cs L m ∧ (∀ l, LitOk V l → hasM ms l = true → hasM m l = true) ∧ (ch' = false → ch = false ∧ m = ms ∧ ∀ c ∈ r, ClosedAt ms c) ∧ (ch' = true → ch = true ∨ m.count false < ms.count false) ∧ m.count false ≤ ms.count false)
  | [], ms, ch, b, m, ch', _, hm, h => by
    rw [passGo] at h
    injection h with h1 h
    injection h with h2 h3
    subst h1 h2 h3
    exact ⟨(fun h => by cases h), fun _ => ⟨hm, fun _ _ h => h, fun h => ⟨h, rfl, by simp⟩, fun h => .inl h, Nat.le_refl _⟩⟩
  | c :: r, ms, ch, b, m, ch', hr, hm, h => by
    have hcc := hr c (by simp)
    have hr' : ∀ d ∈ r, d ∈ cs := fun d hd => hr d (by simp [hd])
    have hne := hcs.ne c hcc
    rw [passGo] at h
    split at h
    · rename_i hu
      obtain ⟨h1, h2⟩ := passGo_spec hcs r ms ch b m ch' hr' hm h
      refine ⟨h1, fun hb => ?_⟩
      obtain ⟨g1, g2, g3, g4, g5⟩ := h2 hb
      refine ⟨g1, g2, fun hch => ?_, g4, g5⟩
      obtain ⟨k1, k2, k3⟩ := g3 hch
      refine ⟨k1, k2, fun d hd => ?_⟩
      rcases List.mem_cons.1 hd with rfl | hd
      · obtain ⟨i, j, a, n, e0, e1, e2, e3, e4⟩ := unitGo_none d hne hu
        refine ⟨by rintro rfl; simp at e1, fun p l hl hall => ?_⟩
        by_cases hp : p = i
        · rw [hall j n (by omega) e2] at e4; cases e4
        · rw [hall i a (by omega) e1] at e3; cases e3
      · exact k3 d hd
    · rename_i u hu
      split at h
      · rename_i h0
        subst h0
        injection h with h1 h
        subst h1
        refine ⟨fun _ => ?_, fun h => by cases h⟩
        have hall := unitGo_zero c hne hu
        rcases c with _ | ⟨l, t⟩
        · exact .inl hcc
        · have hl := hcs _ hcc l (by simp)
          refine .inr ⟨l, .step (i := 0) hcc (by simp) fun k n _ hn => ?_, hm.der _ hl.neg (hall l (by simp))⟩
          have hn' := List.mem_of_getElem? hn
          exact hm.der _ (hcs _ hcc n hn').neg (hall n hn')
      · rename_i h0
        obtain ⟨i, e1, e2, e3⟩ := unitGo_unit c u hne hu h0
        have hul := hcs _ hcc u (List.mem_of_getElem? e1)
        have hclo : hasM ms u = true → ClosedAt ms c := fun hh => by
          refine ⟨by rintro rfl; simp at e1, fun p l hl hall => ?_⟩
          by_cases hp : p = i
          · subst hp
            rw [e1] at hl
            injection hl with hl
            exact hl ▸ hh
          · rw [hall i u (by omega) e1] at e2; cases e2
        split at h
        · rename_i hh
          obtain ⟨h1, h2⟩ := passGo_spec hcs r ms ch b m ch' hr' hm h
          refine ⟨h1, fun hb => ?_⟩
          obtain ⟨g1, g2, g3, g4, g5⟩ := h2 hb
          refine ⟨g1, g2, fun hch => ?_, g4, g5⟩
          obtain ⟨k1, k2, k3⟩ := g3 hch
          refine ⟨k1, k2, fun d hd => ?_⟩
          rcases List.mem_cons.1 hd with rfl | hd
          · exact hclo hh
          · exact k3 d hd
        · rename_i hh
          have hd : Der cs L u := .step hcc e1 fun k n hk hn => hm.der _ (hcs _ hcc n (List.mem_of_getElem? hn)).neg (e3 k n hk hn)
          split at h
          · rename_i hs
            unfold setOk at hs
            unfold hasM at e2
            rw [e2] at hs
            cases hs
          · have hm2 := hm.set hul hd e2
            have hcnt := setM_count (ms := ms) (l := u) (by simpa using hh) (by rw [hm.len]; exact idx_lt hul)
            obtain ⟨h1, h2⟩ := passGo_spec hcs r _ true b m ch' hr' hm2 h
            refine ⟨h1, fun hb => ?_⟩
            obtain ⟨g1, g2, g3, g4, g5⟩ := h2 hb
            refine ⟨g1, fun l hl hlm => g2 l hl ((hasM_set hm.len hul hl).2 (.inr hlm)), fun hch => ?_, fun _ => .inr (by omega), by omega⟩
            exact absurd (g3 hch).1 (by simp)

theorem propGo_spec {V : Nat} {cs : List (List Int)} {L : Int → Prop} (hcs : LitsOk V cs) : ∀ (f : Nat) (ms m : List Bool) (b : Bool), ms.count false + 1 ≤ f → MInv V cs L ms → propGo f cs ms = (b, m) →
    (b = false → Conf cs L) ∧ (b = true → MInv V cs L m ∧ (∀ l, LitOk V l → hasM ms l = true → hasM m l = true) ∧ ∀ c ∈ cs, ClosedAt m c)
  | 0, ms, m, b, hf, _, _ => by omega
  | f + 1, ms, m, b, hf, hm, h => by
    rw [propGo] at h
    rcases hp : passGo cs ms false with ⟨b1, m1, ch1⟩
    rw [hp] at h
    obtain ⟨h1, h2⟩ := passGo_spec hcs cs ms false b1 m1 ch1 (fun _ h => h) hm hp
    cases b1 <;> cases ch1 <;> simp only at h
    · injection h with e1 e2
      subst e1
      exact ⟨fun _ => h1 rfl, fun h => by cases h⟩
    · injection h with e1 e2
      subst e1
      exact ⟨fun _ => h1 rfl, fun h => by cases h⟩
    · injection h with e1 e2
      subst e1 e2
      refine ⟨(fun h => by cases h), fun _ => ?_⟩
      obtain ⟨g1, g2, g3, _, _⟩ := h2 rfl
      obtain ⟨_, k2, k3⟩ := g3 rfl
      subst k2
      exact ⟨g1, g2, k3⟩
    · obtain ⟨g1, g2, _, g4, g5⟩ := h2 rfl
      have g4 := (g4 rfl).resolve_left (by simp)
      obtain ⟨k1, k2⟩ := propGo_spec hcs f m1 m b (by omega) g1 h
      refine ⟨k1, fun hb => ?_⟩
      obtain ⟨j1, j2, j3⟩ := k2 hb
      exact ⟨j1, fun l hl hh => j2 l hl (g2 l hl hh), j3⟩

/-- marks whose set literals are L's: what propagation makes of them -/
theorem propM_spec {V : Nat} {cs : List (List Int)} {L : Int → Prop} {ms : List Bool} (hcs : LitsOk V cs) (hm : MInv V cs L ms) (hL : ∀ l, L l → LitOk V l ∧ hasM ms l = true) :
    ((propM cs ms).1 = false → Conf cs L) ∧ ((propM cs ms).1 = true → ¬ Conf cs L ∧ (propM cs ms).2.length = (V + 1) * 2 ∧ ∀ l, LitOk V l → (hasM (propM cs ms).2 l = true ↔ Der cs L l)) := by
  rcases hp : propM cs ms with ⟨b, m⟩
  obtain ⟨h1, h2⟩ := propGo_spec hcs _ ms m b (Nat.le_refl _) hm hp
  refine ⟨h1, fun hb => ?_⟩
  obtain ⟨g1, g2, g3⟩ := h2 hb
  have hcl : ∀ l, Der cs L l → hasM m l = true := by
    intro l hd
    induction hd with
    | base h => exact g2 _ (hL _ h).1 (hL _ h).2
    | step hc hi _ ih => exact (g3 _ hc).2 _ _ hi ih
  refine ⟨?_, g1.len, fun l hl => ⟨g1.der l hl, hcl l⟩⟩
  rintro (h | ⟨l, k1, k2⟩)
  · exact (g3 _ h).1 rfl
  · have hl := k1.lit hcs fun l hl => (hL l hl).1
    have := g1.con l hl (hcl l k1)
    rw [hcl _ k2] at this
    cases this

theorem startGo_spec {V : Nat} : ∀ (r : List Int) (ms : List Bool) (ok : Bool), (∀ l ∈ r, LitOk V l) → ms.length = (V + 1) * 2 →
    (startGo r ms ok).1.length = (V + 1) * 2 ∧ (∀ l, LitOk V l → (hasM (startGo r ms ok).1 l = true ↔ l ∈ r ∨ hasM ms l = true)) ∧
    ((∀ l, LitOk V l → hasM ms l = true → hasM ms (-l) = false) → ok = true → ((startGo r ms ok).2 = true → ∀ l, LitOk V l → hasM (startGo r ms ok).1 l = true → hasM (startGo r ms ok).1 (-l) = false) ∧
      ((startGo r ms ok).2 = false → ∃ l, LitOk V l ∧ (l ∈ r ∨ hasM ms l = true) ∧ (-l ∈ r ∨ hasM ms (-l) = true))) ∧ (ok = false → (startGo r ms ok).2 = false)
  | [], ms, ok, _, hlen => ⟨hlen, by simp [startGo], fun h hok => ⟨fun _ => h, fun h => by rw [startGo, hok] at h; cases h⟩, fun h => h⟩
  | l :: r, ms, ok, hr, hlen => by
    have hl := hr l (by simp)
    rw [startGo]
    obtain ⟨h1, h2, h3, h4⟩ := startGo_spec r (setM ms l) (setOk ms l && ok) (fun y hy => hr y (by simp [hy])) (by rw [setM_len]; exact hlen)
    refine ⟨h1, fun y hy => ?_, fun hcon hok => ?_, fun hok => h4 (by rw [hok]; simp)⟩
    · rw [h2 y hy, hasM_set hlen hl hy, List.mem_cons]
      constructor
      · rintro (h | h | h)
        · exact .inl (.inr h)
        · exact .inl (.inl h)
        · exact .inr h
      · rintro ((h | h) | h)
        · exact .inr (.inl h)
        · exact .inl h
        · exact .inr (.inr h)
    · subst hok
      rcases hs : setOk ms l with _ | _
      · have hx : hasM ms (-l) = true := by simpa [setOk, hasM] using hs
        have hf := h4 (by rw [hs]; rfl)
        rw [hs] at hf
        exact ⟨(fun h => by rw [hf] at h; cases h), fun _ => ⟨l, hl, .inl (by simp), .inr hx⟩⟩
      · have hx : hasM ms (-l) = false := by simpa [setOk, hasM] using hs
        rw [hs] at h3
        obtain ⟨k1, k2⟩ := h3 (fun y hy hh => by
          apply Bool.eq_false_iff.2
          intro h2'
          rcases (hasM_set hlen hl hy).1 hh with rfl | g1 <;> rcases (hasM_set hlen hl hy.neg).1 h2' with g3 | g3
          · have := hy.1; omega
          · rw [hx] at g3; cases g3
          · rw [← g3, Int.neg_neg] at hx; rw [hx] at g1; cases g1
          · rw [hcon y hy g1] at g3; cases g3) rfl
        refine ⟨k1, fun hf => ?_⟩
        obtain ⟨y, hy, e1, e2⟩ := k2 hf
        refine ⟨y, hy, ?_, ?_⟩
        · rw [List.mem_cons]
          rcases e1 with e | e
          · exact .inl (.inr e)
          · rcases (hasM_set hlen hl hy).1 e with e | e
            · exact .inl (.inl e)
            · exact .inr e
        · rw [List.mem_cons]
          rcases e2 with e | e
          · exact .inl (.inr e)
          · rcases (hasM_set hlen hl hy.neg).1 e with e | e
            · exact .inl (.inl e)
            · exact .inr e
theorem hasM_zero (n : Nat) (l : Int) : hasM (List.replicate n false) l = false := by
  unfold hasM
  rw [List.getD, List.getElem?_replicate]
  split <;> rfl
theorem startM_spec {V : Nat} {lits : List Int} (h : ∀ l ∈ lits, LitOk V l) :
    (startM V lits).1.length = (V + 1) * 2 ∧ (∀ l, LitOk V l → (hasM (startM V lits).1 l = true ↔ l ∈ lits)) ∧
    ((startM V lits).2 = true → ∀ l, LitOk V l → hasM (startM V lits).1 l = true → hasM (startM V lits).1 (-l) = false) ∧ ((startM V lits).2 = false → ∃ l, l ∈ lits ∧ -l ∈ lits) := by
  obtain ⟨h1, h2, h3, h4⟩ := startGo_spec lits (List.replicate ((V + 1) * 2) false) true h (by simp)
  obtain ⟨h5, h6⟩ := h3 (fun l _ hh => by rw [hasM_zero] at hh; cases hh) rfl
  refine ⟨h1, fun l hl => (h2 l hl).trans (by rw [hasM_zero]; simp), h5, fun hf => ?_⟩
  obtain ⟨l, hl, e1, e2⟩ := h6 hf
  rw [hasM_zero] at e1 e2
  exact ⟨l, by simpa using e1, by simpa using e2⟩

/-- both together: Propagate's marks -/
theorem marks_spec {V : Nat} {cs : List (List Int)} {lits : List Int} (hcs : LitsOk V cs) (h : ∀ l ∈ lits, LitOk V l) :
    (((startM V lits).2 && (propM cs (startM V lits).1).1) = false → Conf cs (· ∈ lits)) ∧
    (((startM V lits).2 && (propM cs (startM V lits).1).1) = true → ¬ Conf cs (· ∈ lits) ∧ (propM cs (startM V lits).1).2.length = (V + 1) * 2 ∧ ∀ l, LitOk V l → (hasM (propM cs (startM V lits).1).2 l = true ↔ Der cs (· ∈ lits) l)) := by
  obtain ⟨h1, h2, h3, h4⟩ := startM_spec h
  rcases hs : (startM V lits).2 with _ | _
  · refine ⟨fun _ => ?_, fun h => by simp at h⟩
    obtain ⟨l, e1, e2⟩ := h4 hs
    exact .inr ⟨l, .base e1, .base e2⟩
  · simp only [Bool.true_and]
    exact propM_spec hcs ⟨h1, fun l hl hh => .base ((h2 l hl).1 hh), h3 hs⟩ fun l hl => ⟨h l hl, (h2 l (h l hl)).2 hl⟩
end Go.Proofs.Ytjbhglmmakkkgaa
