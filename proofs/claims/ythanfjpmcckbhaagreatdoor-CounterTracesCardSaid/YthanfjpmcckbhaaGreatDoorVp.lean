/- (Trace seat) Plain: the count of an accepted claim is the projected count of its clauses. No program in sight. -/
import Derived.Test.YthanfjpmcckbhaaGreatDoorVa
import Derived.Test.YthanfjpmcckbhaaGreatDoorQu
namespace Go.Proofs.YthanfjpmcckbhaaGreatDoor
open Go.RowKit
set_option linter.unusedVariables false

/-! ### counting lists -/
abbrev Asg := Int → Bool
theorem cnt_iff {S : List Int} {C D : Asg → Prop} (h : ∀ f, C f ↔ D f) : cntN C S = cntN D S :=
  cnt_congr S C D (fun f hf => ⟨f, (h f).1 hf, fun _ _ => rfl⟩) (fun f hf => ⟨f, (h f).2 hf, fun _ _ => rfl⟩)
def Inv (C : Asg → Prop) (v : Int) : Prop := ∀ f b, C (upd f v b) ↔ C f
theorem upd_same (f : Asg) (v : Int) (b : Bool) : upd f v b v = b := by unfold upd; rw [if_pos rfl]
theorem upd_ne (f : Asg) {v w : Int} (b : Bool) (h : w ≠ v) : upd f v b w = f w := by unfold upd; rw [if_neg h]
theorem upd_self (f : Asg) (v : Int) : upd f v (f v) = f := by
  funext w
  unfold upd
  split
  · rename_i h; rw [h]
  · rfl
theorem cnt_free {C : Asg → Prop} {v : Int} {r : List Int} (hi : Inv C v) (hr : v ∉ r) (b : Bool) : cntN (fun f => C f ∧ f v = b) r = cntN C r :=
  cnt_congr r _ _ (fun f hf => ⟨f, hf.1, fun _ _ => rfl⟩) fun f hf => ⟨upd f v b, ⟨(hi f b).2 hf, upd_same f v b⟩, fun w hw => upd_ne f b fun e => hr (e ▸ hw)⟩
theorem cnt_skip : ∀ (S : List Int) (p : Int → Bool) (C : Asg → Prop), S.Nodup → (∀ v ∈ S, p v = false → Inv C v) → cntN C S = 2 ^ (S.filter fun v => !p v).length * cntN C (S.filter p)
  | [], p, C, _, _ => by simp
  | v :: r, p, C, hn, hi => by
    obtain ⟨hv, hr⟩ := List.nodup_cons.1 hn
    have sub : ∀ b, ∀ u ∈ r, p u = false → Inv (fun f => C f ∧ f v = b) u := fun b u hu hp f c => by
      have huv : v ≠ u := fun e => hv (e ▸ hu)
      show (C (upd f u c) ∧ upd f u c v = b) ↔ (C f ∧ f v = b)
      rw [hi u (List.mem_cons_of_mem _ hu) hp f c, upd_ne f c huv]
    rcases hp : p v with _ | _
    · have h1 := hi v (List.mem_cons_self ..) hp
      rw [cntN, cnt_free h1 hv, cnt_free h1 hv, cnt_skip r p C hr fun u hu => hi u (List.mem_cons_of_mem _ hu), List.filter_cons, List.filter_cons, hp]
      simp only [Bool.not_false, if_true, Bool.false_eq_true, if_false, List.length_cons, Nat.pow_succ, Nat.mul_assoc]
      rw [Nat.two_mul, Nat.mul_add]
    · rw [cntN, cnt_skip r p _ hr (sub true), cnt_skip r p _ hr (sub false), ← Nat.mul_add, List.filter_cons, List.filter_cons, hp]
      simp only [Bool.not_true, Bool.false_eq_true, if_false, if_true]
      rw [cntN]
theorem cnt_perm {S T : List Int} (h : S.Perm T) : ∀ C : Asg → Prop, cntN C S = cntN C T := by
  induction h with
  | nil => intro C; rfl
  | cons v _ ih => intro C; rw [cntN, cntN, ih, ih]
  | swap u v r =>
    intro C
    simp only [cntN]
    have e : ∀ a b : Bool, cntN (fun f => (C f ∧ f v = a) ∧ f u = b) r = cntN (fun f => (C f ∧ f u = b) ∧ f v = a) r := fun a b => cnt_iff fun f => ⟨fun h => ⟨⟨h.1.1, h.2⟩, h.1.2⟩, fun h => ⟨⟨h.1.1, h.2⟩, h.1.2⟩⟩
    rw [e true true, e true false, e false true, e false false]
    omega
  | trans _ _ ih1 ih2 => intro C; rw [ih1, ih2]
theorem cnt_pos : ∀ (S : List Int) (C : Asg → Prop) (f : Asg), C f → 0 < cntN C S
  | [], C, f, h => by unfold cntN; rw [if_pos ⟨f, h⟩]; omega
  | v :: r, C, f, h => by
    rw [cntN]
    rcases hv : f v with _ | _
    · exact Nat.lt_of_lt_of_le (cnt_pos r (fun f => C f ∧ f v = false) f ⟨h, hv⟩) (Nat.le_add_left ..)
    · exact Nat.lt_of_lt_of_le (cnt_pos r (fun f => C f ∧ f v = true) f ⟨h, hv⟩) (Nat.le_add_right ..)
theorem cnt_same {S T : List Int} (hs : S.Nodup) (ht : T.Nodup) (h : ∀ x, x ∈ S ↔ x ∈ T) (C : Asg → Prop) : cntN C S = cntN C T :=
  cnt_perm ((List.perm_ext_iff_of_nodup hs ht).2 h) C

/-! ### what depends on what -/
def Dep (C : Asg → Prop) (V : Int → Prop) : Prop := ∀ f g, (∀ v, V v → f v = g v) → (C f ↔ C g)
theorem cnt_prod : ∀ (S1 S2 : List Int) (A B : Asg → Prop) (VA VB : Int → Prop), Dep A VA → Dep B VB → (∀ v, VA v → VB v → False) → (∀ v ∈ S1, ¬ VB v) → (∀ v ∈ S2, ¬ VA v) → (S1 ++ S2).Nodup →
    cntN (fun f => A f ∧ B f) (S1 ++ S2) = cntN A S1 * cntN B S2
  | [], S2, A, B, VA, VB, hA, hB, hd, h1, h2, hn => by
    rw [List.nil_append]
    by_cases h : ∃ f, A f
    · obtain ⟨f0, hf0⟩ := h
      have : cntN A [] = 1 := by unfold cntN; rw [if_pos ⟨f0, hf0⟩]
      rw [this, Nat.one_mul]
      refine cnt_congr S2 _ _ (fun f hf => ⟨f, hf.2, fun _ _ => rfl⟩) fun f hf => ?_
      classical
      refine ⟨fun v => if VA v then f0 v else f v, ⟨(hA f0 _ fun v hv => ?_).1 hf0, (hB f _ fun v hv => ?_).1 hf⟩, fun v hv => ?_⟩
      · show f0 v = if VA v then f0 v else f v
        rw [if_pos hv]
      · show f v = if VA v then f0 v else f v
        rw [if_neg fun h => hd v h hv]
      · show (if VA v then f0 v else f v) = f v
        rw [if_neg (h2 v hv)]
    · have : cntN A [] = 0 := by unfold cntN; rw [if_neg h]
      rw [this, Nat.zero_mul]
      exact cnt_zero S2 _ fun f hf => h ⟨f, hf.1⟩
  | v :: r, S2, A, B, VA, VB, hA, hB, hd, h1, h2, hn => by
    rw [List.cons_append] at hn ⊢
    obtain ⟨hv, hr⟩ := List.nodup_cons.1 hn
    have e : ∀ b : Bool, cntN (fun f => (A f ∧ B f) ∧ f v = b) (r ++ S2) = cntN (fun f => A f ∧ f v = b) r * cntN B S2 := fun b => by
      rw [← cnt_prod r S2 (fun f => A f ∧ f v = b) B (fun u => VA u ∨ u = v) VB ?_ hB ?_ ?_ ?_ hr]
      · exact cnt_iff fun f => ⟨fun h => ⟨⟨h.1.1, h.2⟩, h.1.2⟩, fun h => ⟨⟨h.1.1, h.2⟩, h.1.2⟩⟩
      · intro f g h
        show (A f ∧ f v = b) ↔ (A g ∧ g v = b)
        rw [hA f g fun u hu => h u (.inl hu), h v (.inr rfl)]
      · rintro u (hu | rfl) hb
        · exact hd u hu hb
        · exact h1 u (List.mem_cons_self ..) hb
      · exact fun u hu => h1 u (List.mem_cons_of_mem _ hu)
      · rintro u hu (h | rfl)
        · exact h2 u hu h
        · exact hv (List.mem_append_right _ hu)
    simp only [cntN]
    rw [e true, e false, ← Nat.add_mul]

/-! ### canonical clauses of literals -/
/-- canB's clauses -/
def Cn' (cs : List (List Int)) : Prop := canM cs = cs ∧ ∀ c ∈ cs, ∀ x ∈ c, x ≠ 0 ∧ -20000 ≤ x ∧ x ≤ 20000
theorem canB_cn {cs : List (List Int)} (h : canB cs = true) : Cn' cs := by
  unfold canB at h
  rw [Bool.and_eq_true, List.all_eq_true] at h
  refine ⟨by simpa using h.2, fun c hc x hx => ?_⟩
  have := List.all_eq_true.1 (h.1 c hc) x hx
  unfold litOk at this
  simp at this
  omega
theorem varM_pos {x : Int} : 0 ≤ varM x := by unfold varM; split <;> omega
theorem Cn'.mem {cs : List (List Int)} (h : Cn' cs) {v : Int} : v ∈ occM cs ↔ ∃ c ∈ cs, ∃ x ∈ c, varM x = v := by
  rw [occM_mem]
  unfold mags magsC
  rw [List.mem_flatMap]
  constructor
  · rintro ⟨c, hc, hv⟩
    rw [List.mem_filter, List.mem_map] at hv
    obtain ⟨⟨x, hx, e⟩, _⟩ := hv
    exact ⟨c, hc, x, hx, e⟩
  · rintro ⟨c, hc, x, hx, e⟩
    refine ⟨c, hc, ?_⟩
    rw [List.mem_filter, List.mem_map]
    refine ⟨⟨x, hx, e⟩, ?_⟩
    obtain ⟨h0, h1, h2⟩ := h.2 c hc x hx
    unfold magR
    rw [← e]
    have h3 : 1 ≤ varM x ∧ varM x ≤ 20000 := by unfold varM; split <;> omega
    rw [decide_eq_true h3.1, decide_eq_true h3.2]
    rfl
theorem Cn'.vs {cs : List (List Int)} (h : Cn' cs) : Vs (occM cs) cs := fun c hc x hx => ⟨(h.2 c hc x hx).1, h.mem.2 ⟨c, hc, x, hx, rfl⟩⟩
def Ev (cs : List (List Int)) : Asg → Prop := fun f => evR f cs = true
theorem Cn'.dep {cs : List (List Int)} (h : Cn' cs) : Dep (Ev cs) fun v => v ∈ occM cs := fun f g e => by
  unfold Ev
  rw [evR_congr h.vs e]
theorem Cn'.inv {cs : List (List Int)} (h : Cn' cs) {v : Int} (hv : v ∉ occM cs) : Inv (Ev cs) v := fun f b =>
  h.dep _ _ fun u hu => upd_ne f b fun e => hv (e ▸ hu)
/-- the projected count over the kept variables that occur -/
noncomputable def Pc (keep : Int) (cs : List (List Int)) : Nat := cntN (Ev cs) (keptM keep (occM cs))
theorem kept_nodup (keep : Int) (cs : List (List Int)) : (keptM keep (occM cs)).Nodup := (occM_nodup cs).filter _

theorem kept_mem {keep x : Int} {vs : List Int} : x ∈ keptM keep vs ↔ x ∈ vs ∧ x ≤ keep := by unfold keptM; rw [List.mem_filter]; simp

/-! ### the residual -/
theorem sm_lit {x : Int} (h : -20000 ≤ x ∧ x ≤ 20000) : Sm x := ⟨by omega, by omega⟩
theorem Cn'.res {cs : List (List Int)} (h : Cn' cs) {x : Int} (hx : -20000 ≤ x ∧ x ≤ 20000) : Cn' (resM cs x) :=
  ⟨resM_can cs x, fun d hd y hy => by
    obtain ⟨c, hc, hyc, _⟩ := res_lit (sm_lit hx) hd hy
    exact h.2 c hc y hyc⟩
theorem Cn'.res_occ {cs : List (List Int)} (h : Cn' cs) {x v : Int} (hx : -20000 ≤ x ∧ x ≤ 20000) (hv : v ∈ occM (resM cs x)) : v ∈ occM cs ∧ v ≠ varM x := by
  obtain ⟨d, hd, y, hy, e⟩ := (h.res hx).mem.1 hv
  obtain ⟨c, hc, hyc, n1, n2⟩ := res_lit (sm_lit hx) hd hy
  refine ⟨h.mem.2 ⟨c, hc, y, hyc, e⟩, fun e2 => ?_⟩
  rw [← e] at e2
  unfold varM at e2
  split at e2 <;> split at e2 <;> omega
/-- the half of the count in which a literal is true -/
theorem half {cs : List (List Int)} (h : Cn' cs) {x : Int} (h0 : x ≠ 0) (hx : -20000 ≤ x ∧ x ≤ 20000) {r : List Int} (hr : varM x ∉ r) :
    cntN (fun f => Ev cs f ∧ f (varM x) = decide (0 < x)) r = cntN (Ev (resM cs x)) r := by
  have hl : ∀ f : Asg, f (varM x) = decide (0 < x) → litR f x = true := fun f hf => by
    unfold litR
    unfold varM at hf
    by_cases hp : 0 < x
    · rw [if_pos hp]
      rw [if_neg (by omega), decide_eq_true hp] at hf
      exact hf
    · rw [if_neg hp]
      rw [if_pos (by omega), decide_eq_false hp] at hf
      rw [hf]; rfl
  have hne : varM x ∉ occM (resM cs x) := fun hm => (h.res_occ hx hm).2 rfl
  have hinv := (h.res hx).inv hne
  rw [← cnt_free hinv hr (decide (0 < x))]
  refine cnt_iff fun f => ⟨fun hf => ⟨?_, hf.2⟩, fun hf => ⟨?_, hf.2⟩⟩
  · show evR f (resM cs x) = true
    rw [evR_res (sm_lit hx) h0 (hl f hf.2)]
    exact hf.1
  · show evR f cs = true
    rw [← evR_res (sm_lit hx) h0 (hl f hf.2)]
    exact hf.1
/-- the residual's count, lifted to the kept variables of the claim -/
theorem lifted {cs : List (List Int)} (h : Cn' cs) {x : Int} (hx : -20000 ≤ x ∧ x ≤ 20000) (keep : Int) :
    cntN (Ev (resM cs x)) ((keptM keep (occM cs)).filter fun w => decide (w ≠ varM x)) = 2 ^ lostM (varM x) (keptM keep (occM cs)) (occM (resM cs x)) * Pc keep (resM cs x) := by
  have hn := (kept_nodup keep cs).filter fun w => decide (w ≠ varM x)
  rw [cnt_skip _ (fun w => (occM (resM cs x)).contains w) _ hn fun v hv hp => (h.res hx).inv (by simpa using hp)]
  congr 1
  · unfold lostM
    rw [List.filter_filter]
    congr 3
    funext w
    rw [Bool.and_comm]
  · refine cnt_same (hn.filter _) (kept_nodup _ _) (fun v => ?_) _
    rw [List.mem_filter, List.mem_filter, kept_mem, kept_mem]
    constructor
    · rintro ⟨⟨⟨_, h2⟩, _⟩, h4⟩
      exact ⟨by simpa using h4, h2⟩
    · rintro ⟨h1, h2⟩
      have := h.res_occ hx h1
      exact ⟨⟨⟨this.1, h2⟩, by simpa using this.2⟩, by simpa using h1⟩
/-- a count over the kept variables, parted at one of them -/
theorem parted {cs : List (List Int)} {V : Int} {keep : Int} (hV : V ∈ keptM keep (occM cs)) (C : Asg → Prop) :
    cntN C (keptM keep (occM cs)) = cntN (fun f => C f ∧ f V = true) ((keptM keep (occM cs)).filter fun w => decide (w ≠ V)) + cntN (fun f => C f ∧ f V = false) ((keptM keep (occM cs)).filter fun w => decide (w ≠ V)) := by
  have hn := kept_nodup keep cs
  rw [cnt_same hn (List.nodup_cons.2 ⟨(fun h => by simp at h : V ∉ (keptM keep (occM cs)).filter fun w => decide (w ≠ V)), hn.filter _⟩) (fun x => ?_) C, cntN]
  rw [List.mem_cons, List.mem_filter]
  constructor
  · intro h
    by_cases e : x = V
    · exact .inl e
    · exact .inr ⟨h, by simpa using e⟩
  · rintro (e | h)
    · rw [e]; exact hV
    · exact h.1

/- (Trace seat) Plain: what the checker lets pass has the projected count of its clauses. No program in sight. -/
open Go.RowKit
set_option linter.unusedVariables false

theorem dbl_eq : ∀ (t : Nat) (n : Int), 0 ≤ dblM t n → dblM t n = 2 ^ t * n
  | 0, n, _ => by simp [dblM]
  | t + 1, n, h => by
    rw [dblM] at h ⊢
    by_cases hb : 1099511627776 < n
    · rw [if_pos hb] at h; omega
    · rw [if_neg hb] at h ⊢
      rw [dbl_eq t _ h, Int.pow_succ, Int.mul_assoc, Int.mul_comm n 2]
theorem varK_in {lit : Int} : ∀ {vs : List Int}, varK lit vs ≠ 0 → varK lit vs ∈ vs ∧ (lit = varK lit vs ∨ lit = -varK lit vs)
  | [], h => absurd rfl h
  | v :: r, h => by
    rw [varK] at h ⊢
    by_cases e : lit = v ∨ lit = -v
    · rw [if_pos e]
      exact ⟨List.mem_cons_self .., e⟩
    · rw [if_neg e] at h ⊢
      have := varK_in h
      exact ⟨List.mem_cons_of_mem _ this.1, this.2⟩
theorem varK_lit {cs : List (List Int)} {lit : Int} (h : varK lit (occM cs) ≠ 0) : lit ≠ 0 ∧ (-20000 ≤ lit ∧ lit ≤ 20000) ∧ varM lit = varK lit (occM cs) ∧ varK lit (occM cs) ∈ occM cs ∧ 1 ≤ varK lit (occM cs) := by
  obtain ⟨h1, h2⟩ := varK_in h
  have h3 := occM_range h1
  refine ⟨by omega, by omega, ?_, h1, h3.1⟩
  unfold varM
  split <;> omega
theorem lit_true {f : Asg} {x : Int} (h0 : x ≠ 0) : litR f x = true ↔ f (varM x) = decide (0 < x) := by
  unfold litR varM
  by_cases hp : 0 < x
  · rw [if_pos hp, if_neg (by omega), decide_eq_true hp]
  · rw [if_neg hp, if_pos (by omega), decide_eq_false hp]
    rcases f (-x) with _ | _ <;> simp
/-- a claim's clauses are canonical and its count is the projected count -/
def Good (keep : Int) (c : Claim) : Prop := Cn' c.cls ∧ c.count = (Pc keep c.cls : Int)
theorem lift_eq {keep : Int} {cs : List (List Int)} (h : Cn' cs) {x : Int} (hx : -20000 ≤ x ∧ x ≤ 20000) {k : Claim} (hk : Good keep k) (he : k.cls = resM cs x) (hn : 0 ≤ liftM keep (varM x) (occM cs) k) :
    liftM keep (varM x) (occM cs) k = (cntN (Ev (resM cs x)) ((keptM keep (occM cs)).filter fun w => decide (w ≠ varM x)) : Nat) := by
  unfold liftM at hn ⊢
  rw [dbl_eq _ _ hn, hk.2, he, lifted h hx]
  rw [Int.natCast_mul]
  congr 1
theorem cnt_half {cs : List (List Int)} (h : Cn' cs) {x : Int} (h0 : x ≠ 0) (hx : -20000 ≤ x ∧ x ≤ 20000) (keep : Int) :
    cntN (fun f => Ev cs f ∧ f (varM x) = decide (0 < x)) ((keptM keep (occM cs)).filter fun w => decide (w ≠ varM x)) = cntN (Ev (resM cs x)) ((keptM keep (occM cs)).filter fun w => decide (w ≠ varM x)) :=
  half h h0 hx fun hm => by simp at hm
theorem unit_good {keep : Int} {c : Claim} {ks : List Claim} (hc : Cn' c.cls) (hk : ∀ k ∈ ks, Good keep k) (h0 : 0 ≤ c.count) (h : unitM keep c ks (occM c.cls) = true) : c.count = (Pc keep c.cls : Int) := by
  unfold unitM at h
  split at h
  · cases h
  rename_i hn
  have g1 : varK c.lit (occM c.cls) ≠ 0 := fun e => hn (.inl e)
  have g2 : ks.length = 1 := Classical.byContradiction fun e => hn (.inr (.inl e))
  have g3 : (c.cls.any fun x => x == [c.lit]) = true := by
    rcases hb : c.cls.any fun x => x == [c.lit] with _ | _
    · exact absurd (.inr (.inr hb)) hn
    · rfl
  obtain ⟨k, rfl⟩ : ∃ k, ks = [k] := by
    match ks, g2 with
    | [k], _ => exact ⟨k, rfl⟩
  rw [Bool.and_eq_true] at h
  have hres : k.cls = resM c.cls c.lit := by have := h.1; unfold resB at this; simpa using this
  have hct : c.count = liftM keep (varK c.lit (occM c.cls)) (occM c.cls) k := by simpa using h.2
  obtain ⟨l0, lx, lv, lm, _⟩ := varK_lit g1
  rw [← lv] at hct lm
  rw [hct, lift_eq hc lx (hk k (by simp)) hres (by rw [← hct]; exact h0)]
  congr 1
  have hlit : ∀ f, Ev c.cls f → f (varM c.lit) = decide (0 < c.lit) := fun f hf => by
    obtain ⟨x, hx, he⟩ := List.any_eq_true.1 g3
    have he : x = [c.lit] := by simpa using he
    subst he
    have hf : evR f c.cls = true := hf
    unfold evR at hf
    have := List.all_eq_true.1 hf _ hx
    exact (lit_true l0).1 (by simpa using this)
  unfold Pc
  rw [← cnt_half hc l0 lx keep]
  by_cases hV : varM c.lit ∈ keptM keep (occM c.cls)
  · rw [parted hV (Ev c.cls)]
    have hz : ∀ b, b ≠ decide (0 < c.lit) → cntN (fun f => Ev c.cls f ∧ f (varM c.lit) = b) ((keptM keep (occM c.cls)).filter fun w => decide (w ≠ varM c.lit)) = 0 := fun b hb =>
      cnt_zero _ _ fun f hf => hb (hf.2.symm.trans (hlit f hf.1))
    rcases hd : decide (0 < c.lit) with _ | _
    · rw [hz true (by rw [hd]; simp), Nat.zero_add]
    · rw [hz false (by rw [hd]; simp), Nat.add_zero]
  · have hf : ((keptM keep (occM c.cls)).filter fun w => decide (w ≠ varM c.lit)) = keptM keep (occM c.cls) := List.filter_eq_self.2 fun w hw => decide_eq_true fun e => hV (e ▸ hw)
    rw [hf]
    exact cnt_iff fun f => ⟨fun h => h.1, fun h => ⟨h, hlit f h⟩⟩
theorem two_ks {ks : List Claim} (h : ks.length = 2) : ∃ a b, ks = [a, b] := by
  match ks, h with
  | [a, b], _ => exact ⟨a, b, rfl⟩
theorem varM_self {V : Int} (h : 1 ≤ V) : varM V = V ∧ varM (-V) = V := by
  constructor <;> (unfold varM; split <;> omega)
theorem dec_good {keep : Int} {c : Claim} {ks : List Claim} (hc : Cn' c.cls) (hk : ∀ k ∈ ks, Good keep k) (h : decM keep c ks (occM c.cls) = true) : c.count = (Pc keep c.cls : Int) := by
  unfold decM at h
  split at h
  · cases h
  rename_i hn
  have g1 : varK c.lit (occM c.cls) ≠ 0 := fun e => hn (.inl e)
  have g3 : varK c.lit (occM c.cls) ≤ keep := by
    refine Classical.byContradiction fun e => hn (.inr (.inr (.inl (by omega))))
  have g4 : ks.length = 2 := Classical.byContradiction fun e => hn (.inr (.inr (.inr (.inl e))))
  have g5 : resB c ks 0 (-varK c.lit (occM c.cls)) = true := by
    rcases hb : resB c ks 0 (-varK c.lit (occM c.cls)) with _ | _
    · exact absurd (.inr (.inr (.inr (.inr (.inl hb))))) hn
    · rfl
  have g6 : resB c ks 1 (varK c.lit (occM c.cls)) = true := by
    rcases hb : resB c ks 1 (varK c.lit (occM c.cls)) with _ | _
    · exact absurd (.inr (.inr (.inr (.inr (.inr hb))))) hn
    · rfl
  obtain ⟨a, b, rfl⟩ := two_ks g4
  obtain ⟨_, _, _, lm, lp⟩ := varK_lit g1
  have lr := occM_range lm
  generalize varK c.lit (occM c.cls) = V at *
  obtain ⟨v1, v2⟩ := varM_self lp
  rw [Bool.and_eq_true, Bool.and_eq_true] at h
  obtain ⟨h1, h2, h3⟩ := h
  have h1 : 0 ≤ liftM keep V (occM c.cls) a := of_decide_eq_true h1
  have h2 : 0 ≤ liftM keep V (occM c.cls) b := of_decide_eq_true h2
  have h3 : c.count = liftM keep V (occM c.cls) a + liftM keep V (occM c.cls) b := by simpa using h3
  have ea : a.cls = resM c.cls (-V) := by unfold resB at g5; simpa using g5
  have eb : b.cls = resM c.cls V := by unfold resB at g6; simpa using g6
  have la := lift_eq hc (x := -V) (by omega) (hk a (by simp)) ea (by rw [v2]; exact h1)
  have lb := lift_eq hc (x := V) (by omega) (hk b (by simp)) eb (by rw [v1]; exact h2)
  have ha := cnt_half hc (x := -V) (by omega) (by omega) keep
  have hb := cnt_half hc (x := V) (by omega) (by omega) keep
  rw [v2] at la ha
  rw [v1] at lb hb
  rw [decide_eq_false (by omega : ¬ 0 < -V)] at ha
  rw [decide_eq_true (by omega : 0 < V)] at hb
  rw [h3, la, lb]
  unfold Pc
  rw [parted (kept_mem.2 ⟨lm, g3⟩) (Ev c.cls), ha, hb]
  omega

/-! ### split -/
def Dj (a b : Claim) : Prop := ∀ v, v ∈ occM a.cls → v ∈ occM b.cls → False
theorem disj_iff : ∀ {ks : List Claim} {seen : List Int}, disjGo ks seen = true → (∀ k ∈ ks, ∀ v ∈ occM k.cls, v ∉ seen) ∧ ks.Pairwise Dj
  | [], seen, _ => ⟨by simp, .nil⟩
  | k :: r, seen, h => by
    rw [disjGo] at h
    split at h
    · cases h
    rename_i hn
    obtain ⟨h1, h2⟩ := disj_iff h
    have h3 : ∀ v ∈ occM k.cls, v ∉ seen := fun v hv hs => hn (List.any_eq_true.2 ⟨v, hv, by simpa using hs⟩)
    refine ⟨fun x hx v hv hs => ?_, List.pairwise_cons.2 ⟨fun x hx v ha hb => ?_, h2⟩⟩
    · rcases List.mem_cons.1 hx with rfl | hx
      · exact h3 v hv hs
      · exact h1 x hx v hv (List.mem_append_left _ hs)
    · exact h1 x hx v hb (List.mem_append_right _ ha)
def prodC : List Claim → Int
  | [] => 1
  | k :: r => k.count * prodC r
theorem prodGo_eq {cnt : Int} : ∀ {ks : List Claim} {p : Int}, prodGo cnt ks p = true → cnt = p * prodC ks
  | [], p, h => by
    rw [prodGo] at h
    rw [prodC, Int.mul_one]
    simpa using h
  | k :: r, p, h => by
    rw [prodGo] at h
    split at h
    · cases h
    rw [prodGo_eq h, prodC, Int.mul_assoc]
theorem prodC_zero : ∀ {ks : List Claim}, (∃ k ∈ ks, k.count = 0) → prodC ks = 0
  | [], h => by obtain ⟨k, hk, _⟩ := h; simp at hk
  | k :: r, h => by
    rw [prodC]
    obtain ⟨x, hx, e⟩ := h
    rcases List.mem_cons.1 hx with rfl | hx
    · rw [e, Int.zero_mul]
    · rw [prodC_zero ⟨x, hx, e⟩, Int.mul_zero]
def keptK (keep : Int) (ks : List Claim) : List Int := ks.flatMap fun k => keptM keep (occM k.cls)
def EvK (ks : List Claim) : Asg → Prop := fun f => ∀ k ∈ ks, Ev k.cls f
theorem keptK_mem {keep v : Int} {ks : List Claim} : v ∈ keptK keep ks ↔ (∃ k ∈ ks, v ∈ occM k.cls) ∧ v ≤ keep := by
  unfold keptK
  rw [List.mem_flatMap]
  constructor
  · rintro ⟨k, hk, h⟩
    exact ⟨⟨k, hk, (kept_mem.1 h).1⟩, (kept_mem.1 h).2⟩
  · rintro ⟨⟨k, hk, h⟩, h2⟩
    exact ⟨k, hk, kept_mem.2 ⟨h, h2⟩⟩
theorem keptK_nodup {keep : Int} : ∀ {ks : List Claim}, ks.Pairwise Dj → (keptK keep ks).Nodup
  | [], _ => .nil
  | k :: r, h => by
    obtain ⟨h1, h2⟩ := List.pairwise_cons.1 h
    show (keptM keep (occM k.cls) ++ keptK keep r).Nodup
    refine List.nodup_append.2 ⟨kept_nodup _ _, keptK_nodup h2, fun v hv u hu e => ?_⟩
    subst e
    obtain ⟨⟨x, hx, hm⟩, _⟩ := keptK_mem.1 hu
    exact h1 x hx v (kept_mem.1 hv).1 hm
theorem cnt_kids {keep : Int} : ∀ {ks : List Claim}, ks.Pairwise Dj → (∀ k ∈ ks, Good keep k) → (cntN (EvK ks) (keptK keep ks) : Int) = prodC ks
  | [], _, _ => by
    have : cntN (EvK []) (keptK keep []) = 1 := by
      show cntN (EvK []) [] = 1
      rw [cntN, if_pos ⟨fun _ => true, fun k hk => by simp at hk⟩]
    rw [this]; rfl
  | k :: r, h, hg => by
    have hall := h
    obtain ⟨h1, h2⟩ := List.pairwise_cons.1 h
    have ih := cnt_kids h2 fun x hx => hg x (List.mem_cons_of_mem _ hx)
    have hgk := hg k (List.mem_cons_self ..)
    have e : cntN (EvK (k :: r)) (keptK keep (k :: r)) = cntN (fun f => Ev k.cls f ∧ EvK r f) (keptM keep (occM k.cls) ++ keptK keep r) :=
      cnt_iff fun f => ⟨fun hf => ⟨hf k (List.mem_cons_self ..), fun x hx => hf x (List.mem_cons_of_mem _ hx)⟩, fun hf x hx => by
        rcases List.mem_cons.1 hx with rfl | hx
        · exact hf.1
        · exact hf.2 x hx⟩
    have hnd : (keptM keep (occM k.cls) ++ keptK keep r).Nodup := keptK_nodup (keep := keep) hall
    rw [e, cnt_prod (keptM keep (occM k.cls)) (keptK keep r) (Ev k.cls) (EvK r) (fun v => v ∈ occM k.cls) (fun v => ∃ x ∈ r, v ∈ occM x.cls) hgk.1.dep ?_ ?_ ?_ ?_ hnd, prodC, Int.natCast_mul, ih, hgk.2]
    · rfl
    · intro f g hfg
      constructor
      · intro hf x hx
        exact ((hg x (List.mem_cons_of_mem _ hx)).1.dep f g fun v hv => hfg v ⟨x, hx, hv⟩).1 (hf x hx)
      · intro hf x hx
        exact ((hg x (List.mem_cons_of_mem _ hx)).1.dep f g fun v hv => hfg v ⟨x, hx, hv⟩).2 (hf x hx)
    · rintro v hv ⟨x, hx, hm⟩
      exact h1 x hx v hv hm
    · rintro v hv ⟨x, hx, hm⟩
      exact h1 x hx v (kept_mem.1 hv).1 hm
    · intro v hv hm
      obtain ⟨⟨x, hx, h3⟩, _⟩ := keptK_mem.1 hv
      exact h1 x hx v hm h3
theorem all_ev {ks : List Claim} {f : Asg} : evR f (allM ks) = true ↔ EvK ks f := by
  unfold evR allM EvK Ev evR
  rw [List.all_eq_true]
  constructor
  · intro h k hk
    exact List.all_eq_true.2 fun c hc => h c (List.mem_flatMap.2 ⟨k, hk, hc⟩)
  · intro h c hc
    obtain ⟨k, hk, hc⟩ := List.mem_flatMap.1 hc
    exact List.all_eq_true.1 (h k hk) c hc
theorem can_in {cs : List (List Int)} {d : List Int} (h : d ∈ cs) (hs : Strict litC d) (ho : oppM d = false) : d ∈ canM cs := by
  unfold canM
  rw [cptM_in, (srtC_perm clsC _).mem_iff, List.mem_filter, List.mem_map]
  exact ⟨⟨d, h, hs.cla⟩, by rw [ho]; rfl⟩
theorem split_good {keep : Int} {c : Claim} {ks : List Claim} (hc : Cn' c.cls) (hk : ∀ k ∈ ks, Good keep k) (h : splitM c ks = true) : c.count = (Pc keep c.cls : Int) := by
  unfold splitM at h
  split at h
  · cases h
  split at h
  · cases h
  rename_i hd
  have hd : disjGo ks [] = true := by simpa using hd
  split at h
  · cases h
  rename_i hn
  have hcan : canM (allM ks) = c.cls := by
    rcases hb : (canM (allM ks) == c.cls) with _ | _
    · exact absurd (.inr hb) hn
    · simpa using hb
  have hpw := (disj_iff hd).2
  have hocc : ∀ v, v ∈ occM c.cls ↔ ∃ k ∈ ks, v ∈ occM k.cls := fun v => by
    rw [hc.mem]
    constructor
    · rintro ⟨d, hd, x, hx, e⟩
      rw [← hcan] at hd
      obtain ⟨_, _, d', hd', rfl⟩ := canM_mem hd
      obtain ⟨k, hk', hd''⟩ := List.mem_flatMap.1 hd'
      exact ⟨k, hk', (hk k hk').1.mem.2 ⟨d', hd'', x, claM_mem hx, e⟩⟩
    · rintro ⟨k, hk', hv⟩
      obtain ⟨d, hd, x, hx, e⟩ := (hk k hk').1.mem.1 hv
      have hd2 := hd
      rw [← (hk k hk').1.1] at hd2
      obtain ⟨ho, hs, _⟩ := canM_mem hd2
      exact ⟨d, by rw [← hcan]; exact can_in (List.mem_flatMap.2 ⟨k, hk', hd⟩) hs ho, x, hx, e⟩
  have hP : (Pc keep c.cls : Int) = prodC ks := by
    rw [← cnt_kids hpw hk]
    congr 1
    unfold Pc
    rw [cnt_same (kept_nodup keep c.cls) (keptK_nodup (keep := keep) hpw) fun v => by rw [kept_mem, keptK_mem, hocc]]
    refine cnt_iff fun f => ?_
    rw [← all_ev, ← evR_can, hcan]
    rfl
  rw [hP]
  split at h
  · rename_i hz
    obtain ⟨k, hk', e⟩ := List.any_eq_true.1 hz
    rw [prodC_zero ⟨k, hk', of_decide_eq_true e⟩]
    simpa using h
  · rw [prodGo_eq h, Int.one_mul]
theorem cnt_ex {S : List Int} {C : Asg → Prop} (h : cntN C S ≠ 0) : ∃ f, C f :=
  Classical.byContradiction fun hn => h (cnt_zero S C fun f hf => hn ⟨f, hf⟩)
theorem try_good {keep : Int} {c : Claim} {ks : List Claim} (hc : Cn' c.cls) (hk : ∀ k ∈ ks, Good keep k) (h : tryM keep c ks (occM c.cls) = true) : c.count = (Pc keep c.cls : Int) := by
  unfold tryM at h
  split at h
  · cases h
  rename_i hn
  have g1 : varK c.lit (occM c.cls) ≠ 0 := fun e => hn (.inl e)
  have g2 : ks.length = 1 := Classical.byContradiction fun e => hn (.inr (.inl e))
  have g3 : keptM keep (occM c.cls) = [] := List.eq_nil_of_length_eq_zero (by
    have : ¬ 0 < (keptM keep (occM c.cls)).length := fun e => hn (.inr (.inr (.inl e)))
    omega)
  have g4 : resB c ks 0 c.lit = true := by
    rcases hb : resB c ks 0 c.lit with _ | _
    · exact absurd (.inr (.inr (.inr hb))) hn
    · rfl
  obtain ⟨k, rfl⟩ : ∃ k, ks = [k] := by
    match ks, g2 with
    | [k], _ => exact ⟨k, rfl⟩
  rw [Bool.and_eq_true] at h
  have hres : k.cls = resM c.cls c.lit := by unfold resB at g4; simpa using g4
  have hk1 : k.count = 1 := by simpa using h.1
  have hc1 : c.count = 1 := by simpa using h.2
  obtain ⟨l0, lx, _⟩ := varK_lit g1
  have hP : Pc keep k.cls ≠ 0 := fun e => by
    have := (hk k (by simp)).2
    rw [e, hk1] at this
    simp at this
  obtain ⟨f, hf⟩ := cnt_ex hP
  have hh := half hc l0 lx (r := []) (by simp)
  have hp : cntN (Ev (resM c.cls c.lit)) [] ≠ 0 := by
    rw [hres] at hf
    exact Nat.ne_of_gt (cnt_pos _ _ f hf)
  rw [← hh] at hp
  obtain ⟨g, hg⟩ := cnt_ex hp
  rw [hc1]
  unfold Pc
  rw [g3, cntN, if_pos ⟨g, hg.1⟩]
  rfl
theorem both_good {keep : Int} {c : Claim} {ks : List Claim} (hc : Cn' c.cls) (hk : ∀ k ∈ ks, Good keep k) (h : bothM c ks (occM c.cls) = true) : c.count = (Pc keep c.cls : Int) := by
  unfold bothM at h
  split at h
  · cases h
  rename_i hn
  have g1 : varK c.lit (occM c.cls) ≠ 0 := fun e => hn (.inl e)
  have g4 : ks.length = 2 := Classical.byContradiction fun e => hn (.inr (.inr (.inl e)))
  have g5 : resB c ks 0 (-varK c.lit (occM c.cls)) = true := by
    rcases hb : resB c ks 0 (-varK c.lit (occM c.cls)) with _ | _
    · exact absurd (.inr (.inr (.inr (.inl hb)))) hn
    · rfl
  have g6 : resB c ks 1 (varK c.lit (occM c.cls)) = true := by
    rcases hb : resB c ks 1 (varK c.lit (occM c.cls)) with _ | _
    · exact absurd (.inr (.inr (.inr (.inr hb)))) hn
    · rfl
  obtain ⟨a, b, rfl⟩ := two_ks g4
  obtain ⟨_, _, _, lm, lp⟩ := varK_lit g1
  have lr := occM_range lm
  generalize varK c.lit (occM c.cls) = V at *
  rw [Bool.and_eq_true, Bool.and_eq_true] at h
  obtain ⟨h1, h2, h3⟩ := h
  have h1 : a.count = 0 := by simpa using h1
  have h2 : b.count = 0 := by simpa using h2
  have h3 : c.count = 0 := by simpa using h3
  have ea : a.cls = resM c.cls (-V) := by unfold resB at g5; simpa using g5
  have eb : b.cls = resM c.cls V := by unfold resB at g6; simpa using g6
  rw [h3]
  have no : ∀ (k : Claim) (x : Int), Good keep k → k.count = 0 → k.cls = resM c.cls x → x ≠ 0 → (-20000 ≤ x ∧ x ≤ 20000) → ∀ f, litR f x = true → ¬ Ev c.cls f := fun k x hg hz he h0 hx f hl hf => by
    have : Ev k.cls f := by
      show evR f k.cls = true
      rw [he, evR_res (sm_lit hx) h0 hl]
      exact hf
    have hp := cnt_pos (keptM keep (occM k.cls)) _ f this
    have := hg.2
    rw [hz] at this
    have e : Pc keep k.cls = cntN (Ev k.cls) (keptM keep (occM k.cls)) := rfl
    omega
  unfold Pc
  rw [cnt_zero _ _ fun f hf => ?_]
  · rfl
  rcases hb : litR f V with _ | _
  · exact no a (-V) (hk a (by simp)) h1 ea (by omega) (by omega) f (by rw [litR_neg f (by omega), hb]; rfl) hf
  · exact no b V (hk b (by simp)) h2 eb (by omega) (by omega) f hb hf
/-- what the checker lets pass -/
theorem fol_good {keep : Int} {c : Claim} {ks : List Claim} (hc : Cn' c.cls) (hk : ∀ k ∈ ks, Good keep k) (h0 : 0 ≤ c.count) (h : folM keep c ks (occM c.cls) = true) : Good keep c := by
  refine ⟨hc, ?_⟩
  unfold folM at h
  split at h
  · cases h
  split at h
  · rw [Bool.and_eq_true, Bool.and_eq_true, Bool.and_eq_true] at h
    have h1 : c.cls = [] := List.eq_nil_of_length_eq_zero (of_decide_eq_true h.2.2.1)
    have h2 : c.count = 1 := by simpa using h.2.2.2
    rw [h1, h2]
    unfold Pc
    rw [show keptM keep (occM []) = [] from List.eq_nil_iff_forall_not_mem.2 fun v hv => by have := occM_mem.1 (kept_mem.1 hv).1; simp [mags] at this, cntN, if_pos ⟨fun _ => true, rfl⟩]
    rfl
  split at h
  · rw [Bool.and_eq_true, Bool.and_eq_true, Bool.and_eq_true] at h
    have h2 : c.count = 0 := by simpa using h.2.2.2
    obtain ⟨x, hx, e⟩ := List.any_eq_true.1 h.2.2.1
    have e : x = [] := List.eq_nil_of_length_eq_zero (of_decide_eq_true e)
    subst e
    rw [h2]
    unfold Pc
    rw [cnt_zero _ _ fun f hf => ?_]
    · rfl
    have hf : evR f c.cls = true := hf
    unfold evR at hf
    have := List.all_eq_true.1 hf _ hx
    simp at this
  split at h
  · exact unit_good hc hk h0 h
  split at h
  · exact dec_good hc hk h
  split at h
  · exact split_good hc hk h
  split at h
  · exact try_good hc hk h
  split at h
  · exact both_good hc hk h
  · cases h
end Go.Proofs.YthanfjpmcckbhaaGreatDoor
