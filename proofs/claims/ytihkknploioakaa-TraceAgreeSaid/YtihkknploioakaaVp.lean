/- (Trace seat) Plain: the count of an accepted claim is the projected count of its clauses. No program in sight. -/
import Derived.Test.YtihkknploioakaaVa
import Derived.Test.YtihkknploioakaaQu
namespace Go.Proofs.Ytihkknploioakaa
open Go.RowKit
set_option linter.unusedVariables false

/-! ### counting lists -/
abbrev Asg := Int → Bool
theorem cnt_iff {S : List Int} {C D : Asg → Prop} (h : ∀ f, C f ↔ D f) : cntN C S = cntN D S :=
  cnt_congr S C D (fun f hf => ⟨f, (h f).1 hf, fun _ _ => rfl⟩) (fun f hf => ⟨f, (h f).2 hf, fun _ _ => rfl⟩)
def Inv (C : Asg → Prop) (v : Int) : Prop := ∀ f b, C (upd f v b) ↔ C f
theorem upd_same (f : Asg) (v : Int) (b : Bool) : upd f v b v = b := by unfold upd; rw [if_pos rfl]
theorem upd_ne (f : Asg) {v w : Int} (b : Bool) (h : w ≠ v) : upd f v b w = f w := by unfold upd; rw [if_neg h]
theorem upd_self (f : Asg) (v : Int) : upd f v (f v) = f := by
  funext w
  unfold upd
  split
  · rename_i h; rw [h]
  · rfl
theorem cnt_free {C : Asg → Prop} {v : Int} {r : List Int} (hi : Inv C v) (hr : v ∉ r) (b : Bool) : cntN (fun f => C f ∧ f v = b) r = cntN C r :=
  cnt_congr r _ _ (fun f hf => ⟨f, hf.1, fun _ _ => rfl⟩) fun f hf => ⟨upd f v b, ⟨(hi f b).2 hf, upd_same f v b⟩, fun w hw => upd_ne f b fun e => hr (e ▸ hw)⟩
theorem cnt_skip : ∀ (S : List Int) (p : Int → Bool) (C : Asg → Prop), S.Nodup → (∀ v ∈ S, p v = false → Inv C v) → cntN C S = 2 ^ (S.filter fun v => !p v).length * cntN C (S.filter p)
  | [], p, C, _, _ => by simp
  | v :: r, p, C, hn, hi => by
    obtain ⟨hv, hr⟩ := List.nodup_cons.1 hn
    have sub : ∀ b, ∀ u ∈ r, p u = false → Inv (fun f => C f ∧ f v = b) u := fun b u hu hp f c => by
      have huv : v ≠ u := fun e => hv (e ▸ hu)
      show (C (upd f u c) ∧ upd f u c v = b) ↔ (C f ∧ f v = b)
      rw [hi u (List.mem_cons_of_mem _ hu) hp f c, upd_ne f c huv]
    rcases hp : p v with _ | _
    · have h1 := hi v (List.mem_cons_self ..) hp
      rw [cntN, cnt_free h1 hv, cnt_free h1 hv, cnt_skip r p C hr fun u hu => hi u (List.mem_cons_of_mem _ hu), List.filter_cons, List.filter_cons, hp]
      simp only [Bool.not_false, if_true, Bool.false_eq_true, if_false, List.length_cons, Nat.pow_succ, Nat.mul_assoc]
      rw [Nat.two_mul, Nat.mul_add]
    · rw [cntN, cnt_skip r p _ hr (sub true), cnt_skip r p _ hr (sub false), ← Nat.mul_add, List.filter_cons, List.filter_cons, hp]
      simp only [Bool.not_true, Bool.false_eq_true, if_false, if_true]
      rw [cntN]
theorem cnt_perm {S T : List Int} (h : S.Perm T) : ∀ C : Asg → Prop, cntN C S = cntN C T := by
  induction h with
  | nil => intro C; rfl
  | cons v _ ih => intro C; rw [cntN, cntN, ih, ih]
  | swap u v r =>
    intro C
    simp only [cntN]
    have e : ∀ a b : Bool, cntN (fun f => (C f ∧ f v = a) ∧ f u = b) r = cntN (fun f => (C f ∧ f u = b) ∧ f v = a) r := fun a b => cnt_iff fun f => ⟨fun h => ⟨⟨h.1.1, h.2⟩, h.1.2⟩, fun h => ⟨⟨h.1.1, h.2⟩, h.1.2⟩⟩
    rw [e true true, e true false, e false true, e false false]
    omega
  | trans _ _ ih1 ih2 => intro C; rw [ih1, ih2]
theorem cnt_pos : ∀ (S : List Int) (C : Asg → Prop) (f : Asg), C f → 0 < cntN C S
  | [], C, f, h => by unfold cntN; rw [if_pos ⟨f, h⟩]; omega
  | v :: r, C, f, h => by
    rw [cntN]
    rcases hv : f v with _ | _
    · exact Nat.lt_of_lt_of_le (cnt_pos r (fun f => C f ∧ f v = false) f ⟨h, hv⟩) (Nat.le_add_left ..)
    · exact Nat.lt_of_lt_of_le (cnt_pos r (fun f => C f ∧ f v = true) f ⟨h, hv⟩) (Nat.le_add_right ..)
theorem cnt_same {S T : List Int} (hs : S.Nodup) (ht : T.Nodup) (h : ∀ x, x ∈ S ↔ x ∈ T) (C : Asg → Prop) : cntN C S = cntN C T :=
  cnt_perm ((List.perm_ext_iff_of_nodup hs ht).2 h) C

/-! ### what depends on what -/
def Dep (C : Asg → Prop) (V : Int → Prop) : Prop := ∀ f g, (∀ v, V v → f v = g v) → (C f ↔ C g)
theorem cnt_prod : ∀ (S1 S2 : List Int) (A B : Asg → Prop) (VA VB : Int → Prop), Dep A VA → Dep B VB → (∀ v, VA v → VB v → False) → (∀ v ∈ S1, ¬ VB v) → (∀ v ∈ S2, ¬ VA v) → (S1 ++ S2).Nodup →
    cntN (fun f => A f ∧ B f) (S1 ++ S2) = cntN A S1 * cntN B S2
  | [], S2, A, B, VA, VB, hA, hB, hd, h1, h2, hn => by
    rw [List.nil_append]
    by_cases h : ∃ f, A f
    · obtain ⟨f0, hf0⟩ := h
      have : cntN A [] = 1 := by unfold cntN; rw [if_pos ⟨f0, hf0⟩]
      rw [this, Nat.one_mul]
      refine cnt_congr S2 _ _ (fun f hf => ⟨f, hf.2, fun _ _ => rfl⟩) fun f hf => ?_
      classical
      refine ⟨fun v => if VA v then f0 v else f v, ⟨(hA f0 _ fun v hv => ?_).1 hf0, (hB f _ fun v hv => ?_).1 hf⟩, fun v hv => ?_⟩
      · show f0 v = if VA v then f0 v else f v
        rw [if_pos hv]
      · show f v = if VA v then f0 v else f v
        rw [if_neg fun h => hd v h hv]
      · show (if VA v then f0 v else f v) = f v
        rw [if_neg (h2 v hv)]
    · have : cntN A [] = 0 := by unfold cntN; rw [if_neg h]
      rw [this, Nat.zero_mul]
      exact cnt_zero S2 _ fun f hf => h ⟨f, hf.1⟩
  | v :: r, S2, A, B, VA, VB, hA, hB, hd, h1, h2, hn => by
    rw [List.cons_append] at hn ⊢
    obtain ⟨hv, hr⟩ := List.nodup_cons.1 hn
    have e : ∀ b : Bool, cntN (fun f => (A f ∧ B f) ∧ f v = b) (r ++ S2) = cntN (fun f => A f ∧ f v = b) r * cntN B S2 := fun b => by
      rw [← cnt_prod r S2 (fun f => A f ∧ f v = b) B (fun u => VA u ∨ u = v) VB ?_ hB ?_ ?_ ?_ hr]
      · exact cnt_iff fun f => ⟨fun h => ⟨⟨h.1.1, h.2⟩, h.1.2⟩, fun h => ⟨⟨h.1.1, h.2⟩, h.1.2⟩⟩
      · intro f g h
        show (A f ∧ f v = b) ↔ (A g ∧ g v = b)
        rw [hA f g fun u hu => h u (.inl hu), h v (.inr rfl)]
      · rintro u (hu | rfl) hb
        · exact hd u hu hb
        · exact h1 u (List.mem_cons_self ..) hb
      · exact fun u hu => h1 u (List.mem_cons_of_mem _ hu)
      · rintro u hu (h | rfl)
        · exact h2 u hu h
        · exact hv (List.mem_append_right _ hu)
    simp only [cntN]
    rw [e true, e false, ← Nat.add_mul]

/-! ### canonical clauses of literals -/
/-- canB's clauses -/
def Cn' (cs : List (List Int)) : Prop := canM cs = cs ∧ ∀ c ∈ cs, ∀ x ∈ c, x ≠ 0 ∧ -20000 ≤ x ∧ x ≤ 20000
theorem canB_cn {cs : List (List Int)} (h : canB cs = true) : Cn' cs := by
  unfold canB at h
  rw [Bool.and_eq_true, List.all_eq_true] at h
  refine ⟨by simpa using h.2, fun c hc x hx => ?_⟩
  have := List.all_eq_true.1 (h.1 c hc) x hx
  unfold litOk at this
  simp at this
  omega
theorem varM_pos {x : Int} : 0 ≤ varM x := by unfold varM; split <;> omega
theorem Cn'.mem {cs : List (List Int)} (h : Cn' cs) {v : Int} : v ∈ occM cs ↔ ∃ c ∈ cs, ∃ x ∈ c, varM x = v := by
  rw [occM_mem]
  unfold mags magsC
  rw [List.mem_flatMap]
  constructor
  · rintro ⟨c, hc, hv⟩
    rw [List.mem_filter, List.mem_map] at hv
    obtain ⟨⟨x, hx, e⟩, _⟩ := hv
    exact ⟨c, hc, x, hx, e⟩
  · rintro ⟨c, hc, x, hx, e⟩
    refine ⟨c, hc, ?_⟩
    rw [List.mem_filter, List.mem_map]
    refine ⟨⟨x, hx, e⟩, ?_⟩
    obtain ⟨h0, h1, h2⟩ := h.2 c hc x hx
    unfold magR
    rw [← e]
    have h3 : 1 ≤ varM x ∧ varM x ≤ 20000 := by unfold varM; split <;> omega
    rw [decide_eq_true h3.1, decide_eq_true h3.2]
    rfl
theorem Cn'.vs {cs : List (List Int)} (h : Cn' cs) : Vs (occM cs) cs := fun c hc x hx => ⟨(h.2 c hc x hx).1, h.mem.2 ⟨c, hc, x, hx, rfl⟩⟩
def Ev (cs : List (List Int)) : Asg → Prop := fun f => evR f cs = true
theorem Cn'.dep {cs : List (List Int)} (h : Cn' cs) : Dep (Ev cs) fun v => v ∈ occM cs := fun f g e => by
  unfold Ev
  rw [evR_congr h.vs e]
theorem Cn'.inv {cs : List (List Int)} (h : Cn' cs) {v : Int} (hv : v ∉ occM cs) : Inv (Ev cs) v := fun f b =>
  h.dep _ _ fun u hu => upd_ne f b fun e => hv (e ▸ hu)
/-- the projected count over the kept variables that occur -/
noncomputable def Pc (keep : Int) (cs : List (List Int)) : Nat := cntN (Ev cs) (keptM keep (occM cs))
theorem kept_nodup (keep : Int) (cs : List (List Int)) : (keptM keep (occM cs)).Nodup := (occM_nodup cs).filter _

theorem kept_mem {keep x : Int} {vs : List Int} : x ∈ keptM keep vs ↔ x ∈ vs ∧ x ≤ keep := by unfold keptM; rw [List.mem_filter]; simp

/-! ### the residual -/
theorem sm_lit {x : Int} (h : -20000 ≤ x ∧ x ≤ 20000) : Sm x := ⟨by omega, by omega⟩
theorem Cn'.res {cs : List (List Int)} (h : Cn' cs) {x : Int} (hx : -20000 ≤ x ∧ x ≤ 20000) : Cn' (resM cs x) :=
  ⟨resM_can cs x, fun d hd y hy => by
    obtain ⟨c, hc, hyc, _⟩ := res_lit (sm_lit hx) hd hy
    exact h.2 c hc y hyc⟩
theorem Cn'.res_occ {cs : List (List Int)} (h : Cn' cs) {x v : Int} (hx : -20000 ≤ x ∧ x ≤ 20000) (hv : v ∈ occM (resM cs x)) : v ∈ occM cs ∧ v ≠ varM x := by
  obtain ⟨d, hd, y, hy, e⟩ := (h.res hx).mem.1 hv
  obtain ⟨c, hc, hyc, n1, n2⟩ := res_lit (sm_lit hx) hd hy
  refine ⟨h.mem.2 ⟨c, hc, y, hyc, e⟩, fun e2 => ?_⟩
  rw [← e] at e2
  unfold varM at e2
  split at e2 <;> split at e2 <;> omega
/-- the half of the count in which a literal is true -/
theorem half {cs : List (List Int)} (h : Cn' cs) {x : Int} (h0 : x ≠ 0) (hx : -20000 ≤ x ∧ x ≤ 20000) {r : List Int} (hr : varM x ∉ r) :
    cntN (fun f => Ev cs f ∧ f (varM x) = decide (0 < x)) r = cntN (Ev (resM cs x)) r := by
  have hl : ∀ f : Asg, f (varM x) = decide (0 < x) → litR f x = true := fun f hf => by
    unfold litR
    unfold varM at hf
    by_cases hp : 0 < x
    · rw [if_pos hp]
      rw [if_neg (by omega), decide_eq_true hp] at hf
      exact hf
    · rw [if_neg hp]
      rw [if_pos (by omega), decide_eq_false hp] at hf
      rw [hf]; rfl
  have hne : varM x ∉ occM (resM cs x) := fun hm => (h.res_occ hx hm).2 rfl
  have hinv := (h.res hx).inv hne
  rw [← cnt_free hinv hr (decide (0 < x))]
  refine cnt_iff fun f => ⟨fun hf => ⟨?_, hf.2⟩, fun hf => ⟨?_, hf.2⟩⟩
  · show evR f (resM cs x) = true
    rw [evR_res (sm_lit hx) h0 (hl f hf.2)]
    exact hf.1
  · show evR f cs = true
    rw [← evR_res (sm_lit hx) h0 (hl f hf.2)]
    exact hf.1
/-- the residual's count, lifted to the kept variables of the claim -/
theorem lifted {cs : List (List Int)} (h : Cn' cs) {x : Int} (hx : -20000 ≤ x ∧ x ≤ 20000) (keep : Int) :
    cntN (Ev (resM cs x)) ((keptM keep (occM cs)).filter fun w => decide (w ≠ varM x)) = 2 ^ lostM (varM x) (keptM keep (occM cs)) (occM (resM cs x)) * Pc keep (resM cs x) := by
  have hn := (kept_nodup keep cs).filter fun w => decide (w ≠ varM x)
  rw [cnt_skip _ (fun w => (occM (resM cs x)).contains w) _ hn fun v hv hp => (h.res hx).inv (by simpa using hp)]
  congr 1
  · unfold lostM
    rw [List.filter_filter]
    congr 3
    funext w
    rw [Bool.and_comm]
  · refine cnt_same (hn.filter _) (kept_nodup _ _) (fun v => ?_) _
    rw [List.mem_filter, List.mem_filter, kept_mem, kept_mem]
    constructor
    · rintro ⟨⟨⟨_, h2⟩, _⟩, h4⟩
      exact ⟨by simpa using h4, h2⟩
    · rintro ⟨h1, h2⟩
      have := h.res_occ hx h1
      exact ⟨⟨⟨this.1, h2⟩, by simpa using this.2⟩, by simpa using h1⟩
/-- a count over the kept variables, parted at one of them -/
theorem parted {cs : List (List Int)} {V : Int} {keep : Int} (hV : V ∈ keptM keep (occM cs)) (C : Asg → Prop) :
    cntN C (keptM keep (occM cs)) = cntN (fun f => C f ∧ f V = true) ((keptM keep (occM cs)).filter fun w => decide (w ≠ V)) + cntN (fun f => C f ∧ f V = false) ((keptM keep (occM cs)).filter fun w => decide (w ≠ V)) := by
  have hn := kept_nodup keep cs
  rw [cnt_same hn (List.nodup_cons.2 ⟨(fun h => by simp at h : V ∉ (keptM keep (occM cs)).filter fun w => decide (w ≠ V)), hn.filter _⟩) (fun x => ?_) C, cntN]
  rw [List.mem_cons, List.mem_filter]
  constructor
  · intro h
    by_cases e : x = V
    · exact .inl e
    · exact .inr ⟨h, by simpa using e⟩
  · rintro (e | h)
    · rw [e]; exact hV
    · exact h.1
end Go.Proofs.Ytihkknploioakaa
