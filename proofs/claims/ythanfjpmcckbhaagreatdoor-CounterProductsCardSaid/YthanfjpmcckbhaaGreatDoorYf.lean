/- (Counter seat) Plain: two formulas without common variables: the count of both is the product. No program in sight. -/
import Derived.Test.YthanfjpmcckbhaaGreatDoorYe
namespace Go.Proofs.YthanfjpmcckbhaaGreatDoor
open Go.RowKit
set_option linter.unusedVariables false

theorem cnt_ren {s : Int → Int} (hs : ∀ a b, s a = s b → a = b) : ∀ (S : List Int) (C : Asg → Prop), cntN (fun f => C fun v => f (s v)) (S.map s) = cntN C S
  | [], C => by
    rw [List.map_nil, cntN, cntN]
    by_cases h : ∃ g, C g
    · obtain ⟨g, hg⟩ := h
      have hf : ∃ f : Asg, (fun v => f (s v)) = g := by
        refine ⟨fun w => @decide (∃ v, s v = w ∧ g v = true) (Classical.propDecidable _), ?_⟩
        funext v
        rcases hv : g v with _ | _
        · simp only [decide_eq_false_iff_not]
          rintro ⟨u, hu, hg⟩
          rw [hs _ _ hu, hv] at hg
          cases hg
        · simp only [decide_eq_true_eq]
          exact ⟨v, rfl, hv⟩
      obtain ⟨f, hf⟩ := hf
      rw [if_pos ⟨f, by rw [hf]; exact hg⟩, if_pos ⟨g, hg⟩]
    · rw [if_neg (fun ⟨f, hf⟩ => h ⟨_, hf⟩), if_neg h]
  | v :: r, C => by
    rw [List.map_cons, cntN, cntN]
    rw [← cnt_ren hs r (fun g => C g ∧ g v = true), ← cnt_ren hs r (fun g => C g ∧ g v = false)]
/-- a literal moved -/
def mvL (s : Int → Int) (x : Int) : Int := if x < 0 then -s (varM x) else s (varM x)
def mvC (s : Int → Int) (cs : List (List Int)) : List (List Int) := cs.map fun c => c.map (mvL s)
theorem lit_mv {s : Int → Int} {f : Asg} {x : Int} (h0 : x ≠ 0) (hp : 0 < s (varM x)) : litR f (mvL s x) = litR (fun v => f (s v)) x := by
  unfold litR mvL
  by_cases h : x < 0
  · rw [if_pos h, if_neg (by omega), if_neg (by omega), show varM x = -x by unfold varM; rw [if_pos h], show - -s (-x) = s (-x) by omega]
  · rw [if_neg h, show varM x = x by unfold varM; rw [if_neg h]] at *
    rw [if_pos hp, if_pos (by omega)]
theorem ev_mv {s : Int → Int} {cs : List (List Int)} (h0 : ∀ c ∈ cs, ∀ x ∈ c, x ≠ 0 ∧ 0 < s (varM x)) (f : Asg) : evR f (mvC s cs) = evR (fun v => f (s v)) cs := by
  unfold evR mvC
  rw [List.all_map, Bool.eq_iff_iff, List.all_eq_true, List.all_eq_true]
  have key : ∀ c ∈ cs, (((fun c => c.any (litR f)) ∘ fun c => c.map (mvL s)) c = true ↔ c.any (litR fun v => f (s v)) = true) := fun c hc => by
    show (c.map (mvL s)).any (litR f) = true ↔ _
    rw [List.any_map, List.any_eq_true, List.any_eq_true]
    constructor
    · rintro ⟨x, hx, h⟩
      exact ⟨x, hx, by rw [← lit_mv (h0 c hc x hx).1 (h0 c hc x hx).2]; exact h⟩
    · rintro ⟨x, hx, h⟩
      exact ⟨x, hx, by rw [← lit_mv (h0 c hc x hx).1 (h0 c hc x hx).2] at h; exact h⟩
  exact ⟨fun h c hc => (key c hc).1 (h c hc), fun h c hc => (key c hc).2 (h c hc)⟩
theorem ivl_app : ∀ (a : Int) (m n : Nat), ivl a (m + n) = ivl a m ++ ivl (a + m) n
  | a, 0, n => by rw [Nat.zero_add]; simp [ivl]
  | a, m + 1, n => by
    rw [show m + 1 + n = (m + n) + 1 by omega, ivl, ivl, ivl_app (a + 1) m n, List.cons_append]
    rw [show a + 1 + (m : Int) = a + ((m + 1 : Nat) : Int) by omega]
theorem ivl_shift : ∀ (a b : Int) (m : Nat), (ivl a m).map (fun v => v + b) = ivl (a + b) m
  | a, b, 0 => rfl
  | a, b, m + 1 => by rw [ivl, ivl, List.map_cons, ivl_shift (a + 1) b m, show a + 1 + b = a + b + 1 by omega]
/-- the places of the first and of the second formula's variables -/
def sC (Kc Kd : Nat) (v : Int) : Int := if v ≤ Kc then v else v + Kd
def sD (Kc Kd Vc : Nat) (v : Int) : Int := if v ≤ Kd then v + Kc else v + Vc
theorem prod_count {cs ds : List (List Int)} {Kc Kd Vc Vd : Nat} (hc : Cn' cs) (hd : Cn' ds) (hk : Kc ≤ Vc) (hkd : Kd ≤ Vd) (hvc : ∀ v ∈ occM cs, v ≤ Vc) (hvd : ∀ v ∈ occM ds, v ≤ Vd) :
    cntN (Ev (canM (mvC (sC Kc Kd) cs ++ mvC (sD Kc Kd Vc) ds))) (ivl 0 (Kc + Kd)) = cntN (Ev cs) (ivl 0 Kc) * cntN (Ev ds) (ivl 0 Kd) := by
  have h0c : ∀ c ∈ cs, ∀ x ∈ c, x ≠ 0 ∧ 0 < sC Kc Kd (varM x) := fun c hcc x hx => by
    refine ⟨(hc.2 c hcc x hx).1, ?_⟩
    have := occM_range (hc.mem.2 ⟨c, hcc, x, hx, rfl⟩)
    unfold sC
    split <;> omega
  have h0d : ∀ c ∈ ds, ∀ x ∈ c, x ≠ 0 ∧ 0 < sD Kc Kd Vc (varM x) := fun c hcc x hx => by
    refine ⟨(hd.2 c hcc x hx).1, ?_⟩
    have := occM_range (hd.mem.2 ⟨c, hcc, x, hx, rfl⟩)
    unfold sD
    split <;> omega
  have e1 : cntN (Ev (canM (mvC (sC Kc Kd) cs ++ mvC (sD Kc Kd Vc) ds))) (ivl 0 (Kc + Kd)) = cntN (fun f => (Ev cs fun v => f (sC Kc Kd v)) ∧ (Ev ds fun v => f (sD Kc Kd Vc v))) (ivl 0 (Kc + Kd)) := cnt_iff fun f => by
    show evR f (canM _) = true ↔ evR (fun v => f (sC Kc Kd v)) cs = true ∧ evR (fun v => f (sD Kc Kd Vc v)) ds = true
    rw [evR_can, ← ev_mv h0c f, ← ev_mv h0d f]
    unfold evR
    rw [List.all_append, Bool.and_eq_true]
  have m1 : ivl 0 Kc = (ivl 0 Kc).map (sC Kc Kd) := by
    conv => lhs; rw [← List.map_id (ivl 0 Kc)]
    refine List.map_congr_left fun v hv => ?_
    rw [ivl_mem] at hv
    unfold sC
    rw [if_pos (by omega)]
    rfl
  have m2 : ivl (0 + (Kc : Int)) Kd = (ivl 0 Kd).map (sD Kc Kd Vc) := by
    rw [← ivl_shift]
    refine List.map_congr_left fun v hv => ?_
    rw [ivl_mem] at hv
    unfold sD
    rw [if_pos (by omega)]
  have hdep : ∀ {cs : List (List Int)} (h : Cn' cs) (s : Int → Int), Dep (fun f => Ev cs fun v => f (s v)) fun w => ∃ v ∈ occM cs, s v = w := fun {cs} h s f g e => h.dep _ _ fun v hv => e (s v) ⟨v, hv, rfl⟩
  rw [e1, ivl_app, cnt_prod (ivl 0 Kc) (ivl (0 + (Kc : Int)) Kd) _ _ _ _ (hdep hc (sC Kc Kd)) (hdep hd (sD Kc Kd Vc)) ?_ ?_ ?_ ?_]
  · rw [m2]
    conv => lhs; rw [m1]
    rw [cnt_ren (s := sC Kc Kd) ?_ (ivl 0 Kc) (Ev cs), cnt_ren (s := sD Kc Kd Vc) ?_ (ivl 0 Kd) (Ev ds)]
    · intro a b h
      unfold sD at h
      split at h <;> split at h <;> omega
    · intro a b h
      unfold sC at h
      split at h <;> split at h <;> omega
  · rintro v ⟨a, ha, rfl⟩ ⟨b, hb, e⟩
    have := occM_range ha
    have := occM_range hb
    have := hvc a ha
    have := hvd b hb
    unfold sC sD at e
    split at e <;> split at e <;> omega
  · rintro v hv ⟨b, hb, e⟩
    rw [ivl_mem] at hv
    have := occM_range hb
    unfold sD at e
    split at e <;> omega
  · rintro v hv ⟨a, ha, e⟩
    rw [ivl_mem] at hv
    have := occM_range ha
    unfold sC at e
    split at e <;> omega
  · rw [← ivl_app]
    exact ivl_nodup _ _
end Go.Proofs.YthanfjpmcckbhaaGreatDoor
