/- (Trace seat) Plain: what the checker lets pass has the projected count of its clauses. No program in sight. -/
import Derived.Test.YtihkknploioakaaVp
namespace Go.Proofs.Ytihkknploioakaa
open Go.RowKit
set_option linter.unusedVariables false

theorem dbl_eq : ∀ (t : Nat) (n : Int), 0 ≤ dblM t n → dblM t n = 2 ^ t * n
  | 0, n, _ => by simp [dblM]
  | t + 1, n, h => by
    rw [dblM] at h ⊢
    by_cases hb : 1099511627776 < n
    · rw [if_pos hb] at h; omega
    · rw [if_neg hb] at h ⊢
      rw [dbl_eq t _ h, Int.pow_succ, Int.mul_assoc, Int.mul_comm n 2]
theorem varK_in {lit : Int} : ∀ {vs : List Int}, varK lit vs ≠ 0 → varK lit vs ∈ vs ∧ (lit = varK lit vs ∨ lit = -varK lit vs)
  | [], h => absurd rfl h
  | v :: r, h => by
    rw [varK] at h ⊢
    by_cases e : lit = v ∨ lit = -v
    · rw [if_pos e]
      exact ⟨List.mem_cons_self .., e⟩
    · rw [if_neg e] at h ⊢
      have := varK_in h
      exact ⟨List.mem_cons_of_mem _ this.1, this.2⟩
theorem varK_lit {cs : List (List Int)} {lit : Int} (h : varK lit (occM cs) ≠ 0) : lit ≠ 0 ∧ (-20000 ≤ lit ∧ lit ≤ 20000) ∧ varM lit = varK lit (occM cs) ∧ varK lit (occM cs) ∈ occM cs ∧ 1 ≤ varK lit (occM cs) := by
  obtain ⟨h1, h2⟩ := varK_in h
  have h3 := occM_range h1
  refine ⟨by omega, by omega, ?_, h1, h3.1⟩
  unfold varM
  split <;> omega
theorem lit_true {f : Asg} {x : Int} (h0 : x ≠ 0) : litR f x = true ↔ f (varM x) = decide (0 < x) := by
  unfold litR varM
  by_cases hp : 0 < x
  · rw [if_pos hp, if_neg (by omega), decide_eq_true hp]
  · rw [if_neg hp, if_pos (by omega), decide_eq_false hp]
    rcases f (-x) with _ | _ <;> simp
/-- a claim's clauses are canonical and its count is the projected count -/
def Good (keep : Int) (c : Claim) : Prop := Cn' c.cls ∧ c.count = (Pc keep c.cls : Int)
theorem lift_eq {keep : Int} {cs : List (List Int)} (h : Cn' cs) {x : Int} (hx : -20000 ≤ x ∧ x ≤ 20000) {k : Claim} (hk : Good keep k) (he : k.cls = resM cs x) (hn : 0 ≤ liftM keep (varM x) (occM cs) k) :
    liftM keep (varM x) (occM cs) k = (cntN (Ev (resM cs x)) ((keptM keep (occM cs)).filter fun w => decide (w ≠ varM x)) : Nat) := by
  unfold liftM at hn ⊢
  rw [dbl_eq _ _ hn, hk.2, he, lifted h hx]
  rw [Int.natCast_mul]
  congr 1
theorem cnt_half {cs : List (List Int)} (h : Cn' cs) {x : Int} (h0 : x ≠ 0) (hx : -20000 ≤ x ∧ x ≤ 20000) (keep : Int) :
    cntN (fun f => Ev cs f ∧ f (varM x) = decide (0 < x)) ((keptM keep (occM cs)).filter fun w => decide (w ≠ varM x)) = cntN (Ev (resM cs x)) ((keptM keep (occM cs)).filter fun w => decide (w ≠ varM x)) :=
  half h h0 hx fun hm => by simp at hm
theorem unit_good {keep : Int} {c : Claim} {ks : List Claim} (hc : Cn' c.cls) (hk : ∀ k ∈ ks, Good keep k) (h0 : 0 ≤ c.count) (h : unitM keep c ks (occM c.cls) = true) : c.count = (Pc keep c.cls : Int) := by
  unfold unitM at h
  split at h
  · cases h
  rename_i hn
  have g1 : varK c.lit (occM c.cls) ≠ 0 := fun e => hn (.inl e)
  have g2 : ks.length = 1 := Classical.byContradiction fun e => hn (.inr (.inl e))
  have g3 : (c.cls.any fun x => x == [c.lit]) = true := by
    rcases hb : c.cls.any fun x => x == [c.lit] with _ | _
    · exact absurd (.inr (.inr hb)) hn
    · rfl
  obtain ⟨k, rfl⟩ : ∃ k, ks = [k] := by
    match ks, g2 with
    | [k], _ => exact ⟨k, rfl⟩
  rw [Bool.and_eq_true] at h
  have hres : k.cls = resM c.cls c.lit := by have := h.1; unfold resB at this; simpa using this
  have hct : c.count = liftM keep (varK c.lit (occM c.cls)) (occM c.cls) k := by simpa using h.2
  obtain ⟨l0, lx, lv, lm, _⟩ := varK_lit g1
  rw [← lv] at hct lm
  rw [hct, lift_eq hc lx (hk k (by simp)) hres (by rw [← hct]; exact h0)]
  congr 1
  have hlit : ∀ f, Ev c.cls f → f (varM c.lit) = decide (0 < c.lit) := fun f hf => by
    obtain ⟨x, hx, he⟩ := List.any_eq_true.1 g3
    have he : x = [c.lit] := by simpa using he
    subst he
    have hf : evR f c.cls = true := hf
    unfold evR at hf
    have := List.all_eq_true.1 hf _ hx
    exact (lit_true l0).1 (by simpa using this)
  unfold Pc
  rw [← cnt_half hc l0 lx keep]
  by_cases hV : varM c.lit ∈ keptM keep (occM c.cls)
  · rw [parted hV (Ev c.cls)]
    have hz : ∀ b, b ≠ decide (0 < c.lit) → cntN (fun f => Ev c.cls f ∧ f (varM c.lit) = b) ((keptM keep (occM c.cls)).filter fun w => decide (w ≠ varM c.lit)) = 0 := fun b hb =>
      cnt_zero _ _ fun f hf => hb (hf.2.symm.trans (hlit f hf.1))
    rcases hd : decide (0 < c.lit) with _ | _
    · rw [hz true (by rw [hd]; simp), Nat.zero_add]
    · rw [hz false (by rw [hd]; simp), Nat.add_zero]
  · have hf : ((keptM keep (occM c.cls)).filter fun w => decide (w ≠ varM c.lit)) = keptM keep (occM c.cls) := List.filter_eq_self.2 fun w hw => decide_eq_true fun e => hV (e ▸ hw)
    rw [hf]
    exact cnt_iff fun f => ⟨fun h => h.1, fun h => ⟨h, hlit f h⟩⟩
theorem two_ks {ks : List Claim} (h : ks.length = 2) : ∃ a b, ks = [a, b] := by
  match ks, h with
  | [a, b], _ => exact ⟨a, b, rfl⟩
theorem varM_self {V : Int} (h : 1 ≤ V) : varM V = V ∧ varM (-V) = V := by
  constructor <;> (unfold varM; split <;> omega)
theorem dec_good {keep : Int} {c : Claim} {ks : List Claim} (hc : Cn' c.cls) (hk : ∀ k ∈ ks, Good keep k) (h : decM keep c ks (occM c.cls) = true) : c.count = (Pc keep c.cls : Int) := by
  unfold decM at h
  split at h
  · cases h
  rename_i hn
  have g1 : varK c.lit (occM c.cls) ≠ 0 := fun e => hn (.inl e)
  have g3 : varK c.lit (occM c.cls) ≤ keep := by
    refine Classical.byContradiction fun e => hn (.inr (.inr (.inl (by omega))))
  have g4 : ks.length = 2 := Classical.byContradiction fun e => hn (.inr (.inr (.inr (.inl e))))
  have g5 : resB c ks 0 (-varK c.lit (occM c.cls)) = true := by
    rcases hb : resB c ks 0 (-varK c.lit (occM c.cls)) with _ | _
    · exact absurd (.inr (.inr (.inr (.inr (.inl hb))))) hn
    · rfl
  have g6 : resB c ks 1 (varK c.lit (occM c.cls)) = true := by
    rcases hb : resB c ks 1 (varK c.lit (occM c.cls)) with _ | _
    · exact absurd (.inr (.inr (.inr (.inr (.inr hb))))) hn
    · rfl
  obtain ⟨a, b, rfl⟩ := two_ks g4
  obtain ⟨_, _, _, lm, lp⟩ := varK_lit g1
  have lr := occM_range lm
  generalize varK c.lit (occM c.cls) = V at *
  obtain ⟨v1, v2⟩ := varM_self lp
  rw [Bool.and_eq_true, Bool.and_eq_true] at h
  obtain ⟨h1, h2, h3⟩ := h
  have h1 : 0 ≤ liftM keep V (occM c.cls) a := of_decide_eq_true h1
  have h2 : 0 ≤ liftM keep V (occM c.cls) b := of_decide_eq_true h2
  have h3 : c.count = liftM keep V (occM c.cls) a + liftM keep V (occM c.cls) b := by simpa using h3
  have ea : a.cls = resM c.cls (-V) := by unfold resB at g5; simpa using g5
  have eb : b.cls = resM c.cls V := by unfold resB at g6; simpa using g6
  have la := lift_eq hc (x := -V) (by omega) (hk a (by simp)) ea (by rw [v2]; exact h1)
  have lb := lift_eq hc (x := V) (by omega) (hk b (by simp)) eb (by rw [v1]; exact h2)
  have ha := cnt_half hc (x := -V) (by omega) (by omega) keep
  have hb := cnt_half hc (x := V) (by omega) (by omega) keep
  rw [v2] at la ha
  rw [v1] at lb hb
  rw [decide_eq_false (by omega : ¬ 0 < -V)] at ha
  rw [decide_eq_true (by omega : 0 < V)] at hb
  rw [h3, la, lb]
  unfold Pc
  rw [parted (kept_mem.2 ⟨lm, g3⟩) (Ev c.cls), ha, hb]
  omega

/-! ### split -/
def Dj (a b : Claim) : Prop := ∀ v, v ∈ occM a.cls → v ∈ occM b.cls → False
theorem disj_iff : ∀ {ks : List Claim} {seen : List Int}, disjGo ks seen = true → (∀ k ∈ ks, ∀ v ∈ occM k.cls, v ∉ seen) ∧ ks.Pairwise Dj
  | [], seen, _ => ⟨by simp, .nil⟩
  | k :: r, seen, h => by
    rw [disjGo] at h
    split at h
    · cases h
    rename_i hn
    obtain ⟨h1, h2⟩ := disj_iff h
    have h3 : ∀ v ∈ occM k.cls, v ∉ seen := fun v hv hs => hn (List.any_eq_true.2 ⟨v, hv, by simpa using hs⟩)
    refine ⟨fun x hx v hv hs => ?_, List.pairwise_cons.2 ⟨fun x hx v ha hb => ?_, h2⟩⟩
    · rcases List.mem_cons.1 hx with rfl | hx
      · exact h3 v hv hs
      · exact h1 x hx v hv (List.mem_append_left _ hs)
    · exact h1 x hx v hb (List.mem_append_right _ ha)
def prodC : List Claim → Int
  | [] => 1
  | k :: r => k.count * prodC r
theorem prodGo_eq {cnt : Int} : ∀ {ks : List Claim} {p : Int}, prodGo cnt ks p = true → cnt = p * prodC ks
  | [], p, h => by
    rw [prodGo] at h
    rw [prodC, Int.mul_one]
    simpa using h
  | k :: r, p, h => by
    rw [prodGo] at h
    split at h
    · cases h
    rw [prodGo_eq h, prodC, Int.mul_assoc]
theorem prodC_zero : ∀ {ks : List Claim}, (∃ k ∈ ks, k.count = 0) → prodC ks = 0
  | [], h => by obtain ⟨k, hk, _⟩ := h; simp at hk
  | k :: r, h => by
    rw [prodC]
    obtain ⟨x, hx, e⟩ := h
    rcases List.mem_cons.1 hx with rfl | hx
    · rw [e, Int.zero_mul]
    · rw [prodC_zero ⟨x, hx, e⟩, Int.mul_zero]
def keptK (keep : Int) (ks : List Claim) : List Int := ks.flatMap fun k => keptM keep (occM k.cls)
def EvK (ks : List Claim) : Asg → Prop := fun f => ∀ k ∈ ks, Ev k.cls f
theorem keptK_mem {keep v : Int} {ks : List Claim} : v ∈ keptK keep ks ↔ (∃ k ∈ ks, v ∈ occM k.cls) ∧ v ≤ keep := by
  unfold keptK
  rw [List.mem_flatMap]
  constructor
  · rintro ⟨k, hk, h⟩
    exact ⟨⟨k, hk, (kept_mem.1 h).1⟩, (kept_mem.1 h).2⟩
  · rintro ⟨⟨k, hk, h⟩, h2⟩
    exact ⟨k, hk, kept_mem.2 ⟨h, h2⟩⟩
theorem keptK_nodup {keep : Int} : ∀ {ks : List Claim}, ks.Pairwise Dj → (keptK keep ks).Nodup
  | [], _ => .nil
  | k :: r, h => by
    obtain ⟨h1, h2⟩ := List.pairwise_cons.1 h
    show (keptM keep (occM k.cls) ++ keptK keep r).Nodup
    refine List.nodup_append.2 ⟨kept_nodup _ _, keptK_nodup h2, fun v hv u hu e => ?_⟩
    subst e
    obtain ⟨⟨x, hx, hm⟩, _⟩ := keptK_mem.1 hu
    exact h1 x hx v (kept_mem.1 hv).1 hm
theorem cnt_kids {keep : Int} : ∀ {ks : List Claim}, ks.Pairwise Dj → (∀ k ∈ ks, Good keep k) → (cntN (EvK ks) (keptK keep ks) : Int) = prodC ks
  | [], _, _ => by
    have : cntN (EvK []) (keptK keep []) = 1 := by
      show cntN (EvK []) [] = 1
      rw [cntN, if_pos ⟨fun _ => true, fun k hk => by simp at hk⟩]
    rw [this]; rfl
  | k :: r, h, hg => by
    have hall := h
    obtain ⟨h1, h2⟩ := List.pairwise_cons.1 h
    have ih := cnt_kids h2 fun x hx => hg x (List.mem_cons_of_mem _ hx)
    have hgk := hg k (List.mem_cons_self ..)
    have e : cntN (EvK (k :: r)) (keptK keep (k :: r)) = cntN (fun f => Ev k.cls f ∧ EvK r f) (keptM keep (occM k.cls) ++ keptK keep r) :=
      cnt_iff fun f => ⟨fun hf => ⟨hf k (List.mem_cons_self ..), fun x hx => hf x (List.mem_cons_of_mem _ hx)⟩, fun hf x hx => by
        rcases List.mem_cons.1 hx with rfl | hx
        · exact hf.1
        · exact hf.2 x hx⟩
    have hnd : (keptM keep (occM k.cls) ++ keptK keep r).Nodup := keptK_nodup (keep := keep) hall
    rw [e, cnt_prod (keptM keep (occM k.cls)) (keptK keep r) (Ev k.cls) (EvK r) (fun v => v ∈ occM k.cls) (fun v => ∃ x ∈ r, v ∈ occM x.cls) hgk.1.dep ?_ ?_ ?_ ?_ hnd, prodC, Int.natCast_mul, ih, hgk.2]
    · rfl
    · intro f g hfg
      constructor
      · intro hf x hx
        exact ((hg x (List.mem_cons_of_mem _ hx)).1.dep f g fun v hv => hfg v ⟨x, hx, hv⟩).1 (hf x hx)
      · intro hf x hx
        exact ((hg x (List.mem_cons_of_mem _ hx)).1.dep f g fun v hv => hfg v ⟨x, hx, hv⟩).2 (hf x hx)
    · rintro v hv ⟨x, hx, hm⟩
      exact h1 x hx v hv hm
    · rintro v hv ⟨x, hx, hm⟩
      exact h1 x hx v (kept_mem.1 hv).1 hm
    · intro v hv hm
      obtain ⟨⟨x, hx, h3⟩, _⟩ := keptK_mem.1 hv
      exact h1 x hx v hm h3
theorem all_ev {ks : List Claim} {f : Asg} : evR f (allM ks) = true ↔ EvK ks f := by
  unfold evR allM EvK Ev evR
  rw [List.all_eq_true]
  constructor
  · intro h k hk
    exact List.all_eq_true.2 fun c hc => h c (List.mem_flatMap.2 ⟨k, hk, hc⟩)
  · intro h c hc
    obtain ⟨k, hk, hc⟩ := List.mem_flatMap.1 hc
    exact List.all_eq_true.1 (h k hk) c hc
theorem can_in {cs : List (List Int)} {d : List Int} (h : d ∈ cs) (hs : Strict litC d) (ho : oppM d = false) : d ∈ canM cs := by
  unfold canM
  rw [cptM_in, (srtC_perm clsC _).mem_iff, List.mem_filter, List.mem_map]
  exact ⟨⟨d, h, hs.cla⟩, by rw [ho]; rfl⟩
theorem split_good {keep : Int} {c : Claim} {ks : List Claim} (hc : Cn' c.cls) (hk : ∀ k ∈ ks, Good keep k) (h : splitM c ks = true) : c.count = (Pc keep c.cls : Int) := by
  unfold splitM at h
  split at h
  · cases h
  split at h
  · cases h
  rename_i hd
  have hd : disjGo ks [] = true := by simpa using hd
  split at h
  · cases h
  rename_i hn
  have hcan : canM (allM ks) = c.cls := by
    rcases hb : (canM (allM ks) == c.cls) with _ | _
    · exact absurd (.inr hb) hn
    · simpa using hb
  have hpw := (disj_iff hd).2
  have hocc : ∀ v, v ∈ occM c.cls ↔ ∃ k ∈ ks, v ∈ occM k.cls := fun v => by
    rw [hc.mem]
    constructor
    · rintro ⟨d, hd, x, hx, e⟩
      rw [← hcan] at hd
      obtain ⟨_, _, d', hd', rfl⟩ := canM_mem hd
      obtain ⟨k, hk', hd''⟩ := List.mem_flatMap.1 hd'
      exact ⟨k, hk', (hk k hk').1.mem.2 ⟨d', hd'', x, claM_mem hx, e⟩⟩
    · rintro ⟨k, hk', hv⟩
      obtain ⟨d, hd, x, hx, e⟩ := (hk k hk').1.mem.1 hv
      have hd2 := hd
      rw [← (hk k hk').1.1] at hd2
      obtain ⟨ho, hs, _⟩ := canM_mem hd2
      exact ⟨d, by rw [← hcan]; exact can_in (List.mem_flatMap.2 ⟨k, hk', hd⟩) hs ho, x, hx, e⟩
  have hP : (Pc keep c.cls : Int) = prodC ks := by
    rw [← cnt_kids hpw hk]
    congr 1
    unfold Pc
    rw [cnt_same (kept_nodup keep c.cls) (keptK_nodup (keep := keep) hpw) fun v => by rw [kept_mem, keptK_mem, hocc]]
    refine cnt_iff fun f => ?_
    rw [← all_ev, ← evR_can, hcan]
    rfl
  rw [hP]
  split at h
  · rename_i hz
    obtain ⟨k, hk', e⟩ := List.any_eq_true.1 hz
    rw [prodC_zero ⟨k, hk', of_decide_eq_true e⟩]
    simpa using h
  · rw [prodGo_eq h, Int.one_mul]
theorem cnt_ex {S : List Int} {C : Asg → Prop} (h : cntN C S ≠ 0) : ∃ f, C f :=
  Classical.byContradiction fun hn => h (cnt_zero S C fun f hf => hn ⟨f, hf⟩)
theorem try_good {keep : Int} {c : Claim} {ks : List Claim} (hc : Cn' c.cls) (hk : ∀ k ∈ ks, Good keep k) (h : tryM keep c ks (occM c.cls) = true) : c.count = (Pc keep c.cls : Int) := by
  unfold tryM at h
  split at h
  · cases h
  rename_i hn
  have g1 : varK c.lit (occM c.cls) ≠ 0 := fun e => hn (.inl e)
  have g2 : ks.length = 1 := Classical.byContradiction fun e => hn (.inr (.inl e))
  have g3 : keptM keep (occM c.cls) = [] := List.eq_nil_of_length_eq_zero (by
    have : ¬ 0 < (keptM keep (occM c.cls)).length := fun e => hn (.inr (.inr (.inl e)))
    omega)
  have g4 : resB c ks 0 c.lit = true := by
    rcases hb : resB c ks 0 c.lit with _ | _
    · exact absurd (.inr (.inr (.inr hb))) hn
    · rfl
  obtain ⟨k, rfl⟩ : ∃ k, ks = [k] := by
    match ks, g2 with
    | [k], _ => exact ⟨k, rfl⟩
  rw [Bool.and_eq_true] at h
  have hres : k.cls = resM c.cls c.lit := by unfold resB at g4; simpa using g4
  have hk1 : k.count = 1 := by simpa using h.1
  have hc1 : c.count = 1 := by simpa using h.2
  obtain ⟨l0, lx, _⟩ := varK_lit g1
  have hP : Pc keep k.cls ≠ 0 := fun e => by
    have := (hk k (by simp)).2
    rw [e, hk1] at this
    simp at this
  obtain ⟨f, hf⟩ := cnt_ex hP
  have hh := half hc l0 lx (r := []) (by simp)
  have hp : cntN (Ev (resM c.cls c.lit)) [] ≠ 0 := by
    rw [hres] at hf
    exact Nat.ne_of_gt (cnt_pos _ _ f hf)
  rw [← hh] at hp
  obtain ⟨g, hg⟩ := cnt_ex hp
  rw [hc1]
  unfold Pc
  rw [g3, cntN, if_pos ⟨g, hg.1⟩]
  rfl
theorem both_good {keep : Int} {c : Claim} {ks : List Claim} (hc : Cn' c.cls) (hk : ∀ k ∈ ks, Good keep k) (h : bothM c ks (occM c.cls) = true) : c.count = (Pc keep c.cls : Int) := by
  unfold bothM at h
  split at h
  · cases h
  rename_i hn
  have g1 : varK c.lit (occM c.cls) ≠ 0 := fun e => hn (.inl e)
  have g4 : ks.length = 2 := Classical.byContradiction fun e => hn (.inr (.inr (.inl e)))
  have g5 : resB c ks 0 (-varK c.lit (occM c.cls)) = true := by
    rcases hb : resB c ks 0 (-varK c.lit (occM c.cls)) with _ | _
    · exact absurd (.inr (.inr (.inr (.inl hb)))) hn
    · rfl
  have g6 : resB c ks 1 (varK c.lit (occM c.cls)) = true := by
    rcases hb : resB c ks 1 (varK c.lit (occM c.cls)) with _ | _
    · exact absurd (.inr (.inr (.inr (.inr hb)))) hn
    · rfl
  obtain ⟨a, b, rfl⟩ := two_ks g4
  obtain ⟨_, _, _, lm, lp⟩ := varK_lit g1
  have lr := occM_range lm
  generalize varK c.lit (occM c.cls) = V at *
  rw [Bool.and_eq_true, Bool.and_eq_true] at h
  obtain ⟨h1, h2, h3⟩ := h
  have h1 : a.count = 0 := by simpa using h1
  have h2 : b.count = 0 := by simpa using h2
  have h3 : c.count = 0 := by simpa using h3
  have ea : a.cls = resM c.cls (-V) := by unfold resB at g5; simpa using g5
  have eb : b.cls = resM c.cls V := by unfold resB at g6; simpa using g6
  rw [h3]
  have no : ∀ (k : Claim) (x : Int), Good keep k → k.count = 0 → k.cls = resM c.cls x → x ≠ 0 → (-20000 ≤ x ∧ x ≤ 20000) → ∀ f, litR f x = true → ¬ Ev c.cls f := fun k x hg hz he h0 hx f hl hf => by
    have : Ev k.cls f := by
      show evR f k.cls = true
      rw [he, evR_res (sm_lit hx) h0 hl]
      exact hf
    have hp := cnt_pos (keptM keep (occM k.cls)) _ f this
    have := hg.2
    rw [hz] at this
    have e : Pc keep k.cls = cntN (Ev k.cls) (keptM keep (occM k.cls)) := rfl
    omega
  unfold Pc
  rw [cnt_zero _ _ fun f hf => ?_]
  · rfl
  rcases hb : litR f V with _ | _
  · exact no a (-V) (hk a (by simp)) h1 ea (by omega) (by omega) f (by rw [litR_neg f (by omega), hb]; rfl) hf
  · exact no b V (hk b (by simp)) h2 eb (by omega) (by omega) f hb hf
/-- what the checker lets pass -/
theorem fol_good {keep : Int} {c : Claim} {ks : List Claim} (hc : Cn' c.cls) (hk : ∀ k ∈ ks, Good keep k) (h0 : 0 ≤ c.count) (h : folM keep c ks (occM c.cls) = true) : Good keep c := by
  refine ⟨hc, ?_⟩
  unfold folM at h
  split at h
  · cases h
  split at h
  · rw [Bool.and_eq_true, Bool.and_eq_true, Bool.and_eq_true] at h
    have h1 : c.cls = [] := List.eq_nil_of_length_eq_zero (of_decide_eq_true h.2.2.1)
    have h2 : c.count = 1 := by simpa using h.2.2.2
    rw [h1, h2]
    unfold Pc
    rw [show keptM keep (occM []) = [] from List.eq_nil_iff_forall_not_mem.2 fun v hv => by have := occM_mem.1 (kept_mem.1 hv).1; simp [mags] at this, cntN, if_pos ⟨fun _ => true, rfl⟩]
    rfl
  split at h
  · rw [Bool.and_eq_true, Bool.and_eq_true, Bool.and_eq_true] at h
    have h2 : c.count = 0 := by simpa using h.2.2.2
    obtain ⟨x, hx, e⟩ := List.any_eq_true.1 h.2.2.1
    have e : x = [] := List.eq_nil_of_length_eq_zero (of_decide_eq_true e)
    subst e
    rw [h2]
    unfold Pc
    rw [cnt_zero _ _ fun f hf => ?_]
    · rfl
    have hf : evR f c.cls = true := hf
    unfold evR at hf
    have := List.all_eq_true.1 hf _ hx
    simp at this
  split at h
  · exact unit_good hc hk h0 h
  split at h
  · exact dec_good hc hk h
  split at h
  · exact split_good hc hk h
  split at h
  · exact try_good hc hk h
  split at h
  · exact both_good hc hk h
  · cases h
end Go.Proofs.Ytihkknploioakaa
