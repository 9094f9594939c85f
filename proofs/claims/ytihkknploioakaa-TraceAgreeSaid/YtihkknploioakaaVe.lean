/- (Trace seat) Walks: unit, decide, try, both of the checker. No condition but the sizes and ranges. -/
import Derived.Test.YtihkknploioakaaVd
namespace Go.Proofs.Ytihkknploioakaa
open Go.ChangeShapes Go.WideShapes Go.ChangeAt Go.RowKit
set_option linter.unusedVariables false
set_option linter.unusedSimpArgs false

/-- what the rules' walks ask of a claim and its kids -/
def RuleOk (c : Claim) (ks : List Claim) (vs : List Int) : Prop :=
  SzC c ∧ (∀ k ∈ ks, SzC k ∧ 0 ≤ k.count ∧ k.count ≤ 1099511627776) ∧ (∀ v ∈ vs, 1 ≤ v ∧ v ≤ 20000) ∧ vs.length ≤ 100000 ∧ ks.length ≤ 100000
theorem varK_mem {lit : Int} : ∀ {vs : List Int}, varK lit vs ≠ 0 → varK lit vs ∈ vs
  | [], h => absurd rfl h
  | v :: r, h => by
    rw [varK] at h ⊢
    split
    · exact List.mem_cons_self ..
    · rename_i hn
      rw [if_neg hn] at h
      exact List.mem_cons_of_mem _ (varK_mem h)
theorem varK_range {lit : Int} {vs : List Int} (hr : ∀ v ∈ vs, 1 ≤ v ∧ v ≤ 20000) : 0 ≤ varK lit vs ∧ varK lit vs ≤ 20000 := by
  by_cases h : varK lit vs = 0
  · omega
  · have := hr _ (varK_mem h); omega
theorem lostM_le (v : Int) (l t : List Int) : lostM v l t ≤ l.length := List.length_filter_le _ _
set_option maxRecDepth 100000 in
set_option maxHeartbeats 4000000 in
theorem unit_any (b : Nat) (keep : Int) (cv kv qv vv : Value) (c : Claim) (ks : List Claim) (vs : List Int) (w : World) (hc : Ckr w b keep cv kv qv vv c ks vs) (hr : RuleOk c ks vs) :
    Calls Try.prog 26 #[.pointer (some ⟨b, 0, none⟩)] w (BoolPost w (unitM keep c ks vs)) := by
  obtain ⟨hsc, hsk, hrv, hvl, hkl⟩ := hr
  obtain ⟨W1, hW1⟩ : ∃ W, w.alloc (.cells #[.pointer (some ⟨b, 0, none⟩)] 45) = W := ⟨_, rfl⟩
  have hb1 : Below w.heap.size w W1 := by rw [← hW1]; exact (Below.refl _ _).alloc (Nat.le_refl _) _
  have hs1 : W1.heap.size = w.heap.size + 1 := by rw [← hW1]; simp
  have g0 : W1.cell? ⟨w.heap.size, 0, none⟩ = some (.pointer (some ⟨b, 0, none⟩)) := by rw [← hW1, cell_of_row _ _ _ _ _ _ (new_at _ _)]; rfl
  have hc1 := hc.below hb1
  have hlt := hc1.lt
  obtain ⟨⟨c0, c1, _, c3, _, c5, c6, c7⟩, hcl, hks, hvs, hil, _, _⟩ := id hc1
  have HVA := Lib.hid (variable_any b c.lit vv vs W1 c3 c7 hvs hrv)
  obtain ⟨R, hR⟩ : ∃ R, unitM keep c ks vs = R := ⟨_, rfl⟩
  have hR2 := hR
  unfold unitM at hR2
  have hvr := varK_range (lit := c.lit) hrv
  obtain ⟨V, hV⟩ : ∃ V, varK c.lit vs = V := ⟨_, rfl⟩
  rw [hV] at hR2 HVA hvr
  rw [hR]
  obtain ⟨ca, cn, cc, rfl, _, _⟩ := hcl.form'
  obtain ⟨qa, qn, qc, rfl, HQN, hqn⟩ := hks.form
  obtain ⟨va, vn, vc, rfl, _, _⟩ := hvs.form'
  have hg1 : w.heap.size < W1.heap.size := by omega
  have HB1 := Lib.hid hb1
  have HW1 := Lib.hid hW1
  have HC := Lib.hid hc1
  have HCL := Lib.hid hcl
  clear hb1 hW1 hR hV hc hvs hc1
  obtain ⟨hv0, hv1⟩ := hvr
  by_cases h0 : V = 0
  · subst h0
    rw [if_pos (.inl rfl)] at hR2
    subst hR2
    clear hcl hks hsc hsk hrv
    go_enter Try.func26, Try.ntmps26
    go_wp2_with fail
    rw [HW1.out]
    refine HVA.out.mono ?_
    rintro e w2 ⟨rfl, hw2⟩
    subst hw2
    go_wp2_with fail
    go_ret
    exact ⟨rfl, HB1.out⟩
  have e0 : (V == 0) = false := by simp; exact h0
  by_cases h1 : ks.length = 1
  case neg =>
    rw [if_pos (.inr (.inl h1))] at hR2
    subst hR2
    have e1 : ((qn : Int) != 1) = true := by simp; have := HQN.out; omega
    clear hcl hks hsc hsk hrv h1
    go_enter Try.func26, Try.ntmps26
    go_wp2_with fail
    rw [HW1.out]
    refine HVA.out.mono ?_
    rintro e w2 ⟨rfl, hw2⟩
    subst hw2
    go_wp2_with fail
    go_ret
    exact ⟨rfl, HB1.out⟩
  have e1 : ((qn : Int) != 1) = false := by simp; have := HQN.out; omega
  have hcf := containsfU_any (fun _ => True) (fun y => y == [c.lit]) w.heap.size _ c.cls W1 hcl (fun nq u y _ hy => unit1_any _ b w.heap.size c.lit u y _ g0 c3 hy)
  obtain ⟨T, hT⟩ : ∃ T, (c.cls.any fun y => y == [c.lit]) = T := ⟨_, rfl⟩
  rw [hT] at hcf hR2
  have HCF := Lib.hid hcf
  clear hcf hT
  rcases T with _ | _
  · rw [if_pos (.inr (.inr rfl))] at hR2
    subst hR2
    clear hcl hks hsc hsk hrv h1
    go_enter Try.func26, Try.ntmps26
    go_wp2_with fail
    rw [HW1.out]
    refine HVA.out.mono ?_
    rintro e w2 ⟨rfl, hw2⟩
    subst hw2
    go_wp2_with fail
    refine HCF.out.mono ?_
    rintro e w3 ⟨rfl, nd, rfl⟩
    have HB3 := Lib.hid (below_drewN HB1.out nd)
    go_wp2_with fail
    go_ret
    exact ⟨rfl, HB3.out⟩
  rw [if_neg (by rintro (h | h | h); exact h0 h; exact h h1; cases h)] at hR2
  obtain ⟨kid, hkid⟩ : ∃ k, ks[0]? = some k := ⟨_, List.getElem?_eq_getElem (by omega)⟩
  have hkg : ks.getD 0 clNil = kid := by rw [List.getD_eq_getElem?_getD, hkid]; rfl
  rw [hkg] at hR2
  have hkm := hsk kid (List.mem_of_getElem? hkid)
  obtain ⟨kb, ko, kcv, kkv, rfl, _, hkb, k0, k1, k2, k3, k4, ⟨⟨hkcl, _, _, hkki, _⟩, _⟩⟩ := hks.at hkid
  obtain ⟨ka, kn, kc, rfl, _, _⟩ := hkcl.form'
  obtain ⟨kka, kkn, kkc, rfl, _, _⟩ := hkki.form'
  rw [show ko + 0 * 5 = ko by omega] at k0 k1 k2 k3 k4
  have HKC := Lib.hid hkcl
  obtain ⟨hksz, hk0, hkm1⟩ := hkm
  obtain ⟨X, hX⟩ : ∃ X, resB c ks 0 c.lit = X := ⟨_, rfl⟩
  rw [hX] at hR2
  have hiq : (0 : Int) < qn := by have := HQN.out; omega
  have hiq' : 0 < qn := by have := HQN.out; omega
  have hres : ∀ (W : World), Below W1.heap.size W1 W → Calls Try.prog 44 #[.pointer (some ⟨b, 0, none⟩), .int .i64 0, .int .i64 c.lit] W (BoolPost W (resB c ks 0 c.lit)) := fun (W : World) (hb : Below W1.heap.size W1 W) => residualk_any b keep _ _ _ _ c ks vs 0 c.lit W (HC.out.below hb) (by omega) (by omega) hil hsc
  rw [hX] at hres
  have HRES := Lib.hid hres
  have hlost := fun (W : World) (hb : Below W1.heap.size W1 W) => lost_any b keep V c (.slice ka kn kc) (.slice kka kkn kkc) _ kid vs W (below_c hb hlt c0) (below_c hb hlt c7) ((HC.out.below hb).2.2.2.1) hvl (HKC.out.below hb) hksz ⟨by omega, by omega⟩
  have HLOST := Lib.hid hlost
  have hll : lostM V (keptM keep vs) (occM kid.cls) ≤ 100000 := Nat.le_trans (lostM_le _ _ _) (Nat.le_trans (keptM_len _ _) hvl)
  obtain ⟨L, hL⟩ : ∃ L, lostM V (keptM keep vs) (occM kid.cls) = L := ⟨_, rfl⟩
  have hlift : liftM keep V vs kid = dblM L kid.count := by unfold liftM; rw [hL]
  rw [hL] at hll HLOST
  rw [hlift] at hR2
  have HR2 := Lib.hid hR2
  clear hL hlift hR2 hlost hres hX hkcl hkki hkg hkid hcl hks hsc hsk hrv h1 hksz HC HQN
  go_enter Try.func26, Try.ntmps26
  go_wp2_with fail
  rw [HW1.out]
  refine HVA.out.mono ?_
  rintro e w2 ⟨rfl, hw2⟩
  subst hw2
  go_wp2_with fail
  refine HCF.out.mono ?_
  rintro e w3 ⟨rfl, nd, hw3⟩
  have HB3 : Hid (Below w2.heap.size w2 w3.drew) := Lib.hid (by rw [hw3]; exact (below_drewN (Below.refl _ _) nd).drew)
  have hb3 : Below w2.heap.size w2 w3 := by rw [hw3]; exact below_drewN (Below.refl _ _) nd
  have hsz3 : w3.drew.heap.size = w2.heap.size := by rw [hw3]; rfl
  have y0 := below_c hb3 hg1 g0
  have y3 := below_c hb3 hlt c3
  have y5 := below_c hb3 hlt c5
  have y6 := below_c hb3 hlt c6
  have x0 := below_c hb3 hkb k0
  have x1 := below_c hb3 hkb k1
  have x2 := below_c hb3 hkb k2
  have x3 := below_c hb3 hkb k3
  have x4 := below_c hb3 hkb k4
  clear hb3 hw3 HCF HVA HW1
  rcases X with _ | _
  · have hF : R = false := by have := HR2.out; rw [Bool.false_and] at this; exact this.symm
    subst hF
    go_wp2_with fail
    refine wp_region_held_drew (S := fun w' => w'.cell? ⟨w.heap.size, 0, none⟩ = some (.pointer (some ⟨b, 0, none⟩)) ∧ w'.cell? ⟨b, 3, none⟩ = some (.int .i64 c.lit)) (by kernel_rfl) (by exact ⟨y0, y3⟩) (fun hHeld => ?_)
    refine wpAnyH_take (i := 0) (v := ?_) rfl (by kernel_rfl) (by kernel_rfl) (by kernel_rfl) (fun _ _ _ h => h) (Or.inl ⟨by rfl, ?_⟩) (by assumption) ?_
    rotate_left
    · intro w hSw
      try dsimp only at hSw
      go_simp
      try with_reducible rfl
    try simp only [Act.put, List.getElem_toArray, List.getElem_cons_succ, List.getElem_cons_zero, List.setIfInBounds_toArray, List.set_cons_zero, List.set_cons_succ]
    refine wpAnyH_take (i := 1) (v := ?_) rfl (by kernel_rfl) (by kernel_rfl) (by kernel_rfl) (fun _ _ _ h => h) (Or.inl ⟨by rfl, ?_⟩) (by assumption) ?_
    rotate_left
    · intro w hSw
      try dsimp only at hSw
      go_simp
      try with_reducible rfl
    try simp only [Act.put, List.getElem_toArray, List.getElem_cons_succ, List.getElem_cons_zero, List.setIfInBounds_toArray, List.set_cons_zero, List.set_cons_succ]
    refine wpAnyH_take (i := 2) (v := ?_) rfl (by kernel_rfl) (by kernel_rfl) (by kernel_rfl) (fun _ _ _ h => h) (Or.inl ⟨by rfl, ?_⟩) (by assumption) ?_
    rotate_left
    · intro w hSw
      try dsimp only at hSw
      go_simp
      try with_reducible rfl
    try simp only [Act.put, List.getElem_toArray, List.getElem_cons_succ, List.getElem_cons_zero, List.setIfInBounds_toArray, List.set_cons_zero, List.set_cons_succ]
    refine wpAnyH_take (i := 3) (v := ?_) rfl (by kernel_rfl) (by kernel_rfl) (by kernel_rfl) (fun _ _ _ h => h) (Or.inl ⟨by rfl, ?_⟩) (by assumption) ?_
    rotate_left
    · intro w hSw
      try dsimp only at hSw
      go_simp
      try with_reducible rfl
    try simp only [Act.put, List.getElem_toArray, List.getElem_cons_succ, List.getElem_cons_zero, List.setIfInBounds_toArray, List.set_cons_zero, List.set_cons_succ]
    refine wpAnyH_take (i := 4) (v := ?_) rfl (by kernel_rfl) (by kernel_rfl) (by kernel_rfl) (fun _ _ _ h => h) (Or.inl ⟨by rfl, ?_⟩) (by assumption) ?_
    rotate_left
    · intro w hSw
      try dsimp only at hSw
      go_simp
      try with_reducible rfl
    try simp only [Act.put, List.getElem_toArray, List.getElem_cons_succ, List.getElem_cons_zero, List.setIfInBounds_toArray, List.set_cons_zero, List.set_cons_succ]
    refine wpAnyH_take (i := 5) (v := ?_) rfl (by kernel_rfl) (by kernel_rfl) (by kernel_rfl) (fun _ _ _ h => h) (Or.inl ⟨by rfl, ?_⟩) (by assumption) ?_
    rotate_left
    · intro w hSw
      try dsimp only at hSw
      go_simp
      try with_reducible rfl
    try simp only [Act.put, List.getElem_toArray, List.getElem_cons_succ, List.getElem_cons_zero, List.setIfInBounds_toArray, List.set_cons_zero, List.set_cons_succ]
    refine wpAnyH_ready (rs := [6]) (by kernel_rfl) (by simp) ?_
    refine AllReadyH.cons rfl (fun K hK => ?_) AllReadyH.nil
    go_simp
    (go_at_call 44; refine (HRES.out _ HB3.out).mono ?_; rintro e w5 ⟨rfl, hb5⟩; have HB5 := Lib.hid (HB3.out.trans (hb5.mono (by omega))); have z0 := below_c HB5.out hg1 g0; have z3 := below_c HB5.out hlt c3; clear hb5)
    go_wp2_with fail
    refine hK.out _ _ (by exact ⟨z0, z3⟩) (fun hHeld2 => ?_)
    clear hK K
    try simp only [Act.put, List.getElem_toArray, List.getElem_cons_succ, List.getElem_cons_zero, List.setIfInBounds_toArray, List.set_cons_zero, List.set_cons_succ]
    refine wpAnyH_take (i := 7) (v := ?_) rfl (by kernel_rfl) (by kernel_rfl) (by kernel_rfl) (fun _ _ _ h => h) (Or.inl ⟨by rfl, ?_⟩) (by assumption) ?_
    rotate_left
    · intro w hSw
      try dsimp only at hSw
      go_simp
      try with_reducible rfl
    try simp only [Act.put, List.getElem_toArray, List.getElem_cons_succ, List.getElem_cons_zero, List.setIfInBounds_toArray, List.set_cons_zero, List.set_cons_succ]
    refine wpAnyH_take (i := 8) (v := undef) rfl (by kernel_rfl) (by kernel_rfl) (by kernel_rfl) (fun _ _ _ h => h) (Or.inr ⟨by rfl, rfl⟩) (by assumption) ?_
    try simp only [Act.put, List.getElem_toArray, List.getElem_cons_succ, List.getElem_cons_zero, List.setIfInBounds_toArray, List.set_cons_zero, List.set_cons_succ]
    refine wpAnyH_take (i := 9) (v := undef) rfl (by kernel_rfl) (by kernel_rfl) (by kernel_rfl) (fun _ _ _ h => h) (Or.inr ⟨by rfl, rfl⟩) (by assumption) ?_
    try simp only [Act.put, List.getElem_toArray, List.getElem_cons_succ, List.getElem_cons_zero, List.setIfInBounds_toArray, List.set_cons_zero, List.set_cons_succ]
    refine wpAnyH_take (i := 10) (v := undef) rfl (by kernel_rfl) (by kernel_rfl) (by kernel_rfl) (fun _ _ _ h => h) (Or.inr ⟨by rfl, rfl⟩) (by assumption) ?_
    try simp only [Act.put, List.getElem_toArray, List.getElem_cons_succ, List.getElem_cons_zero, List.setIfInBounds_toArray, List.set_cons_zero, List.set_cons_succ]
    refine wpAnyH_take (i := 11) (v := undef) rfl (by kernel_rfl) (by kernel_rfl) (by kernel_rfl) (fun _ _ _ h => h) (Or.inr ⟨by rfl, rfl⟩) (by assumption) ?_
    try simp only [Act.put, List.getElem_toArray, List.getElem_cons_succ, List.getElem_cons_zero, List.setIfInBounds_toArray, List.set_cons_zero, List.set_cons_succ]
    refine wpAnyH_take (i := 12) (v := undef) rfl (by kernel_rfl) (by kernel_rfl) (by kernel_rfl) (fun _ _ _ h => h) (Or.inr ⟨by rfl, rfl⟩) (by assumption) ?_
    try simp only [Act.put, List.getElem_toArray, List.getElem_cons_succ, List.getElem_cons_zero, List.setIfInBounds_toArray, List.set_cons_zero, List.set_cons_succ]
    refine wpAnyH_take (i := 13) (v := undef) rfl (by kernel_rfl) (by kernel_rfl) (by kernel_rfl) (fun _ _ _ h => h) (Or.inr ⟨by rfl, rfl⟩) (by assumption) ?_
    try simp only [Act.put, List.getElem_toArray, List.getElem_cons_succ, List.getElem_cons_zero, List.setIfInBounds_toArray, List.set_cons_zero, List.set_cons_succ]
    refine wpAnyH_take (i := 14) (v := undef) rfl (by kernel_rfl) (by kernel_rfl) (by kernel_rfl) (fun _ _ _ h => h) (Or.inr ⟨by rfl, rfl⟩) (by assumption) ?_
    try simp only [Act.put, List.getElem_toArray, List.getElem_cons_succ, List.getElem_cons_zero, List.setIfInBounds_toArray, List.set_cons_zero, List.set_cons_succ]
    refine wpAnyH_take (i := 15) (v := undef) rfl (by kernel_rfl) (by kernel_rfl) (by kernel_rfl) (fun _ _ _ h => h) (Or.inr ⟨by rfl, rfl⟩) (by assumption) ?_
    try simp only [Act.put, List.getElem_toArray, List.getElem_cons_succ, List.getElem_cons_zero, List.setIfInBounds_toArray, List.set_cons_zero, List.set_cons_succ]
    refine wpAnyH_take (i := 16) (v := undef) rfl (by kernel_rfl) (by kernel_rfl) (by kernel_rfl) (fun _ _ _ h => h) (Or.inr ⟨by rfl, rfl⟩) (by assumption) ?_
    try simp only [Act.put, List.getElem_toArray, List.getElem_cons_succ, List.getElem_cons_zero, List.setIfInBounds_toArray, List.set_cons_zero, List.set_cons_succ]
    refine wpAnyH_take (i := 17) (v := undef) rfl (by kernel_rfl) (by kernel_rfl) (by kernel_rfl) (fun _ _ _ h => h) (Or.inr ⟨by rfl, rfl⟩) (by assumption) ?_
    try simp only [Act.put, List.getElem_toArray, List.getElem_cons_succ, List.getElem_cons_zero, List.setIfInBounds_toArray, List.set_cons_zero, List.set_cons_succ]
    refine wpAnyH_take (i := 18) (v := undef) rfl (by kernel_rfl) (by kernel_rfl) (by kernel_rfl) (fun _ _ _ h => h) (Or.inr ⟨by rfl, rfl⟩) (by assumption) ?_
    try simp only [Act.put, List.getElem_toArray, List.getElem_cons_succ, List.getElem_cons_zero, List.setIfInBounds_toArray, List.set_cons_zero, List.set_cons_succ]
    refine wpAnyH_take (i := 19) (v := undef) rfl (by kernel_rfl) (by kernel_rfl) (by kernel_rfl) (fun _ _ _ h => h) (Or.inr ⟨by rfl, rfl⟩) (by assumption) ?_
    try simp only [Act.put, List.getElem_toArray, List.getElem_cons_succ, List.getElem_cons_zero, List.setIfInBounds_toArray, List.set_cons_zero, List.set_cons_succ]
    refine wpAnyH_take (i := 20) (v := undef) rfl (by kernel_rfl) (by kernel_rfl) (by kernel_rfl) (fun _ _ _ h => h) (Or.inr ⟨by rfl, rfl⟩) (by assumption) ?_
    try simp only [Act.put, List.getElem_toArray, List.getElem_cons_succ, List.getElem_cons_zero, List.setIfInBounds_toArray, List.set_cons_zero, List.set_cons_succ]
    refine wpAnyH_take (i := 21) (v := undef) rfl (by kernel_rfl) (by kernel_rfl) (by kernel_rfl) (fun _ _ _ h => h) (Or.inr ⟨by rfl, rfl⟩) (by assumption) ?_
    try simp only [Act.put, List.getElem_toArray, List.getElem_cons_succ, List.getElem_cons_zero, List.setIfInBounds_toArray, List.set_cons_zero, List.set_cons_succ]
    refine wpAnyH_take (i := 22) (v := undef) rfl (by kernel_rfl) (by kernel_rfl) (by kernel_rfl) (fun _ _ _ h => h) (Or.inr ⟨by rfl, rfl⟩) (by assumption) ?_
    try simp only [Act.put, List.getElem_toArray, List.getElem_cons_succ, List.getElem_cons_zero, List.setIfInBounds_toArray, List.set_cons_zero, List.set_cons_succ]
    refine wpAnyH_take (i := 23) (v := undef) rfl (by kernel_rfl) (by kernel_rfl) (by kernel_rfl) (fun _ _ _ h => h) (Or.inr ⟨by rfl, rfl⟩) (by assumption) ?_
    try simp only [Act.put, List.getElem_toArray, List.getElem_cons_succ, List.getElem_cons_zero, List.setIfInBounds_toArray, List.set_cons_zero, List.set_cons_succ]
    refine wpAnyH_take (i := 24) (v := undef) rfl (by kernel_rfl) (by kernel_rfl) (by kernel_rfl) (fun _ _ _ h => h) (Or.inr ⟨by rfl, rfl⟩) (by assumption) ?_
    try simp only [Act.put, List.getElem_toArray, List.getElem_cons_succ, List.getElem_cons_zero, List.setIfInBounds_toArray, List.set_cons_zero, List.set_cons_succ]
    refine wpAnyH_take (i := 25) (v := undef) rfl (by kernel_rfl) (by kernel_rfl) (by kernel_rfl) (fun _ _ _ h => h) (Or.inr ⟨by rfl, rfl⟩) (by assumption) ?_
    try simp only [Act.put, List.getElem_toArray, List.getElem_cons_succ, List.getElem_cons_zero, List.setIfInBounds_toArray, List.set_cons_zero, List.set_cons_succ]
    refine wpAnyH_take (i := 26) (v := undef) rfl (by kernel_rfl) (by kernel_rfl) (by kernel_rfl) (fun _ _ _ h => h) (Or.inr ⟨by rfl, rfl⟩) (by assumption) ?_
    try simp only [Act.put, List.getElem_toArray, List.getElem_cons_succ, List.getElem_cons_zero, List.setIfInBounds_toArray, List.set_cons_zero, List.set_cons_succ]
    refine wpAnyH_take (i := 27) (v := undef) rfl (by kernel_rfl) (by kernel_rfl) (by kernel_rfl) (fun _ _ _ h => h) (Or.inr ⟨by rfl, rfl⟩) (by assumption) ?_
    try simp only [Act.put, List.getElem_toArray, List.getElem_cons_succ, List.getElem_cons_zero, List.setIfInBounds_toArray, List.set_cons_zero, List.set_cons_succ]
    refine wpAnyH_take (i := 28) (v := undef) rfl (by kernel_rfl) (by kernel_rfl) (by kernel_rfl) (fun _ _ _ h => h) (Or.inr ⟨by rfl, rfl⟩) (by assumption) ?_
    try simp only [Act.put, List.getElem_toArray, List.getElem_cons_succ, List.getElem_cons_zero, List.setIfInBounds_toArray, List.set_cons_zero, List.set_cons_succ]
    refine wpAnyH_take (i := 29) (v := undef) rfl (by kernel_rfl) (by kernel_rfl) (by kernel_rfl) (fun _ _ _ h => h) (Or.inr ⟨by rfl, rfl⟩) (by assumption) ?_
    try simp only [Act.put, List.getElem_toArray, List.getElem_cons_succ, List.getElem_cons_zero, List.setIfInBounds_toArray, List.set_cons_zero, List.set_cons_succ]
    refine wpAnyH_take (i := 30) (v := undef) rfl (by kernel_rfl) (by kernel_rfl) (by kernel_rfl) (fun _ _ _ h => h) (Or.inr ⟨by rfl, rfl⟩) (by assumption) ?_
    try simp only [Act.put, List.getElem_toArray, List.getElem_cons_succ, List.getElem_cons_zero, List.setIfInBounds_toArray, List.set_cons_zero, List.set_cons_succ]
    refine wpAnyH_take (i := 31) (v := ?_) rfl (by kernel_rfl) (by kernel_rfl) (by kernel_rfl) (fun _ _ _ h => h) (Or.inl ⟨by rfl, ?_⟩) (by assumption) ?_
    rotate_left
    · intro w hSw
      try dsimp only at hSw
      go_simp
      try with_reducible rfl
    try simp only [Act.put, List.getElem_toArray, List.getElem_cons_succ, List.getElem_cons_zero, List.setIfInBounds_toArray, List.set_cons_zero, List.set_cons_succ]
    refine wpAnyH_take (i := 32) (v := ?_) rfl (by kernel_rfl) (by kernel_rfl) (by kernel_rfl) (fun _ _ _ h => h) (Or.inl ⟨by rfl, ?_⟩) (by assumption) ?_
    rotate_left
    · intro w hSw
      try dsimp only at hSw
      go_simp
      try with_reducible rfl
    try simp only [Act.put, List.getElem_toArray, List.getElem_cons_succ, List.getElem_cons_zero, List.setIfInBounds_toArray, List.set_cons_zero, List.set_cons_succ]
    refine wpAnyH_done (by kernel_rfl) ?_ _
    try go_wp2_with fail
    go_ret
    exact ⟨rfl, HB1.out.trans (HB5.out.mono (by omega))⟩
  · have hF := HR2.out
    rw [Bool.true_and] at hF
    have HF := Lib.hid hF
    clear hF HR2
    go_wp2_with fail
    go_region_held3 (fun w' => w'.cell? ⟨w.heap.size, 0, none⟩ = some (.pointer (some ⟨b, 0, none⟩)) ∧ w'.cell? ⟨b, 3, none⟩ = some (.int .i64 c.lit) ∧ w'.cell? ⟨b, 5, none⟩ = some (.int .i64 c.count) ∧ w'.cell? ⟨b, 6, none⟩ = some (.slice (some ⟨kb, ko, none⟩) qn qc) ∧
        w'.cell? ⟨kb, ko, none⟩ = some (.slice ka kn kc) ∧ w'.cell? ⟨kb, ko + 1, none⟩ = some (.int .i64 kid.rule) ∧ w'.cell? ⟨kb, ko + 2, none⟩ = some (.int .i64 kid.lit) ∧ w'.cell? ⟨kb, ko + 3, none⟩ = some (.slice kka kkn kkc) ∧ w'.cell? ⟨kb, ko + 4, none⟩ = some (.int .i64 kid.count))
      (first | exact ⟨y0, y3, y5, y6, x0, x1, x2, x3, x4⟩ | exact ⟨z0, z3, z5, z6, v0, v1, v2, v3, v4⟩ | go_keep)
      (first | (go_at_call 44; refine (HRES.out _ HB3.out).mono ?_; rintro e w5 ⟨rfl, hb5⟩; have HB5 := Lib.hid (HB3.out.trans (hb5.mono (by omega))); have z0 := below_c HB5.out hg1 g0; have z3 := below_c HB5.out hlt c3; have z5 := below_c HB5.out hlt c5; have z6 := below_c HB5.out hlt c6; have v0 := below_c HB5.out hkb k0; have v1 := below_c HB5.out hkb k1; have v2 := below_c HB5.out hkb k2; have v3 := below_c HB5.out hkb k3; have v4 := below_c HB5.out hkb k4; clear hb5)
             | (go_at_call 46; refine (HLOST.out _ HB5.out).mono ?_; rintro e w6 ⟨rfl, hb6⟩; have HB5 := Lib.hid (HB5.out.trans (hb6.mono HB5.out.size)); have z0 := below_c HB5.out hg1 g0; have z3 := below_c HB5.out hlt c3; have z5 := below_c HB5.out hlt c5; have z6 := below_c HB5.out hlt c6; have v0 := below_c HB5.out hkb k0; have v1 := below_c HB5.out hkb k1; have v2 := below_c HB5.out hkb k2; have v3 := below_c HB5.out hkb k3; have v4 := below_c HB5.out hkb k4; clear hb6)
             | (go_at_call 45; refine (doubled_any _ _ _ hk0 hkm1 hll).mono ?_; rintro e w7 ⟨rfl, hw7⟩; subst hw7))
    try go_wp2_with fail
    go_ret
    exact ⟨by rw [← HF.out]; rfl, HB1.out.trans (HB5.out.mono (by omega))⟩
end Go.Proofs.Ytihkknploioakaa
