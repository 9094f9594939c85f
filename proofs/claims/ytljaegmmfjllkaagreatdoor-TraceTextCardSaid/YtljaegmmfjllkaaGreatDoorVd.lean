/- (Trace seat) Walks: ContainsFunc over clauses at the closures of unit and follows. No condition. -/
import Derived.Test.YtljaegmmfjllkaaGreatDoorVz
import Derived.Test.YtljaegmmfjllkaaGreatDoorVb
import Derived.Test.YtljaegmmfjllkaaGreatDoorKu
namespace Go.Proofs.YtljaegmmfjllkaaGreatDoor
open Go.ChangeShapes Go.WideShapes Go.ChangeAt Go.RowKit
set_option linter.unusedVariables false

set_option maxHeartbeats 1000000 in
theorem indexfU_any (F : Nat → Prop) (P : List Int → Bool) (g : Nat) (v : Value) (xs : List (List Int)) (w : World) (hx : Clss F w v xs)
    (hp : ∀ (nq : Nat) (u : Value) (y : List Int), y ∈ xs → Ints F (w.drewN nq) u y → Calls Tryz.prog 78 #[u, .pointer (some ⟨g, 0, none⟩)] (w.drewN nq) (QuietPost (w.drewN nq) (.bool (P y)))) :
    Calls Tryz.prog 37 #[v, .func (.func 78) #[] #[.pointer (some ⟨g, 0, none⟩)]] w (QuietPost w (.int .i64 (pGo P xs 0))) := by
  obtain ⟨a, n, c, rfl, HN, hn⟩ := hx.form'
  obtain ⟨R, hR⟩ : ∃ R, pGo P xs 0 = R := ⟨_, rfl⟩
  have HR : Hid (R = pGo P (xs.drop 0) 0) := Lib.hid hR.symm
  rw [hR]
  have HX := Lib.hid hx
  have HP := Lib.hid hp
  clear hR hx hp
  go_enter Tryz.func37, Tryz.ntmps37
  go_wp2
  go_loopg [4, 8] n (fun g u4 u8 wx => ∃ k nq : Nat, k + g = n ∧ u8 = .int .i64 k ∧ u4 = .int .i64 0 ∧ wx = w.drewN nq ∧ Hid (R = pGo P (xs.drop k) k))
  case atStart => exact ⟨0, 0, by omega, rfl, rfl, rfl, HR⟩
  case round =>
    obtain ⟨k, nq, hk, rfl, rfl, rfl, hinv⟩ := hrel
    by_cases hlt : k < n
    · obtain ⟨y, hy, e⟩ := drop_at (xs := xs) (k := k) (by have := HN.out; omega)
      have hxs := HX.out
      obtain ⟨b, off, yv, rfl, _, hb, hc, hyi⟩ := hxs.at hy
      obtain ⟨ya, yn, yc, rfl, HYN, hyn⟩ := hyi.form'
      have HI : Hid (R = if P y = true then (k : Int) else pGo P (xs.drop (k + 1)) (k + 1)) := Lib.hid (by rw [hinv.out, e]; rfl)
      obtain ⟨B, hB⟩ : ∃ B, P y = B := ⟨_, rfl⟩
      have hoc := fun nq => HP.out nq _ y (List.mem_of_getElem? hy) (hyi.drewN nq)
      rw [hB] at HI hoc
      have HOC := Lib.hid hoc
      clear hinv e hy hB hoc hxs hyi
      rcases bool2 B with rfl | rfl
      · have HF : Hid (R = k) := Lib.hid (by rw [HI.out, if_pos rfl])
        go_wp2_with fail
        refine (HOC.out _).mono ?_
        rintro e w' ⟨rfl, n1, rfl⟩
        go_wp2_with fail
        go_ret
        exact ⟨by rw [HF.out]; rfl, _, rfl⟩
      · have HF : Hid (R = pGo P (xs.drop (k + 1)) (k + 1)) := Lib.hid (by rw [HI.out, if_neg (by simp)])
        go_wp2_with fail
        refine (HOC.out _).mono ?_
        rintro e w' ⟨rfl, n1, rfl⟩
        go_wp2_with fail
        go_roundg (gk - 1)
        case measure => omega
        case rel => exact ⟨k + 1, _, by omega, by go_num, rfl, rfl, HF⟩
    · have HF : Hid (R = -1) := Lib.hid (by rw [hinv.out, List.drop_eq_nil_of_le (by have := HN.out; omega)]; rfl)
      clear hinv
      go_wp2
      go_ret
      exact ⟨by rw [HF.out]; rfl, nq, rfl⟩
theorem containsfU_any (F : Nat → Prop) (P : List Int → Bool) (g : Nat) (v : Value) (xs : List (List Int)) (w : World) (hx : Clss F w v xs)
    (hp : ∀ (nq : Nat) (u : Value) (y : List Int), y ∈ xs → Ints F (w.drewN nq) u y → Calls Tryz.prog 78 #[u, .pointer (some ⟨g, 0, none⟩)] (w.drewN nq) (QuietPost (w.drewN nq) (.bool (P y)))) :
    Calls Tryz.prog 16 #[v, .func (.func 78) #[] #[.pointer (some ⟨g, 0, none⟩)]] w (QuietPost w (.bool (xs.any P))) := by
  have hc := pGo_any P xs 0
  have hI := indexfU_any F P g v xs w hx hp
  obtain ⟨R, hR⟩ : ∃ R, pGo P xs 0 = R := ⟨_, rfl⟩
  rw [hR] at hc hI
  rw [← hc]
  have HI := Lib.hid hI
  clear hc hR hI hx hp
  go_enter Tryz.func16, Tryz.ntmps16
  go_wp2_with fail
  refine HI.out.mono ?_
  rintro e w' ⟨rfl, n1, rfl⟩
  go_wp2_with fail
  go_ret
  exact ⟨rfl, _, rfl⟩

set_option maxHeartbeats 1000000 in
theorem indexfE_any (F : Nat → Prop) (P : List Int → Bool) (v : Value) (xs : List (List Int)) (w : World) (hx : Clss F w v xs)
    (hp : ∀ (nq : Nat) (u : Value) (y : List Int), y ∈ xs → Ints F (w.drewN nq) u y → Calls Tryz.prog 52 #[u] (w.drewN nq) (QuietPost (w.drewN nq) (.bool (P y)))) :
    Calls Tryz.prog 37 #[v, .func (.func 52) #[] #[]] w (QuietPost w (.int .i64 (pGo P xs 0))) := by
  obtain ⟨a, n, c, rfl, HN, hn⟩ := hx.form'
  obtain ⟨R, hR⟩ : ∃ R, pGo P xs 0 = R := ⟨_, rfl⟩
  have HR : Hid (R = pGo P (xs.drop 0) 0) := Lib.hid hR.symm
  rw [hR]
  have HX := Lib.hid hx
  have HP := Lib.hid hp
  clear hR hx hp
  go_enter Tryz.func37, Tryz.ntmps37
  go_wp2
  go_loopg [4, 8] n (fun g u4 u8 wx => ∃ k nq : Nat, k + g = n ∧ u8 = .int .i64 k ∧ u4 = .int .i64 0 ∧ wx = w.drewN nq ∧ Hid (R = pGo P (xs.drop k) k))
  case atStart => exact ⟨0, 0, by omega, rfl, rfl, rfl, HR⟩
  case round =>
    obtain ⟨k, nq, hk, rfl, rfl, rfl, hinv⟩ := hrel
    by_cases hlt : k < n
    · obtain ⟨y, hy, e⟩ := drop_at (xs := xs) (k := k) (by have := HN.out; omega)
      have hxs := HX.out
      obtain ⟨b, off, yv, rfl, _, hb, hc, hyi⟩ := hxs.at hy
      obtain ⟨ya, yn, yc, rfl, HYN, hyn⟩ := hyi.form'
      have HI : Hid (R = if P y = true then (k : Int) else pGo P (xs.drop (k + 1)) (k + 1)) := Lib.hid (by rw [hinv.out, e]; rfl)
      obtain ⟨B, hB⟩ : ∃ B, P y = B := ⟨_, rfl⟩
      have hoc := fun nq => HP.out nq _ y (List.mem_of_getElem? hy) (hyi.drewN nq)
      rw [hB] at HI hoc
      have HOC := Lib.hid hoc
      clear hinv e hy hB hoc hxs hyi
      rcases bool2 B with rfl | rfl
      · have HF : Hid (R = k) := Lib.hid (by rw [HI.out, if_pos rfl])
        go_wp2_with fail
        refine (HOC.out _).mono ?_
        rintro e w' ⟨rfl, n1, rfl⟩
        go_wp2_with fail
        go_ret
        exact ⟨by rw [HF.out]; rfl, _, rfl⟩
      · have HF : Hid (R = pGo P (xs.drop (k + 1)) (k + 1)) := Lib.hid (by rw [HI.out, if_neg (by simp)])
        go_wp2_with fail
        refine (HOC.out _).mono ?_
        rintro e w' ⟨rfl, n1, rfl⟩
        go_wp2_with fail
        go_roundg (gk - 1)
        case measure => omega
        case rel => exact ⟨k + 1, _, by omega, by go_num, rfl, rfl, HF⟩
    · have HF : Hid (R = -1) := Lib.hid (by rw [hinv.out, List.drop_eq_nil_of_le (by have := HN.out; omega)]; rfl)
      clear hinv
      go_wp2
      go_ret
      exact ⟨by rw [HF.out]; rfl, nq, rfl⟩
theorem containsfE_any (F : Nat → Prop) (P : List Int → Bool) (v : Value) (xs : List (List Int)) (w : World) (hx : Clss F w v xs)
    (hp : ∀ (nq : Nat) (u : Value) (y : List Int), y ∈ xs → Ints F (w.drewN nq) u y → Calls Tryz.prog 52 #[u] (w.drewN nq) (QuietPost (w.drewN nq) (.bool (P y)))) :
    Calls Tryz.prog 16 #[v, .func (.func 52) #[] #[]] w (QuietPost w (.bool (xs.any P))) := by
  have hc := pGo_any P xs 0
  have hI := indexfE_any F P v xs w hx hp
  obtain ⟨R, hR⟩ : ∃ R, pGo P xs 0 = R := ⟨_, rfl⟩
  rw [hR] at hc hI
  rw [← hc]
  have HI := Lib.hid hI
  clear hc hR hI hx hp
  go_enter Tryz.func16, Tryz.ntmps16
  go_wp2_with fail
  refine HI.out.mono ?_
  rintro e w' ⟨rfl, n1, rfl⟩
  go_wp2_with fail
  go_ret
  exact ⟨rfl, _, rfl⟩

set_option maxRecDepth 100000 in
set_option maxHeartbeats 1000000 in
theorem unit1_any (F : Nat → Prop) (b g : Nat) (lit : Int) (u : Value) (y : List Int) (w : World) (hg : w.cell? ⟨g, 0, none⟩ = some (.pointer (some ⟨b, 0, none⟩))) (hc : w.cell? ⟨b, 3, none⟩ = some (.int .i64 lit)) (hy : Ints F w u y) :
    Calls Tryz.prog 78 #[u, .pointer (some ⟨g, 0, none⟩)] w (QuietPost w (.bool (y == [lit]))) := by
  obtain ⟨a, n, c, rfl, HN, hn⟩ := hy.form'
  rw [one_iff]
  by_cases h1 : n = 1
  · have hl : y.length = 1 := by rw [← HN.out]; exact h1
    obtain ⟨x, hx⟩ : ∃ x, y[0]? = some x := ⟨_, List.getElem?_eq_getElem (by omega)⟩
    obtain ⟨xb, xo, rfl, _, hxb, hcx, _⟩ := hy.at hx
    rw [Nat.add_zero] at hcx
    have hgd : y.getD 0 0 = x := by rw [List.getD_eq_getElem?_getD, hx]; rfl
    rw [hgd, hl]
    have e1 : ((n : Int) == 1) = true := by simp; omega
    have h0 : (0 : Int) < n := by omega
    have h00 : 0 < n := by omega
    rw [show (decide (((1 : Nat) : Int) = 1) && (x == lit)) = (x == lit) by simp]
    clear hy hx hgd hl HN h1
    go_enter Tryz.func78, Tryz.ntmps78
    go_wp2_with fail
    go_quiet (fail)
    go_wp2_with fail
    go_ret
    exact ⟨rfl, _, rfl⟩
  · have hd : decide ((y.length : Int) = 1) = false := decide_eq_false (by have := HN.out; omega)
    rw [hd, Bool.false_and]
    have e1 : ((n : Int) == 1) = false := by simp; omega
    have e2 : decide ((n : Int) = 1) = false := decide_eq_false (by omega)
    clear hy hd
    go_enter Tryz.func78, Tryz.ntmps78
    go_wp2_with fail
    go_quiet (fail)
    go_wp2_with fail
    go_ret
    exact ⟨rfl, _, rfl⟩
theorem fol1_any (F : Nat → Prop) (u : Value) (y : List Int) (w : World) (hy : Ints F w u y) :
    Calls Tryz.prog 52 #[u] w (QuietPost w (.bool (decide (y.length = 0)))) := by
  obtain ⟨a, n, c, rfl, HN, hn⟩ := hy.form'
  rw [← HN.out]
  clear hy
  go_enter Tryz.func52, Tryz.ntmps52
  go_wp2_with fail
  go_ret
  exact ⟨by rw [show decide (n = 0) = ((n : Int) == 0) by by_cases h : n = 0 <;> simp [h]]; rfl, 0, rfl⟩

/- (Trace seat) Walks: unit, decide, try, both of the checker. No condition but the sizes and ranges. -/
open Go.ChangeShapes Go.WideShapes Go.ChangeAt Go.RowKit
set_option linter.unusedVariables false
set_option linter.unusedSimpArgs false

set_option maxRecDepth 100000 in
set_option maxHeartbeats 4000000 in
theorem unit_any (b : Nat) (keep : Int) (cv kv qv vv : Value) (c : Claim) (ks : List Claim) (vs : List Int) (w : World) (hc : Ckr w b keep cv kv qv vv c ks vs) (hr : RuleOk c ks vs) :
    Calls Tryz.prog 53 #[.pointer (some ⟨b, 0, none⟩)] w (BoolPost w (unitM keep c ks vs)) := by
  obtain ⟨hsc, hsk, hrv, hvl, hkl⟩ := hr
  obtain ⟨W1, hW1⟩ : ∃ W, w.alloc (.cells #[.pointer (some ⟨b, 0, none⟩)] 73) = W := ⟨_, rfl⟩
  have hb1 : Below w.heap.size w W1 := by rw [← hW1]; exact (Below.refl _ _).alloc (Nat.le_refl _) _
  have hs1 : W1.heap.size = w.heap.size + 1 := by rw [← hW1]; simp
  have g0 : W1.cell? ⟨w.heap.size, 0, none⟩ = some (.pointer (some ⟨b, 0, none⟩)) := by rw [← hW1, cell_of_row _ _ _ _ _ _ (new_at _ _)]; rfl
  have hc1 := hc.below hb1
  have hlt := hc1.lt
  obtain ⟨⟨c0, c1, _, c3, _, c5, c6, c7⟩, hcl, hks, hvs, hil, _, _⟩ := id hc1
  have HVA := Lib.hid (variable_any b c.lit vv vs W1 c3 c7 hvs hrv)
  obtain ⟨R, hR⟩ : ∃ R, unitM keep c ks vs = R := ⟨_, rfl⟩
  have hR2 := hR
  unfold unitM at hR2
  have hvr := varK_range (lit := c.lit) hrv
  obtain ⟨V, hV⟩ : ∃ V, varK c.lit vs = V := ⟨_, rfl⟩
  rw [hV] at hR2 HVA hvr
  rw [hR]
  obtain ⟨ca, cn, cc, rfl, _, _⟩ := hcl.form'
  obtain ⟨qa, qn, qc, rfl, HQN, hqn⟩ := hks.form
  obtain ⟨va, vn, vc, rfl, _, _⟩ := hvs.form'
  have hg1 : w.heap.size < W1.heap.size := by omega
  have HB1 := Lib.hid hb1
  have HW1 := Lib.hid hW1
  have HC := Lib.hid hc1
  have HCL := Lib.hid hcl
  clear hb1 hW1 hR hV hc hvs hc1
  obtain ⟨hv0, hv1⟩ := hvr
  by_cases h0 : V = 0
  · subst h0
    rw [if_pos (.inl rfl)] at hR2
    subst hR2
    clear hcl hks hsc hsk hrv
    go_enter Tryz.func53, Tryz.ntmps53
    go_wp2_with fail
    rw [HW1.out]
    refine HVA.out.mono ?_
    rintro e w2 ⟨rfl, hw2⟩
    subst hw2
    go_wp2_with fail
    go_ret
    exact ⟨rfl, HB1.out⟩
  have e0 : (V == 0) = false := by simp; exact h0
  by_cases h1 : ks.length = 1
  case neg =>
    rw [if_pos (.inr (.inl h1))] at hR2
    subst hR2
    have e1 : ((qn : Int) != 1) = true := by simp; have := HQN.out; omega
    clear hcl hks hsc hsk hrv h1
    go_enter Tryz.func53, Tryz.ntmps53
    go_wp2_with fail
    rw [HW1.out]
    refine HVA.out.mono ?_
    rintro e w2 ⟨rfl, hw2⟩
    subst hw2
    go_wp2_with fail
    go_ret
    exact ⟨rfl, HB1.out⟩
  have e1 : ((qn : Int) != 1) = false := by simp; have := HQN.out; omega
  have hcf := containsfU_any (fun _ => True) (fun y => y == [c.lit]) w.heap.size _ c.cls W1 hcl (fun nq u y _ hy => unit1_any _ b w.heap.size c.lit u y _ g0 c3 hy)
  obtain ⟨T, hT⟩ : ∃ T, (c.cls.any fun y => y == [c.lit]) = T := ⟨_, rfl⟩
  rw [hT] at hcf hR2
  have HCF := Lib.hid hcf
  clear hcf hT
  rcases T with _ | _
  · rw [if_pos (.inr (.inr rfl))] at hR2
    subst hR2
    clear hcl hks hsc hsk hrv h1
    go_enter Tryz.func53, Tryz.ntmps53
    go_wp2_with fail
    rw [HW1.out]
    refine HVA.out.mono ?_
    rintro e w2 ⟨rfl, hw2⟩
    subst hw2
    go_wp2_with fail
    refine HCF.out.mono ?_
    rintro e w3 ⟨rfl, nd, rfl⟩
    have HB3 := Lib.hid (below_drewN HB1.out nd)
    go_wp2_with fail
    go_ret
    exact ⟨rfl, HB3.out⟩
  rw [if_neg (by rintro (h | h | h); exact h0 h; exact h h1; cases h)] at hR2
  obtain ⟨kid, hkid⟩ : ∃ k, ks[0]? = some k := ⟨_, List.getElem?_eq_getElem (by omega)⟩
  have hkg : ks.getD 0 clNil = kid := by rw [List.getD_eq_getElem?_getD, hkid]; rfl
  rw [hkg] at hR2
  have hkm := hsk kid (List.mem_of_getElem? hkid)
  obtain ⟨kb, ko, kcv, kkv, rfl, _, hkb, k0, k1, k2, k3, k4, ⟨⟨hkcl, _, _, hkki, _⟩, _⟩⟩ := hks.at hkid
  obtain ⟨ka, kn, kc, rfl, _, _⟩ := hkcl.form'
  obtain ⟨kka, kkn, kkc, rfl, _, _⟩ := hkki.form'
  rw [show ko + 0 * 5 = ko by omega] at k0 k1 k2 k3 k4
  have HKC := Lib.hid hkcl
  obtain ⟨hksz, hk0, hkm1⟩ := hkm
  obtain ⟨X, hX⟩ : ∃ X, resB c ks 0 c.lit = X := ⟨_, rfl⟩
  rw [hX] at hR2
  have hiq : (0 : Int) < qn := by have := HQN.out; omega
  have hiq' : 0 < qn := by have := HQN.out; omega
  have hres : ∀ (W : World), Below W1.heap.size W1 W → Calls Tryz.prog 79 #[.pointer (some ⟨b, 0, none⟩), .int .i64 0, .int .i64 c.lit] W (BoolPost W (resB c ks 0 c.lit)) := fun (W : World) (hb : Below W1.heap.size W1 W) => residualk_any b keep _ _ _ _ c ks vs 0 c.lit W (HC.out.below hb) (by omega) (by omega) hil hsc
  rw [hX] at hres
  have HRES := Lib.hid hres
  have hlost := fun (W : World) (hb : Below W1.heap.size W1 W) => lost_any b keep V c (.slice ka kn kc) (.slice kka kkn kkc) _ kid vs W (below_c hb hlt c0) (below_c hb hlt c7) ((HC.out.below hb).2.2.2.1) hvl (HKC.out.below hb) hksz ⟨by omega, by omega⟩
  have HLOST := Lib.hid hlost
  have hll : lostM V (keptM keep vs) (occM kid.cls) ≤ 100000 := Nat.le_trans (lostM_le _ _ _) (Nat.le_trans (keptM_len _ _) hvl)
  obtain ⟨L, hL⟩ : ∃ L, lostM V (keptM keep vs) (occM kid.cls) = L := ⟨_, rfl⟩
  have hlift : liftM keep V vs kid = dblM L kid.count := by unfold liftM; rw [hL]
  rw [hL] at hll HLOST
  rw [hlift] at hR2
  have HR2 := Lib.hid hR2
  clear hL hlift hR2 hlost hres hX hkcl hkki hkg hkid hcl hks hsc hsk hrv h1 hksz HC HQN
  go_enter Tryz.func53, Tryz.ntmps53
  go_wp2_with fail
  rw [HW1.out]
  refine HVA.out.mono ?_
  rintro e w2 ⟨rfl, hw2⟩
  subst hw2
  go_wp2_with fail
  refine HCF.out.mono ?_
  rintro e w3 ⟨rfl, nd, hw3⟩
  have HB3 : Hid (Below w2.heap.size w2 w3.drew) := Lib.hid (by rw [hw3]; exact (below_drewN (Below.refl _ _) nd).drew)
  have hb3 : Below w2.heap.size w2 w3 := by rw [hw3]; exact below_drewN (Below.refl _ _) nd
  have hsz3 : w3.drew.heap.size = w2.heap.size := by rw [hw3]; rfl
  have y0 := below_c hb3 hg1 g0
  have y3 := below_c hb3 hlt c3
  have y5 := below_c hb3 hlt c5
  have y6 := below_c hb3 hlt c6
  have x0 := below_c hb3 hkb k0
  have x1 := below_c hb3 hkb k1
  have x2 := below_c hb3 hkb k2
  have x3 := below_c hb3 hkb k3
  have x4 := below_c hb3 hkb k4
  clear hb3 hw3 HCF HVA HW1
  rcases X with _ | _
  · have hF : R = false := by have := HR2.out; rw [Bool.false_and] at this; exact this.symm
    subst hF
    go_wp2_with fail
    refine wp_region_held_drew (S := fun w' => w'.cell? ⟨w.heap.size, 0, none⟩ = some (.pointer (some ⟨b, 0, none⟩)) ∧ w'.cell? ⟨b, 3, none⟩ = some (.int .i64 c.lit)) (by kernel_rfl) (by exact ⟨y0, y3⟩) (fun hHeld => ?_)
    refine wpAnyH_take (i := 0) (v := ?_) rfl (by kernel_rfl) (by kernel_rfl) (by kernel_rfl) (fun _ _ _ h => h) (Or.inl ⟨by rfl, ?_⟩) (by assumption) ?_
    rotate_left
    · intro w hSw
      try dsimp only at hSw
      go_simp
      try with_reducible rfl
    try simp only [Act.put, List.getElem_toArray, List.getElem_cons_succ, List.getElem_cons_zero, List.setIfInBounds_toArray, List.set_cons_zero, List.set_cons_succ]
    refine wpAnyH_take (i := 1) (v := ?_) rfl (by kernel_rfl) (by kernel_rfl) (by kernel_rfl) (fun _ _ _ h => h) (Or.inl ⟨by rfl, ?_⟩) (by assumption) ?_
    rotate_left
    · intro w hSw
      try dsimp only at hSw
      go_simp
      try with_reducible rfl
    try simp only [Act.put, List.getElem_toArray, List.getElem_cons_succ, List.getElem_cons_zero, List.setIfInBounds_toArray, List.set_cons_zero, List.set_cons_succ]
    refine wpAnyH_take (i := 2) (v := ?_) rfl (by kernel_rfl) (by kernel_rfl) (by kernel_rfl) (fun _ _ _ h => h) (Or.inl ⟨by rfl, ?_⟩) (by assumption) ?_
    rotate_left
    · intro w hSw
      try dsimp only at hSw
      go_simp
      try with_reducible rfl
    try simp only [Act.put, List.getElem_toArray, List.getElem_cons_succ, List.getElem_cons_zero, List.setIfInBounds_toArray, List.set_cons_zero, List.set_cons_succ]
    refine wpAnyH_take (i := 3) (v := ?_) rfl (by kernel_rfl) (by kernel_rfl) (by kernel_rfl) (fun _ _ _ h => h) (Or.inl ⟨by rfl, ?_⟩) (by assumption) ?_
    rotate_left
    · intro w hSw
      try dsimp only at hSw
      go_simp
      try with_reducible rfl
    try simp only [Act.put, List.getElem_toArray, List.getElem_cons_succ, List.getElem_cons_zero, List.setIfInBounds_toArray, List.set_cons_zero, List.set_cons_succ]
    refine wpAnyH_take (i := 4) (v := ?_) rfl (by kernel_rfl) (by kernel_rfl) (by kernel_rfl) (fun _ _ _ h => h) (Or.inl ⟨by rfl, ?_⟩) (by assumption) ?_
    rotate_left
    · intro w hSw
      try dsimp only at hSw
      go_simp
      try with_reducible rfl
    try simp only [Act.put, List.getElem_toArray, List.getElem_cons_succ, List.getElem_cons_zero, List.setIfInBounds_toArray, List.set_cons_zero, List.set_cons_succ]
    refine wpAnyH_take (i := 5) (v := ?_) rfl (by kernel_rfl) (by kernel_rfl) (by kernel_rfl) (fun _ _ _ h => h) (Or.inl ⟨by rfl, ?_⟩) (by assumption) ?_
    rotate_left
    · intro w hSw
      try dsimp only at hSw
      go_simp
      try with_reducible rfl
    try simp only [Act.put, List.getElem_toArray, List.getElem_cons_succ, List.getElem_cons_zero, List.setIfInBounds_toArray, List.set_cons_zero, List.set_cons_succ]
    refine wpAnyH_ready (rs := [6]) (by kernel_rfl) (by simp) ?_
    refine AllReadyH.cons rfl (fun K hK => ?_) AllReadyH.nil
    go_simp
    (go_at_call 79; refine (HRES.out _ HB3.out).mono ?_; rintro e w5 ⟨rfl, hb5⟩; have HB5 := Lib.hid (HB3.out.trans (hb5.mono (by omega))); have z0 := below_c HB5.out hg1 g0; have z3 := below_c HB5.out hlt c3; clear hb5)
    go_wp2_with fail
    refine hK.out _ _ (by exact ⟨z0, z3⟩) (fun hHeld2 => ?_)
    clear hK K
    try simp only [Act.put, List.getElem_toArray, List.getElem_cons_succ, List.getElem_cons_zero, List.setIfInBounds_toArray, List.set_cons_zero, List.set_cons_succ]
    refine wpAnyH_take (i := 7) (v := ?_) rfl (by kernel_rfl) (by kernel_rfl) (by kernel_rfl) (fun _ _ _ h => h) (Or.inl ⟨by rfl, ?_⟩) (by assumption) ?_
    rotate_left
    · intro w hSw
      try dsimp only at hSw
      go_simp
      try with_reducible rfl
    try simp only [Act.put, List.getElem_toArray, List.getElem_cons_succ, List.getElem_cons_zero, List.setIfInBounds_toArray, List.set_cons_zero, List.set_cons_succ]
    refine wpAnyH_take (i := 8) (v := undef) rfl (by kernel_rfl) (by kernel_rfl) (by kernel_rfl) (fun _ _ _ h => h) (Or.inr ⟨by rfl, rfl⟩) (by assumption) ?_
    try simp only [Act.put, List.getElem_toArray, List.getElem_cons_succ, List.getElem_cons_zero, List.setIfInBounds_toArray, List.set_cons_zero, List.set_cons_succ]
    refine wpAnyH_take (i := 9) (v := undef) rfl (by kernel_rfl) (by kernel_rfl) (by kernel_rfl) (fun _ _ _ h => h) (Or.inr ⟨by rfl, rfl⟩) (by assumption) ?_
    try simp only [Act.put, List.getElem_toArray, List.getElem_cons_succ, List.getElem_cons_zero, List.setIfInBounds_toArray, List.set_cons_zero, List.set_cons_succ]
    refine wpAnyH_take (i := 10) (v := undef) rfl (by kernel_rfl) (by kernel_rfl) (by kernel_rfl) (fun _ _ _ h => h) (Or.inr ⟨by rfl, rfl⟩) (by assumption) ?_
    try simp only [Act.put, List.getElem_toArray, List.getElem_cons_succ, List.getElem_cons_zero, List.setIfInBounds_toArray, List.set_cons_zero, List.set_cons_succ]
    refine wpAnyH_take (i := 11) (v := undef) rfl (by kernel_rfl) (by kernel_rfl) (by kernel_rfl) (fun _ _ _ h => h) (Or.inr ⟨by rfl, rfl⟩) (by assumption) ?_
    try simp only [Act.put, List.getElem_toArray, List.getElem_cons_succ, List.getElem_cons_zero, List.setIfInBounds_toArray, List.set_cons_zero, List.set_cons_succ]
    refine wpAnyH_take (i := 12) (v := undef) rfl (by kernel_rfl) (by kernel_rfl) (by kernel_rfl) (fun _ _ _ h => h) (Or.inr ⟨by rfl, rfl⟩) (by assumption) ?_
    try simp only [Act.put, List.getElem_toArray, List.getElem_cons_succ, List.getElem_cons_zero, List.setIfInBounds_toArray, List.set_cons_zero, List.set_cons_succ]
    refine wpAnyH_take (i := 13) (v := undef) rfl (by kernel_rfl) (by kernel_rfl) (by kernel_rfl) (fun _ _ _ h => h) (Or.inr ⟨by rfl, rfl⟩) (by assumption) ?_
    try simp only [Act.put, List.getElem_toArray, List.getElem_cons_succ, List.getElem_cons_zero, List.setIfInBounds_toArray, List.set_cons_zero, List.set_cons_succ]
    refine wpAnyH_take (i := 14) (v := undef) rfl (by kernel_rfl) (by kernel_rfl) (by kernel_rfl) (fun _ _ _ h => h) (Or.inr ⟨by rfl, rfl⟩) (by assumption) ?_
    try simp only [Act.put, List.getElem_toArray, List.getElem_cons_succ, List.getElem_cons_zero, List.setIfInBounds_toArray, List.set_cons_zero, List.set_cons_succ]
    refine wpAnyH_take (i := 15) (v := undef) rfl (by kernel_rfl) (by kernel_rfl) (by kernel_rfl) (fun _ _ _ h => h) (Or.inr ⟨by rfl, rfl⟩) (by assumption) ?_
    try simp only [Act.put, List.getElem_toArray, List.getElem_cons_succ, List.getElem_cons_zero, List.setIfInBounds_toArray, List.set_cons_zero, List.set_cons_succ]
    refine wpAnyH_take (i := 16) (v := undef) rfl (by kernel_rfl) (by kernel_rfl) (by kernel_rfl) (fun _ _ _ h => h) (Or.inr ⟨by rfl, rfl⟩) (by assumption) ?_
    try simp only [Act.put, List.getElem_toArray, List.getElem_cons_succ, List.getElem_cons_zero, List.setIfInBounds_toArray, List.set_cons_zero, List.set_cons_succ]
    refine wpAnyH_take (i := 17) (v := undef) rfl (by kernel_rfl) (by kernel_rfl) (by kernel_rfl) (fun _ _ _ h => h) (Or.inr ⟨by rfl, rfl⟩) (by assumption) ?_
    try simp only [Act.put, List.getElem_toArray, List.getElem_cons_succ, List.getElem_cons_zero, List.setIfInBounds_toArray, List.set_cons_zero, List.set_cons_succ]
    refine wpAnyH_take (i := 18) (v := undef) rfl (by kernel_rfl) (by kernel_rfl) (by kernel_rfl) (fun _ _ _ h => h) (Or.inr ⟨by rfl, rfl⟩) (by assumption) ?_
    try simp only [Act.put, List.getElem_toArray, List.getElem_cons_succ, List.getElem_cons_zero, List.setIfInBounds_toArray, List.set_cons_zero, List.set_cons_succ]
    refine wpAnyH_take (i := 19) (v := undef) rfl (by kernel_rfl) (by kernel_rfl) (by kernel_rfl) (fun _ _ _ h => h) (Or.inr ⟨by rfl, rfl⟩) (by assumption) ?_
    try simp only [Act.put, List.getElem_toArray, List.getElem_cons_succ, List.getElem_cons_zero, List.setIfInBounds_toArray, List.set_cons_zero, List.set_cons_succ]
    refine wpAnyH_take (i := 20) (v := undef) rfl (by kernel_rfl) (by kernel_rfl) (by kernel_rfl) (fun _ _ _ h => h) (Or.inr ⟨by rfl, rfl⟩) (by assumption) ?_
    try simp only [Act.put, List.getElem_toArray, List.getElem_cons_succ, List.getElem_cons_zero, List.setIfInBounds_toArray, List.set_cons_zero, List.set_cons_succ]
    refine wpAnyH_take (i := 21) (v := undef) rfl (by kernel_rfl) (by kernel_rfl) (by kernel_rfl) (fun _ _ _ h => h) (Or.inr ⟨by rfl, rfl⟩) (by assumption) ?_
    try simp only [Act.put, List.getElem_toArray, List.getElem_cons_succ, List.getElem_cons_zero, List.setIfInBounds_toArray, List.set_cons_zero, List.set_cons_succ]
    refine wpAnyH_take (i := 22) (v := undef) rfl (by kernel_rfl) (by kernel_rfl) (by kernel_rfl) (fun _ _ _ h => h) (Or.inr ⟨by rfl, rfl⟩) (by assumption) ?_
    try simp only [Act.put, List.getElem_toArray, List.getElem_cons_succ, List.getElem_cons_zero, List.setIfInBounds_toArray, List.set_cons_zero, List.set_cons_succ]
    refine wpAnyH_take (i := 23) (v := undef) rfl (by kernel_rfl) (by kernel_rfl) (by kernel_rfl) (fun _ _ _ h => h) (Or.inr ⟨by rfl, rfl⟩) (by assumption) ?_
    try simp only [Act.put, List.getElem_toArray, List.getElem_cons_succ, List.getElem_cons_zero, List.setIfInBounds_toArray, List.set_cons_zero, List.set_cons_succ]
    refine wpAnyH_take (i := 24) (v := undef) rfl (by kernel_rfl) (by kernel_rfl) (by kernel_rfl) (fun _ _ _ h => h) (Or.inr ⟨by rfl, rfl⟩) (by assumption) ?_
    try simp only [Act.put, List.getElem_toArray, List.getElem_cons_succ, List.getElem_cons_zero, List.setIfInBounds_toArray, List.set_cons_zero, List.set_cons_succ]
    refine wpAnyH_take (i := 25) (v := undef) rfl (by kernel_rfl) (by kernel_rfl) (by kernel_rfl) (fun _ _ _ h => h) (Or.inr ⟨by rfl, rfl⟩) (by assumption) ?_
    try simp only [Act.put, List.getElem_toArray, List.getElem_cons_succ, List.getElem_cons_zero, List.setIfInBounds_toArray, List.set_cons_zero, List.set_cons_succ]
    refine wpAnyH_take (i := 26) (v := undef) rfl (by kernel_rfl) (by kernel_rfl) (by kernel_rfl) (fun _ _ _ h => h) (Or.inr ⟨by rfl, rfl⟩) (by assumption) ?_
    try simp only [Act.put, List.getElem_toArray, List.getElem_cons_succ, List.getElem_cons_zero, List.setIfInBounds_toArray, List.set_cons_zero, List.set_cons_succ]
    refine wpAnyH_take (i := 27) (v := undef) rfl (by kernel_rfl) (by kernel_rfl) (by kernel_rfl) (fun _ _ _ h => h) (Or.inr ⟨by rfl, rfl⟩) (by assumption) ?_
    try simp only [Act.put, List.getElem_toArray, List.getElem_cons_succ, List.getElem_cons_zero, List.setIfInBounds_toArray, List.set_cons_zero, List.set_cons_succ]
    refine wpAnyH_take (i := 28) (v := undef) rfl (by kernel_rfl) (by kernel_rfl) (by kernel_rfl) (fun _ _ _ h => h) (Or.inr ⟨by rfl, rfl⟩) (by assumption) ?_
    try simp only [Act.put, List.getElem_toArray, List.getElem_cons_succ, List.getElem_cons_zero, List.setIfInBounds_toArray, List.set_cons_zero, List.set_cons_succ]
    refine wpAnyH_take (i := 29) (v := undef) rfl (by kernel_rfl) (by kernel_rfl) (by kernel_rfl) (fun _ _ _ h => h) (Or.inr ⟨by rfl, rfl⟩) (by assumption) ?_
    try simp only [Act.put, List.getElem_toArray, List.getElem_cons_succ, List.getElem_cons_zero, List.setIfInBounds_toArray, List.set_cons_zero, List.set_cons_succ]
    refine wpAnyH_take (i := 30) (v := undef) rfl (by kernel_rfl) (by kernel_rfl) (by kernel_rfl) (fun _ _ _ h => h) (Or.inr ⟨by rfl, rfl⟩) (by assumption) ?_
    try simp only [Act.put, List.getElem_toArray, List.getElem_cons_succ, List.getElem_cons_zero, List.setIfInBounds_toArray, List.set_cons_zero, List.set_cons_succ]
    refine wpAnyH_take (i := 31) (v := ?_) rfl (by kernel_rfl) (by kernel_rfl) (by kernel_rfl) (fun _ _ _ h => h) (Or.inl ⟨by rfl, ?_⟩) (by assumption) ?_
    rotate_left
    · intro w hSw
      try dsimp only at hSw
      go_simp
      try with_reducible rfl
    try simp only [Act.put, List.getElem_toArray, List.getElem_cons_succ, List.getElem_cons_zero, List.setIfInBounds_toArray, List.set_cons_zero, List.set_cons_succ]
    refine wpAnyH_take (i := 32) (v := ?_) rfl (by kernel_rfl) (by kernel_rfl) (by kernel_rfl) (fun _ _ _ h => h) (Or.inl ⟨by rfl, ?_⟩) (by assumption) ?_
    rotate_left
    · intro w hSw
      try dsimp only at hSw
      go_simp
      try with_reducible rfl
    try simp only [Act.put, List.getElem_toArray, List.getElem_cons_succ, List.getElem_cons_zero, List.setIfInBounds_toArray, List.set_cons_zero, List.set_cons_succ]
    refine wpAnyH_done (by kernel_rfl) ?_ _
    try go_wp2_with fail
    go_ret
    exact ⟨rfl, HB1.out.trans (HB5.out.mono (by omega))⟩
  · have hF := HR2.out
    rw [Bool.true_and] at hF
    have HF := Lib.hid hF
    clear hF HR2
    go_wp2_with fail
    go_region_held3 (fun w' => w'.cell? ⟨w.heap.size, 0, none⟩ = some (.pointer (some ⟨b, 0, none⟩)) ∧ w'.cell? ⟨b, 3, none⟩ = some (.int .i64 c.lit) ∧ w'.cell? ⟨b, 5, none⟩ = some (.int .i64 c.count) ∧ w'.cell? ⟨b, 6, none⟩ = some (.slice (some ⟨kb, ko, none⟩) qn qc) ∧
        w'.cell? ⟨kb, ko, none⟩ = some (.slice ka kn kc) ∧ w'.cell? ⟨kb, ko + 1, none⟩ = some (.int .i64 kid.rule) ∧ w'.cell? ⟨kb, ko + 2, none⟩ = some (.int .i64 kid.lit) ∧ w'.cell? ⟨kb, ko + 3, none⟩ = some (.slice kka kkn kkc) ∧ w'.cell? ⟨kb, ko + 4, none⟩ = some (.int .i64 kid.count))
      (first | exact ⟨y0, y3, y5, y6, x0, x1, x2, x3, x4⟩ | exact ⟨z0, z3, z5, z6, v0, v1, v2, v3, v4⟩ | go_keep)
      (first | (go_at_call 79; refine (HRES.out _ HB3.out).mono ?_; rintro e w5 ⟨rfl, hb5⟩; have HB5 := Lib.hid (HB3.out.trans (hb5.mono (by omega))); have z0 := below_c HB5.out hg1 g0; have z3 := below_c HB5.out hlt c3; have z5 := below_c HB5.out hlt c5; have z6 := below_c HB5.out hlt c6; have v0 := below_c HB5.out hkb k0; have v1 := below_c HB5.out hkb k1; have v2 := below_c HB5.out hkb k2; have v3 := below_c HB5.out hkb k3; have v4 := below_c HB5.out hkb k4; clear hb5)
             | (go_at_call 81; refine (HLOST.out _ HB5.out).mono ?_; rintro e w6 ⟨rfl, hb6⟩; have HB5 := Lib.hid (HB5.out.trans (hb6.mono HB5.out.size)); have z0 := below_c HB5.out hg1 g0; have z3 := below_c HB5.out hlt c3; have z5 := below_c HB5.out hlt c5; have z6 := below_c HB5.out hlt c6; have v0 := below_c HB5.out hkb k0; have v1 := below_c HB5.out hkb k1; have v2 := below_c HB5.out hkb k2; have v3 := below_c HB5.out hkb k3; have v4 := below_c HB5.out hkb k4; clear hb6)
             | (go_at_call 80; refine (doubled_any _ _ _ hk0 hkm1 hll).mono ?_; rintro e w7 ⟨rfl, hw7⟩; subst hw7))
    try go_wp2_with fail
    go_ret
    exact ⟨by rw [← HF.out]; rfl, HB1.out.trans (HB5.out.mono (by omega))⟩

/- (Trace seat) Walks: try, both, decide of the checker. No condition but the sizes and ranges. -/
open Go.ChangeShapes Go.WideShapes Go.ChangeAt Go.RowKit
set_option linter.unusedVariables false

set_option maxRecDepth 100000 in
set_option maxHeartbeats 4000000 in
theorem try_any (b : Nat) (keep : Int) (cv kv qv vv : Value) (c : Claim) (ks : List Claim) (vs : List Int) (w : World) (hc : Ckr w b keep cv kv qv vv c ks vs) (hr : RuleOk c ks vs) :
    Calls Tryz.prog 56 #[.pointer (some ⟨b, 0, none⟩)] w (BoolPost w (tryM keep c ks vs)) := by
  obtain ⟨hsc, hsk, hrv, hvl, hkl⟩ := hr
  have hlt := hc.lt
  obtain ⟨⟨c0, c1, _, c3, _, c5, c6, c7⟩, hcl, hks, hvs, hil, _, _⟩ := id hc
  have HVA := Lib.hid (variable_any b c.lit vv vs w c3 c7 hvs hrv)
  obtain ⟨R, hR⟩ : ∃ R, tryM keep c ks vs = R := ⟨_, rfl⟩
  have hR2 := hR
  unfold tryM at hR2
  obtain ⟨V, hV⟩ : ∃ V, varK c.lit vs = V := ⟨_, rfl⟩
  rw [hV] at hR2 HVA
  rw [hR]
  obtain ⟨ca, cn, cc, rfl, _, _⟩ := hcl.form'
  obtain ⟨qa, qn, qc, rfl, HQN, hqn⟩ := hks.form
  obtain ⟨va, vn, vc, rfl, _, _⟩ := hvs.form'
  have HC := Lib.hid hc
  have HVS := Lib.hid hvs
  clear hR hV hc
  by_cases h0 : V = 0
  · subst h0
    rw [if_pos (.inl rfl)] at hR2
    subst hR2
    clear hcl hks hsc hsk hrv hvs
    go_enter Tryz.func56, Tryz.ntmps56
    go_wp2_with fail
    refine HVA.out.mono ?_
    rintro e w2 ⟨rfl, hw2⟩
    subst hw2
    go_wp2_with fail
    go_ret
    exact ⟨rfl, Below.refl _ _⟩
  have e0 : (V == 0) = false := by simp; exact h0
  by_cases h1 : ks.length = 1
  case neg =>
    rw [if_pos (.inr (.inl h1))] at hR2
    subst hR2
    have e1 : ((qn : Int) != 1) = true := by simp; have := HQN.out; omega
    clear hcl hks hsc hsk hrv h1 hvs
    go_enter Tryz.func56, Tryz.ntmps56
    go_wp2_with fail
    refine HVA.out.mono ?_
    rintro e w2 ⟨rfl, hw2⟩
    subst hw2
    go_wp2_with fail
    go_ret
    exact ⟨rfl, Below.refl _ _⟩
  have e1 : ((qn : Int) != 1) = false := by simp; have := HQN.out; omega
  have HKP := Lib.hid (kept_any _ b keep _ vs w c0 hvs hvl)
  obtain ⟨L, hL⟩ : ∃ L, (keptM keep vs).length = L := ⟨_, rfl⟩
  have hLl : L ≤ 100000 := by rw [← hL]; exact Nat.le_trans (keptM_len _ _) hvl
  rw [hL] at hR2
  have HL := Lib.hid hL
  clear hL
  by_cases h2 : 0 < L
  · rw [if_pos (.inr (.inr (.inl h2)))] at hR2
    subst hR2
    have e2 : decide (0 < (L : Int)) = true := decide_eq_true (by omega)
    have e2' : decide (0 < L) = true := decide_eq_true h2
    clear hcl hks hsc hsk hrv h1 hvs h2
    go_enter Tryz.func56, Tryz.ntmps56
    go_wp2_with fail
    refine HVA.out.mono ?_
    rintro e w2 ⟨rfl, hw2⟩
    subst hw2
    go_wp2_with fail
    refine HKP.out.mono ?_
    rintro e w3 ⟨pv, rfl, hp, hb3⟩
    obtain ⟨pa, pc, rfl, _⟩ := hp.form
    have HB3 := Lib.hid hb3
    rw [HL.out]
    clear hp hb3
    go_wp2_with fail
    go_ret
    exact ⟨rfl, HB3.out⟩
  have e2 : decide (0 < (L : Int)) = false := decide_eq_false (by omega)
  have e2' : decide (0 < L) = false := decide_eq_false h2
  obtain ⟨kid, hkid⟩ : ∃ k, ks[0]? = some k := ⟨_, List.getElem?_eq_getElem (by omega)⟩
  have hkg : ks.getD 0 clNil = kid := by rw [List.getD_eq_getElem?_getD, hkid]; rfl
  rw [hkg] at hR2
  obtain ⟨kb, ko, kcv, kkv, rfl, _, hkb, _, _, _, _, k4, _⟩ := hks.at hkid
  rw [show ko + 0 * 5 = ko by omega] at k4
  obtain ⟨X, hX⟩ : ∃ X, resB c ks 0 c.lit = X := ⟨_, rfl⟩
  rw [hX] at hR2
  have hiq : (0 : Int) < qn := by have := HQN.out; omega
  have hiq' : 0 < qn := by have := HQN.out; omega
  have hres : ∀ (W : World), Below w.heap.size w W → Calls Tryz.prog 79 #[.pointer (some ⟨b, 0, none⟩), .int .i64 0, .int .i64 c.lit] W (BoolPost W (resB c ks 0 c.lit)) := fun (W : World) (hb : Below w.heap.size w W) => residualk_any b keep _ _ _ _ c ks vs 0 c.lit W (HC.out.below hb) (by omega) (by omega) hil hsc
  rw [hX] at hres
  have HRES := Lib.hid hres
  have H1 := Lib.hid h1
  have H2 := Lib.hid h2
  clear hres hX hkg hkid hcl hks hsc hsk hrv h1 HC HQN hvs h2
  rcases X with _ | _
  · rw [if_pos (.inr (.inr (.inr rfl)))] at hR2
    subst hR2
    go_enter Tryz.func56, Tryz.ntmps56
    go_wp2_with fail
    refine HVA.out.mono ?_
    rintro e w2 ⟨rfl, hw2⟩
    subst hw2
    go_wp2_with fail
    refine HKP.out.mono ?_
    rintro e w3 ⟨pv, rfl, hp, hb3⟩
    obtain ⟨pa, pc, rfl, _⟩ := hp.form
    have HB3 := Lib.hid hb3
    have y3 := below_c hb3 hlt c3
    have y6 := below_c hb3 hlt c6
    rw [HL.out]
    clear hp hb3
    go_wp2_with fail
    refine (HRES.out _ HB3.out).mono ?_
    rintro e w4 ⟨rfl, hb4⟩
    have HB4 := Lib.hid (HB3.out.trans (hb4.mono HB3.out.size))
    clear hb4
    go_wp2_with fail
    go_ret
    exact ⟨rfl, HB4.out⟩
  · rw [if_neg (by rintro (h | h | h | h); exact h0 h; exact h H1.out; exact H2.out h; cases h)] at hR2
    have HR2 := Lib.hid hR2
    clear hR2
    go_enter Tryz.func56, Tryz.ntmps56
    go_wp2_with fail
    refine HVA.out.mono ?_
    rintro e w2 ⟨rfl, hw2⟩
    subst hw2
    go_wp2_with fail
    refine HKP.out.mono ?_
    rintro e w3 ⟨pv, rfl, hp, hb3⟩
    obtain ⟨pa, pc, rfl, _⟩ := hp.form
    have HB3 := Lib.hid hb3
    have y3 := below_c hb3 hlt c3
    have y6 := below_c hb3 hlt c6
    rw [HL.out]
    clear hp hb3
    go_wp2_with fail
    refine (HRES.out _ HB3.out).mono ?_
    rintro e w4 ⟨rfl, hb4⟩
    have HB4 := Lib.hid (HB3.out.trans (hb4.mono HB3.out.size))
    have z5 := below_c HB4.out hlt c5
    have z6 := below_c HB4.out hlt c6
    have z4 := below_c HB4.out hkb k4
    clear hb4
    by_cases q1 : kid.count = 1
    · have q1' : (kid.count == 1) = true := by simp; exact q1
      have hF := HR2.out
      rw [q1', Bool.true_and] at hF
      have HF := Lib.hid hF
      clear hF HR2 q1
      go_wp2_with fail
      go_ret
      exact ⟨by rw [← HF.out]; rfl, HB4.out⟩
    · have q1' : (kid.count == 1) = false := by simp; exact q1
      have hF := HR2.out
      rw [q1', Bool.false_and] at hF
      have HF := Lib.hid hF
      clear hF HR2 q1
      go_wp2_with fail
      go_ret
      exact ⟨by rw [← HF.out]; rfl, HB4.out⟩

set_option maxRecDepth 100000 in
set_option maxHeartbeats 4000000 in
theorem both_any (b : Nat) (keep : Int) (cv kv qv vv : Value) (c : Claim) (ks : List Claim) (vs : List Int) (w : World) (hc : Ckr w b keep cv kv qv vv c ks vs) (hr : RuleOk c ks vs) :
    Calls Tryz.prog 57 #[.pointer (some ⟨b, 0, none⟩)] w (BoolPost w (bothM c ks vs)) := by
  obtain ⟨hsc, hsk, hrv, hvl, hkl⟩ := hr
  have hlt := hc.lt
  obtain ⟨⟨c0, c1, _, c3, _, c5, c6, c7⟩, hcl, hks, hvs, hil, _, _⟩ := id hc
  have HVA := Lib.hid (variable_any b c.lit vv vs w c3 c7 hvs hrv)
  obtain ⟨R, hR⟩ : ∃ R, bothM c ks vs = R := ⟨_, rfl⟩
  have hR2 := hR
  unfold bothM at hR2
  have hvr := varK_range (lit := c.lit) hrv
  obtain ⟨V, hV⟩ : ∃ V, varK c.lit vs = V := ⟨_, rfl⟩
  rw [hV] at hR2 HVA hvr
  rw [hR]
  obtain ⟨ca, cn, cc, rfl, _, _⟩ := hcl.form'
  obtain ⟨qa, qn, qc, rfl, HQN, hqn⟩ := hks.form
  obtain ⟨va, vn, vc, rfl, _, _⟩ := hvs.form'
  have HC := Lib.hid hc
  obtain ⟨hv0, hv1⟩ := hvr
  have hwn : IntKind.i64.wrap (-V) = -V := IntWalk.i64_in _ ⟨by omega, by omega⟩
  clear hR hV hc
  by_cases h0 : V = 0
  · subst h0
    rw [if_pos (.inl rfl)] at hR2
    subst hR2
    clear hcl hks hsc hsk hrv hvs
    go_enter Tryz.func57, Tryz.ntmps57
    go_wp2_with fail
    refine HVA.out.mono ?_
    rintro e w2 ⟨rfl, hw2⟩
    subst hw2
    go_wp2_with fail
    go_ret
    exact ⟨rfl, Below.refl _ _⟩
  have e0 : (V == 0) = false := by simp; exact h0
  by_cases h1 : c.lit = V
  case neg =>
    rw [if_pos (.inr (.inl h1))] at hR2
    subst hR2
    have e1 : (c.lit != V) = true := by simp; exact h1
    clear hcl hks hsc hsk hrv h1 hvs
    go_enter Tryz.func57, Tryz.ntmps57
    go_wp2_with fail
    refine HVA.out.mono ?_
    rintro e w2 ⟨rfl, hw2⟩
    subst hw2
    go_wp2_with fail
    go_ret
    exact ⟨rfl, Below.refl _ _⟩
  have e1 : (c.lit != V) = false := by simp; exact h1
  by_cases h2 : ks.length = 2
  case neg =>
    rw [if_pos (.inr (.inr (.inl h2)))] at hR2
    subst hR2
    have e2 : ((qn : Int) != 2) = true := by simp; have := HQN.out; omega
    clear hcl hks hsc hsk hrv h1 hvs h2
    go_enter Tryz.func57, Tryz.ntmps57
    go_wp2_with fail
    refine HVA.out.mono ?_
    rintro e w2 ⟨rfl, hw2⟩
    subst hw2
    go_wp2_with fail
    go_ret
    exact ⟨rfl, Below.refl _ _⟩
  have e2 : ((qn : Int) != 2) = false := by simp; have := HQN.out; omega
  obtain ⟨k0, k1, rfl⟩ := two_kids h2
  obtain ⟨kb, ko, _, _, rfl, _, hkb, _, _, _, _, k4, _⟩ := hks.at (k := 0) (c := k0) rfl
  obtain ⟨kb', ko', _, _, he, _, _, _, _, _, _, j4, _⟩ := hks.at (k := 1) (c := k1) rfl
  injection he with he
  injection he with he1 he2
  subst he1 he2
  rw [show ko + 0 * 5 = ko by omega] at k4
  rw [show ko + 1 * 5 = ko + 5 by omega] at j4
  obtain ⟨X, hX⟩ : ∃ X, resB c [k0, k1] 0 (-V) = X := ⟨_, rfl⟩
  obtain ⟨Y, hY⟩ : ∃ Y, resB c [k0, k1] 1 V = Y := ⟨_, rfl⟩
  rw [hX, hY] at hR2
  have hR3 : R = (if X = false ∨ Y = false then false else (k0.count == 0) && ((k1.count == 0) && (c.count == 0))) := by
    rw [← hR2]
    by_cases hx : X = false ∨ Y = false
    · rw [if_pos hx, if_pos (.inr (.inr (.inr hx)))]
    · rw [if_neg hx, if_neg (by rintro (h | h | h | h); exact h0 h; exact h h1; exact h rfl; exact hx h)]
      rfl
  have HR3 := Lib.hid hR3
  have hiq : (1 : Int) < qn := by have := HQN.out; simp at this; omega
  have hiq' : 1 < qn := by omega
  have hres0 : ∀ (W : World), Below w.heap.size w W → Calls Tryz.prog 79 #[.pointer (some ⟨b, 0, none⟩), .int .i64 0, .int .i64 (-V)] W (BoolPost W (resB c [k0, k1] 0 (-V))) := fun (W : World) (hb : Below w.heap.size w W) => residualk_any b keep _ _ _ _ c _ vs 0 (-V) W (HC.out.below hb) (by simp) (by omega) ⟨by omega, by omega⟩ hsc
  have hres1 : ∀ (W : World), Below w.heap.size w W → Calls Tryz.prog 79 #[.pointer (some ⟨b, 0, none⟩), .int .i64 1, .int .i64 V] W (BoolPost W (resB c [k0, k1] 1 V)) := fun (W : World) (hb : Below w.heap.size w W) => residualk_any b keep _ _ _ _ c _ vs 1 V W (HC.out.below hb) (by simp) (by omega) ⟨by omega, by omega⟩ hsc
  rw [hX] at hres0
  rw [hY] at hres1
  have HRES0 := Lib.hid hres0
  have HRES1 := Lib.hid hres1
  clear hres0 hres1 hX hY hcl hks hsc hsk hrv h1 HC HQN hvs h2 hR2 hR3
  go_enter Tryz.func57, Tryz.ntmps57
  go_wp2_with fail
  refine HVA.out.mono ?_
  rintro e w2 ⟨rfl, hw2⟩
  subst hw2
  go_wp2_with fail
  refine (HRES0.out _ (Below.refl _ _)).mono ?_
  rintro e w3 ⟨rfl, hb3⟩
  have HB3 := Lib.hid hb3
  clear hb3
  rcases X with _ | _
  · have hF : R = false := by rw [HR3.out, if_pos (.inl rfl)]
    subst hF
    go_wp2_with fail
    go_ret
    exact ⟨rfl, HB3.out⟩
  go_wp2_with fail
  refine (HRES1.out _ HB3.out).mono ?_
  rintro e w4 ⟨rfl, hb4⟩
  have HB4 := Lib.hid (HB3.out.trans (hb4.mono HB3.out.size))
  have z5 := below_c HB4.out hlt c5
  have z6 := below_c HB4.out hlt c6
  have z4 := below_c HB4.out hkb k4
  have y4 := below_c HB4.out hkb j4
  clear hb4
  rcases Y with _ | _
  · have hF : R = false := by rw [HR3.out, if_pos (.inr rfl)]
    subst hF
    go_wp2_with fail
    go_ret
    exact ⟨rfl, HB4.out⟩
  have hF : R = ((k0.count == 0) && ((k1.count == 0) && (c.count == 0))) := by rw [HR3.out, if_neg (by simp)]
  by_cases q1 : k0.count = 0
  case neg =>
    have q1' : (k0.count == 0) = false := by simp; exact q1
    rw [q1', Bool.false_and] at hF
    subst hF
    clear q1
    go_wp2_with fail
    go_ret
    exact ⟨rfl, HB4.out⟩
  have q1' : (k0.count == 0) = true := by simp; exact q1
  rw [q1', Bool.true_and] at hF
  by_cases q2 : k1.count = 0
  case neg =>
    have q2' : (k1.count == 0) = false := by simp; exact q2
    rw [q2', Bool.false_and] at hF
    subst hF
    clear q1 q2
    go_wp2_with fail
    go_ret
    exact ⟨rfl, HB4.out⟩
  have q2' : (k1.count == 0) = true := by simp; exact q2
  rw [q2', Bool.true_and] at hF
  have HF := Lib.hid hF
  clear q1 q2 hF HR3
  go_wp2_with fail
  go_ret
  exact ⟨by rw [HF.out]; rfl, HB4.out⟩

/- (Trace seat) Walk: decide of the checker. No condition but the sizes and ranges. -/
open Go.ChangeShapes Go.WideShapes Go.ChangeAt Go.RowKit
set_option linter.unusedVariables false

set_option maxRecDepth 100000 in
set_option maxHeartbeats 4000000 in
theorem decide_any (b : Nat) (keep : Int) (cv kv qv vv : Value) (c : Claim) (ks : List Claim) (vs : List Int) (w : World) (hc : Ckr w b keep cv kv qv vv c ks vs) (hr : RuleOk c ks vs) :
    Calls Tryz.prog 54 #[.pointer (some ⟨b, 0, none⟩)] w (BoolPost w (decM keep c ks vs)) := by
  obtain ⟨hsc, hsk, hrv, hvl, hkl⟩ := hr
  have hlt := hc.lt
  obtain ⟨⟨c0, c1, _, c3, _, c5, c6, c7⟩, hcl, hks, hvs, hil, _, hik⟩ := id hc
  have HVA := Lib.hid (variable_any b c.lit vv vs w c3 c7 hvs hrv)
  obtain ⟨R, hR⟩ : ∃ R, decM keep c ks vs = R := ⟨_, rfl⟩
  have hR2 := hR
  unfold decM at hR2
  have hvr := varK_range (lit := c.lit) hrv
  obtain ⟨V, hV⟩ : ∃ V, varK c.lit vs = V := ⟨_, rfl⟩
  rw [hV] at hR2 HVA hvr
  rw [hR]
  obtain ⟨ca, cn, cc, rfl, _, _⟩ := hcl.form'
  obtain ⟨qa, qn, qc, rfl, HQN, hqn⟩ := hks.form
  obtain ⟨va, vn, vc, rfl, _, _⟩ := hvs.form'
  have HC := Lib.hid hc
  obtain ⟨hv0, hv1⟩ := hvr
  have hwn : IntKind.i64.wrap (-V) = -V := IntWalk.i64_in _ ⟨by omega, by omega⟩
  clear hR hV hc
  by_cases h0 : V = 0
  · subst h0
    rw [if_pos (.inl rfl)] at hR2
    subst hR2
    clear hcl hks hsc hsk hrv hvs
    go_enter Tryz.func54, Tryz.ntmps54
    go_wp2_with fail
    refine HVA.out.mono ?_
    rintro e w2 ⟨rfl, hw2⟩
    subst hw2
    go_wp2_with fail
    go_ret
    exact ⟨rfl, Below.refl _ _⟩
  have e0 : (V == 0) = false := by simp; exact h0
  by_cases h1 : c.lit = V
  case neg =>
    rw [if_pos (.inr (.inl h1))] at hR2
    subst hR2
    have e1 : (c.lit != V) = true := by simp; exact h1
    clear hcl hks hsc hsk hrv h1 hvs
    go_enter Tryz.func54, Tryz.ntmps54
    go_wp2_with fail
    refine HVA.out.mono ?_
    rintro e w2 ⟨rfl, hw2⟩
    subst hw2
    go_wp2_with fail
    go_ret
    exact ⟨rfl, Below.refl _ _⟩
  have e1 : (c.lit != V) = false := by simp; exact h1
  by_cases h3 : keep < V
  · rw [if_pos (.inr (.inr (.inl h3)))] at hR2
    subst hR2
    have e3 : decide (keep < V) = true := decide_eq_true h3
    clear hcl hks hsc hsk hrv h1 hvs h3
    go_enter Tryz.func54, Tryz.ntmps54
    go_wp2_with fail
    refine HVA.out.mono ?_
    rintro e w2 ⟨rfl, hw2⟩
    subst hw2
    go_wp2_with fail
    go_ret
    exact ⟨rfl, Below.refl _ _⟩
  have e3 : decide (keep < V) = false := decide_eq_false h3
  by_cases h2 : ks.length = 2
  case neg =>
    rw [if_pos (.inr (.inr (.inr (.inl h2))))] at hR2
    subst hR2
    have e2 : ((qn : Int) != 2) = true := by simp; have := HQN.out; omega
    clear hcl hks hsc hsk hrv h1 hvs h2 h3
    go_enter Tryz.func54, Tryz.ntmps54
    go_wp2_with fail
    refine HVA.out.mono ?_
    rintro e w2 ⟨rfl, hw2⟩
    subst hw2
    go_wp2_with fail
    go_ret
    exact ⟨rfl, Below.refl _ _⟩
  have e2 : ((qn : Int) != 2) = false := by simp; have := HQN.out; omega
  obtain ⟨k0, k1, rfl⟩ := two_kids h2
  have hm0 := hsk k0 (by simp)
  have hm1 := hsk k1 (by simp)
  obtain ⟨kb, ko, kcv, kkv, rfl, _, hkb, x0, x1, x2, x3, x4, ⟨⟨hkcl, _, _, hkki, _⟩, _⟩⟩ := hks.at (k := 0) (c := k0) rfl
  obtain ⟨kb', ko', jcv, jkv, he, _, _, y0, y1, y2, y3, y4, ⟨⟨hjcl, _, _, hjki, _⟩, _⟩⟩ := hks.at (k := 1) (c := k1) rfl
  injection he with he
  injection he with he1 he2
  subst he1 he2
  rw [show ko + 0 * 5 = ko by omega] at x0 x1 x2 x3 x4
  rw [show ko + 1 * 5 = ko + 5 by omega] at y0 y1 y2 y3 y4
  rw [show ko + 5 + 1 = ko + 6 by omega] at y1
  rw [show ko + 5 + 2 = ko + 7 by omega] at y2
  rw [show ko + 5 + 3 = ko + 8 by omega] at y3
  rw [show ko + 5 + 4 = ko + 9 by omega] at y4
  obtain ⟨ka, kn, kc, rfl, _, _⟩ := hkcl.form'
  obtain ⟨kka, kkn, kkc, rfl, _, _⟩ := hkki.form'
  obtain ⟨ja, jn, jc, rfl, _, _⟩ := hjcl.form'
  obtain ⟨jja, jjn, jjc, rfl, _, _⟩ := hjki.form'
  obtain ⟨X, hX⟩ : ∃ X, resB c [k0, k1] 0 (-V) = X := ⟨_, rfl⟩
  obtain ⟨Y, hY⟩ : ∃ Y, resB c [k0, k1] 1 V = Y := ⟨_, rfl⟩
  rw [hX, hY] at hR2
  obtain ⟨L0, hL0⟩ : ∃ L, lostM V (keptM keep vs) (occM k0.cls) = L := ⟨_, rfl⟩
  obtain ⟨L1, hL1⟩ : ∃ L, lostM V (keptM keep vs) (occM k1.cls) = L := ⟨_, rfl⟩
  have hll0 : L0 ≤ 100000 := by rw [← hL0]; exact Nat.le_trans (lostM_le _ _ _) (Nat.le_trans (keptM_len _ _) hvl)
  have hll1 : L1 ≤ 100000 := by rw [← hL1]; exact Nat.le_trans (lostM_le _ _ _) (Nat.le_trans (keptM_len _ _) hvl)
  have hR3 : R = (if X = false ∨ Y = false then false else decide (0 ≤ dblM L0 k0.count) && (decide (0 ≤ dblM L1 k1.count) && (c.count == dblM L0 k0.count + dblM L1 k1.count))) := by
    rw [← hR2]
    by_cases hx : X = false ∨ Y = false
    · rw [if_pos hx, if_pos (.inr (.inr (.inr (.inr hx))))]
    · rw [if_neg hx, if_neg (by rintro (h | h | h | h | h); exact h0 h; exact h h1; exact h3 h; exact h rfl; exact hx h), ← hL0, ← hL1]
      rfl
  have HR3 := Lib.hid hR3
  have hiq : (1 : Int) < qn := by have := HQN.out; simp at this; omega
  have hiq' : 1 < qn := by omega
  have hiq0 : (0 : Int) < qn := by omega
  have hiq0' : 0 < qn := by omega
  have hres0 : ∀ (W : World), Below w.heap.size w W → Calls Tryz.prog 79 #[.pointer (some ⟨b, 0, none⟩), .int .i64 0, .int .i64 (-V)] W (BoolPost W (resB c [k0, k1] 0 (-V))) := fun (W : World) (hb : Below w.heap.size w W) => residualk_any b keep _ _ _ _ c _ vs 0 (-V) W (HC.out.below hb) (by simp) (by omega) ⟨by omega, by omega⟩ hsc
  have hres1 : ∀ (W : World), Below w.heap.size w W → Calls Tryz.prog 79 #[.pointer (some ⟨b, 0, none⟩), .int .i64 1, .int .i64 V] W (BoolPost W (resB c [k0, k1] 1 V)) := fun (W : World) (hb : Below w.heap.size w W) => residualk_any b keep _ _ _ _ c _ vs 1 V W (HC.out.below hb) (by simp) (by omega) ⟨by omega, by omega⟩ hsc
  have HKC := Lib.hid hkcl
  have HJC := Lib.hid hjcl
  have hlost0 := fun (W : World) (hb : Below w.heap.size w W) => lost_any b keep V c (.slice ka kn kc) (.slice kka kkn kkc) _ k0 vs W (below_c hb hlt c0) (below_c hb hlt c7) ((HC.out.below hb).2.2.2.1) hvl (HKC.out.below hb) hm0.1 ⟨by omega, by omega⟩
  have hlost1 := fun (W : World) (hb : Below w.heap.size w W) => lost_any b keep V c (.slice ja jn jc) (.slice jja jjn jjc) _ k1 vs W (below_c hb hlt c0) (below_c hb hlt c7) ((HC.out.below hb).2.2.2.1) hvl (HJC.out.below hb) hm1.1 ⟨by omega, by omega⟩
  rw [hX] at hres0
  rw [hY] at hres1
  rw [hL0] at hlost0
  rw [hL1] at hlost1
  have HRES0 := Lib.hid hres0
  have HRES1 := Lib.hid hres1
  have HLOST0 := Lib.hid hlost0
  have HLOST1 := Lib.hid hlost1
  obtain ⟨_, n00, n01⟩ := hm0
  obtain ⟨_, n10, n11⟩ := hm1
  have HN0 := Lib.hid (And.intro n00 n01)
  have HN1 := Lib.hid (And.intro n10 n11)
  have hdl0 := dblM_le L0 k0.count (by omega)
  have hdg0 := dblM_ge L0 k0.count n00
  have hdl1 := dblM_le L1 k1.count (by omega)
  have hdg1 := dblM_ge L1 k1.count n10
  have hd0 := fun W => doubled_any k0.count L0 W n00 n01 hll0
  have hd1 := fun W => doubled_any k1.count L1 W n10 n11 hll1
  generalize dblM L0 k0.count = D0 at *
  generalize dblM L1 k1.count = D1 at *
  have HD0 := Lib.hid hd0
  have HD1 := Lib.hid hd1
  clear hd0 hd1 hlost0 hlost1 hL0 hL1 hkcl hkki hjcl hjki hres0 hres1 hX hY hcl hks hsc hsk hrv h1 HQN hvs h2 h3 hR2 hR3 HKC HJC n00 n01 n10 n11 hll0 hll1
  go_enter Tryz.func54, Tryz.ntmps54
  go_wp2_with fail
  refine HVA.out.mono ?_
  rintro e w2 ⟨rfl, hw2⟩
  subst hw2
  go_wp2_with fail
  refine (HRES0.out _ (Below.refl _ _)).mono ?_
  rintro e w3 ⟨rfl, hb3⟩
  have HB3 := Lib.hid hb3
  clear hb3
  rcases X with _ | _
  · have hF : R = false := by rw [HR3.out, if_pos (.inl rfl)]
    subst hF
    go_wp2_with fail
    go_ret
    exact ⟨rfl, HB3.out⟩
  go_wp2_with fail
  refine (HRES1.out _ HB3.out).mono ?_
  rintro e w4 ⟨rfl, hb4⟩
  have HB4 := Lib.hid (HB3.out.trans (hb4.mono HB3.out.size))
  clear hb4
  rcases Y with _ | _
  · have hF : R = false := by rw [HR3.out, if_pos (.inr rfl)]
    subst hF
    go_wp2_with fail
    go_ret
    exact ⟨rfl, HB4.out⟩
  have hF : R = (decide (0 ≤ D0) && (decide (0 ≤ D1) && (c.count == D0 + D1))) := by rw [HR3.out, if_neg (by simp)]
  have HF := Lib.hid hF
  have HB5 : Hid (Below w2.heap.size w2 w4.drew) := Lib.hid HB4.out.drew
  have z6 := below_c HB4.out hlt c6
  have z0 := below_c HB4.out hkb x0
  have z1 := below_c HB4.out hkb x1
  have z2 := below_c HB4.out hkb x2
  have z3 := below_c HB4.out hkb x3
  have z4 := below_c HB4.out hkb x4
  have u0 := below_c HB4.out hkb y0
  have u1 := below_c HB4.out hkb y1
  have u2 := below_c HB4.out hkb y2
  have u3 := below_c HB4.out hkb y3
  have u4 := below_c HB4.out hkb y4
  clear hF HR3
  go_wp2_with fail
  go_region_held3 (fun w' => w'.cell? ⟨b, 6, none⟩ = some (.slice (some ⟨kb, ko, none⟩) qn qc) ∧ w'.cell? ⟨kb, ko, none⟩ = some (.slice ka kn kc) ∧ w'.cell? ⟨kb, ko + 1, none⟩ = some (.int .i64 k0.rule) ∧ w'.cell? ⟨kb, ko + 2, none⟩ = some (.int .i64 k0.lit) ∧ w'.cell? ⟨kb, ko + 3, none⟩ = some (.slice kka kkn kkc) ∧ w'.cell? ⟨kb, ko + 4, none⟩ = some (.int .i64 k0.count) ∧
      w'.cell? ⟨kb, ko + 5, none⟩ = some (.slice ja jn jc) ∧ w'.cell? ⟨kb, ko + 6, none⟩ = some (.int .i64 k1.rule) ∧ w'.cell? ⟨kb, ko + 7, none⟩ = some (.int .i64 k1.lit) ∧ w'.cell? ⟨kb, ko + 8, none⟩ = some (.slice jja jjn jjc) ∧ w'.cell? ⟨kb, ko + 9, none⟩ = some (.int .i64 k1.count))
    (first | exact ⟨z6, z0, z1, z2, z3, z4, u0, u1, u2, u3, u4⟩ | exact ⟨s6, s0, s1, s2, s3, s4, t0, t1, t2, t3, t4⟩ | go_keep)
    (first | (go_at_call 81; (first | (with_reducible refine (HLOST0.out _ HB5.out).mono ?_) | (with_reducible refine (HLOST1.out _ HB5.out).mono ?_)); rintro e w6 ⟨rfl, hb6⟩; have HB5 := Lib.hid (HB5.out.trans (hb6.mono HB5.out.size)); have s6 := below_c HB5.out hlt c6; have s0 := below_c HB5.out hkb x0; have s1 := below_c HB5.out hkb x1; have s2 := below_c HB5.out hkb x2; have s3 := below_c HB5.out hkb x3; have s4 := below_c HB5.out hkb x4; have t0 := below_c HB5.out hkb y0; have t1 := below_c HB5.out hkb y1; have t2 := below_c HB5.out hkb y2; have t3 := below_c HB5.out hkb y3; have t4 := below_c HB5.out hkb y4; clear hb6)
           | (go_at_call 80; (first | (with_reducible refine (HD0.out _).mono ?_) | (with_reducible refine (HD1.out _).mono ?_)); rintro e w7 ⟨rfl, hw7⟩; subst hw7))
  have s5 := below_c HB5.out hlt c5
  clear s6 s0 s1 s2 s3 s4 t0 t1 t2 t3 t4 z6 z0 z1 z2 z3 z4 u0 u1 u2 u3 u4 HD0 HD1 HLOST0 HLOST1 HRES0 HRES1 HB4 HB3
  by_cases q1 : 0 ≤ D0
  case neg =>
    have q1' : decide (0 ≤ D0) = false := decide_eq_false q1
    have hF := HF.out
    rw [q1', Bool.false_and] at hF
    subst hF
    clear q1
    go_wp2_with fail
    go_ret
    exact ⟨rfl, HB5.out⟩
  have q1' : decide (0 ≤ D0) = true := decide_eq_true q1
  by_cases q2 : 0 ≤ D1
  case neg =>
    have q2' : decide (0 ≤ D1) = false := decide_eq_false q2
    have hF := HF.out
    rw [q1', q2', Bool.true_and, Bool.false_and] at hF
    subst hF
    clear q2
    go_wp2_with fail
    go_ret
    exact ⟨rfl, HB5.out⟩
  have q2' : decide (0 ≤ D1) = true := decide_eq_true q2
  have hF := HF.out
  rw [q1', q2', Bool.true_and, Bool.true_and] at hF
  have HF2 := Lib.hid hF
  clear hF HF
  go_wp2_with fail
  go_ret
  exact ⟨by rw [HF2.out]; rfl, HB5.out⟩
end Go.Proofs.YtljaegmmfjllkaaGreatDoor
