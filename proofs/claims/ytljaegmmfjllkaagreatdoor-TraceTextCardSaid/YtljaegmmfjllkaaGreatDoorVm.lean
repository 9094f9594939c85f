/- (Trace seat) Walk: CheckClaim. No condition but the sizes. -/
import Derived.Test.YtljaegmmfjllkaaGreatDoorVz
import Derived.Test.YtljaegmmfjllkaaGreatDoorVh
import Derived.Test.YtljaegmmfjllkaaGreatDoorKu
namespace Go.Proofs.YtljaegmmfjllkaaGreatDoor
open Go.ChangeShapes Go.WideShapes Go.ChangeAt Go.RowKit
set_option linter.unusedVariables false
set_option linter.unusedSimpArgs false

set_option maxRecDepth 100000 in
set_option maxHeartbeats 8000000 in
theorem cc_any (keep i : Int) (tv : Value) (ts : List Claim) (w : World) (hx : Claims (fun _ => True) w tv ts) (hik : I64 keep) (hii : I64 i) (hsz : ∀ c ∈ ts, SzC c) (hl : ts.length ≤ 4000) :
    Calls Tryz.prog 15 #[.int .i64 keep, .agg #[tv], .int .i64 i] w (CodePost w (ccM keep ts i)) := by
  obtain ⟨ta, tn, tc, rfl, HTN, htn⟩ := hx.form
  obtain ⟨tb, htb⟩ : ∃ b, w.heap.size = b := ⟨_, rfl⟩
  obtain ⟨W1, hW1⟩ : ∃ W, w.alloc (.cells #[.slice ta tn tc] 24) = W := ⟨_, rfl⟩
  have hb1 : Below w.heap.size w W1 := by rw [← hW1]; exact (Below.refl _ _).alloc (Nat.le_refl _) _
  have hs1 : W1.heap.size = tb + 1 := by rw [← hW1]; simp; omega
  have t0 : W1.cell? ⟨tb, 0, none⟩ = some (.slice ta tn tc) := by rw [← htb, ← hW1, cell_of_row _ _ _ _ _ _ (new_at _ _)]; rfl
  obtain ⟨R, hR⟩ : ∃ R, ccM keep ts i = R := ⟨_, rfl⟩
  have hR2 := hR
  unfold ccM at hR2
  rw [hR]
  have HB1 := Lib.hid hb1
  have HW1 := Lib.hid hW1
  have HTB := Lib.hid htb
  have HX := Lib.hid hx
  have HX1 := Lib.hid (hx.below hb1)
  have HSZ := Lib.hid hsz
  have HIK := Lib.hid hik
  have hn4 : tn ≤ 4000 := by rw [HTN.out]; exact hl
  clear hR hx hsz hW1 hb1 htb hik hl
  by_cases h1 : keep < 0
  · rw [if_pos (.inl h1)] at hR2
    subst hR2
    have d1 : decide (keep < 0) = true := decide_eq_true h1
    go_enter Tryz.func15, Tryz.ntmps15
    go_wp2_with fail
    rw [HW1.out]
    go_ret
    exact ⟨rfl, HB1.out⟩
  have d1 : decide (keep < 0) = false := decide_eq_false h1
  by_cases h2 : 40 < keep
  · rw [if_pos (.inr (.inl h2))] at hR2
    subst hR2
    have d2 : decide (40 < keep) = true := decide_eq_true h2
    go_enter Tryz.func15, Tryz.ntmps15
    go_wp2_with fail
    rw [HW1.out]
    go_ret
    exact ⟨rfl, HB1.out⟩
  have d2 : decide (40 < keep) = false := decide_eq_false h2
  by_cases h3 : i < 0
  · rw [if_pos (.inr (.inr (.inl h3)))] at hR2
    subst hR2
    have d3 : decide (i < 0) = true := decide_eq_true h3
    go_enter Tryz.func15, Tryz.ntmps15
    go_wp2_with fail
    rw [HW1.out]
    go_ret
    exact ⟨rfl, HB1.out⟩
  have d3 : decide (i < 0) = false := decide_eq_false h3
  by_cases h4 : (tn : Int) ≤ i
  · rw [if_pos (.inr (.inr (.inr (by rw [← HTN.out]; exact h4))))] at hR2
    subst hR2
    have d4 : decide ((tn : Int) ≤ i) = true := decide_eq_true h4
    go_enter Tryz.func15, Tryz.ntmps15
    go_wp2_with fail
    rw [HW1.out]
    go_ret
    exact ⟨rfl, HB1.out⟩
  have d4 : decide ((tn : Int) ≤ i) = false := decide_eq_false h4
  rw [if_neg (by rintro (h | h | h | h); exact h1 h; exact h2 h; exact h3 h; exact h4 (by rw [HTN.out]; exact h))] at hR2
  obtain ⟨m, rfl⟩ : ∃ m : Nat, i = m := ⟨i.toNat, by omega⟩
  have hm : m < tn := by omega
  obtain ⟨c, hc⟩ : ∃ c, ts[m]? = some c := ⟨_, List.getElem?_eq_getElem (by rw [← HTN.out]; exact hm)⟩
  have hcg : ts.getD m clNil = c := by rw [List.getD_eq_getElem?_getD, hc]; rfl
  rw [show ((m : Nat) : Int).toNat = m by omega, hcg] at hR2
  obtain ⟨hsc1, hsc2, hsc3⟩ := HSZ.out c (List.mem_of_getElem? hc)
  obtain ⟨xb, xo, cv, kv, rfl, _, hxb0, j0, j1, j2, j3, j4, hcv0⟩ := HX.out.at hc
  have k0 := below_c HB1.out hxb0 j0
  have k1 := below_c HB1.out hxb0 j1
  have k2 := below_c HB1.out hxb0 j2
  have k3 := below_c HB1.out hxb0 j3
  have k4 := below_c HB1.out hxb0 j4
  have hcv := hcv0.below HB1.out
  have HCV0 := Lib.hid hcv0.lt
  have hxb := Nat.lt_of_lt_of_le hxb0 HB1.out.size
  obtain ⟨⟨hcl, _, _, hki, _⟩, hir, hil, hic⟩ := id hcv
  obtain ⟨ca, cn, cc, rfl, _, _⟩ := hcl.form'
  obtain ⟨ka, kn, kc, rfl, HKN, hkn⟩ := hki.form'
  obtain ⟨W2, hW2⟩ : ∃ W, W1.alloc (.cells #[.int .i64 keep, .slice ca cn cc, .int .i64 c.rule, .int .i64 c.lit, .slice ka kn kc, .int .i64 c.count, .slice none 0 0, .slice none 0 0] 75) = W := ⟨_, rfl⟩
  have hb2 : Below W1.heap.size W1 W2 := by rw [← hW2]; exact (Below.refl _ _).alloc (Nat.le_refl _) _
  have hs2 : W2.heap.size = tb + 1 + 1 := by rw [← hW2]; simp; omega
  have hrow : W2.heap[tb + 1]? = some (.cells #[.int .i64 keep, .slice ca cn cc, .int .i64 c.rule, .int .i64 c.lit, .slice ka kn kc, .int .i64 c.count, .slice none 0 0, .slice none 0 0] 75) := by rw [← hW2]; exact new_at' _ _ hs1.symm
  have hcell : ∀ o v, #[Value.int .i64 keep, .slice ca cn cc, .int .i64 c.rule, .int .i64 c.lit, .slice ka kn kc, .int .i64 c.count, .slice none 0 0, .slice none 0 0][o]? = some v → W2.cell? ⟨tb + 1, o, none⟩ = some v := fun o v h => by rw [cell_of_row _ _ _ _ _ _ hrow]; exact h
  have g0 := hcell 0 _ rfl
  have g1 := hcell 1 _ rfl
  have g2 := hcell 2 _ rfl
  have g3 := hcell 3 _ rfl
  have g4 := hcell 4 _ rfl
  have g5 := hcell 5 _ rfl
  have g6 := hcell 6 _ rfl
  have g7 := hcell 7 _ rfl
  have gf : ∀ o, W2.frozen? ⟨tb + 1, o, none⟩ = false := fun o => by simp only [World.frozen?, hrow]; simp
  have t02 := below_c hb2 (by omega) t0
  have hca := canonical_trace _ _ c.cls W2 (hcl.below hb2) hsc1 hsc2
  have HCA := Lib.hid hca
  have HGF := Lib.hid gf
  have HW2 := Lib.hid hW2
  have HB2 : Hid (Below w.heap.size w W2) := Lib.hid (HB1.out.trans (hb2.mono HB1.out.size))
  have HCL := Lib.hid (hcl.below hb2)
  have HKI := Lib.hid (hki.below hb2)
  have HCV := Lib.hid (hcv.below hb2)
  have HX2 := Lib.hid (HX1.out.below hb2)
  have hkn4 : kn ≤ 4000 := by rw [HKN.out]; exact hsc3
  obtain ⟨C, hC⟩ : ∃ C, canB c.cls = C := ⟨_, rfl⟩
  rw [hC] at hR2 HCA
  have hm0 : (0 : Int) ≤ m := by omega
  have hmi : (m : Int) < tn := by omega
  have HS1 := Lib.hid hs1
  clear hcv0 j0 j1 j2 j3 j4 hC hca gf hW2 hb2 hcl hki hcv hcell hrow hcg hc HX1 hs1
  rcases bool2 C with rfl | rfl
  case inr =>
    rw [if_pos rfl] at hR2
    subst hR2
    go_enter Tryz.func15, Tryz.ntmps15
    go_upto_region 3 with fail
    rw [HW1.out, HTB.out]
    go_wp2_with fail
    rw [HW2.out, HS1.out]
    refine HCA.out.mono ?_
    rintro e w3 ⟨rfl, hb3⟩
    have HB3 := Lib.hid (HB2.out.trans (hb3.mono HB2.out.size))
    clear hb3
    go_wp2_with fail
    go_ret
    exact ⟨rfl, HB3.out⟩
  rw [if_neg (by simp)] at hR2
  obtain ⟨VS, hVS⟩ : ∃ VS, occM c.cls = VS := ⟨_, rfl⟩
  obtain ⟨L, hL⟩ : ∃ L, (keptM keep VS).length = L := ⟨_, rfl⟩
  have hL40 : L ≤ 40 := by rw [← hL, ← hVS]; exact kept_le40 (by omega)
  have hvr : ∀ v ∈ VS, 1 ≤ v ∧ v ≤ 20000 := fun v hv => occM_range (by rw [hVS]; exact hv)
  have hvl : VS.length ≤ 20000 := nodup_bound (by rw [← hVS]; exact occM_nodup _) hvr
  obtain ⟨P, hP⟩ : ∃ P, 2 ^ L = P := ⟨_, rfl⟩
  have hP40 : P ≤ 1099511627776 := by rw [← hP]; exact (Nat.pow_le_pow_right (by omega) hL40 : 2 ^ L ≤ 2 ^ 40)
  have hsh : wrap64 (2 ^ L) = (P : Int) := by
    have : ((2 : Int) ^ L) = ((2 ^ L : Nat) : Int) := by simp
    rw [this, hP]
    exact IntWalk.wrap64_in _ ⟨by omega, by omega⟩
  have hsh2 : IntKind.i64.wrap (2 ^ L) = (P : Int) := wrap_pow hP hP40
  rw [hVS, hL] at hR2
  have hPI : ((2 : Int) ^ L) = (P : Int) := by rw [← hP]; simp
  rw [hPI] at hR2
  have HR2 := Lib.hid hR2
  have HVS := Lib.hid hVS
  have HL := Lib.hid hL
  have HVR := Lib.hid hvr
  clear hR2 hVS hL hvr hP hPI
  go_enter Tryz.func15, Tryz.ntmps15
  go_upto_region 3 with fail
  rw [HW1.out, HTB.out]
  go_wp2_with fail
  rw [HW2.out, HS1.out]
  refine HCA.out.mono ?_
  rintro e w3 ⟨rfl, hb3⟩
  have a0 := below_c hb3 (by omega) g0
  have a1 := below_c hb3 (by omega) g1
  have a2 := below_c hb3 (by omega) g2
  have a3 := below_c hb3 (by omega) g3
  have a4 := below_c hb3 (by omega) g4
  have a5 := below_c hb3 (by omega) g5
  have a6 := below_c hb3 (by omega) g6
  have a7 := below_c hb3 (by omega) g7
  have af : ∀ o, w3.frozen? ⟨tb + 1, o, none⟩ = false := fun o => below_z hb3 (by omega) (HGF.out o)
  have HAF := Lib.hid af
  have t03 := below_c hb3 (by omega) t02
  have HB3 := Lib.hid (HB2.out.trans (hb3.mono HB2.out.size))
  have HB23 := Lib.hid hb3
  have hoc := occur_any _ _ c.cls w3 (HCL.out.below hb3) hsc1 hsc2
  have HOC := Lib.hid hoc
  have hs3 := hb3.size
  clear hb3 hoc g0 g1 g2 g3 g4 g5 g6 g7 t02 HCA HGF af
  go_wp2_with fail
  refine HOC.out.mono ?_
  rintro e w4 ⟨ov, os, rfl, hos, hb4, hst, hmem⟩
  obtain rfl := occ_eq hst hmem
  rw [HVS.out] at hos
  obtain ⟨va, vn, vc, rfl, HVN, _⟩ := hos.form'
  have c0 := below_c hb4 (by omega) a0
  have c1 := below_c hb4 (by omega) a1
  have c2 := below_c hb4 (by omega) a2
  have c3 := below_c hb4 (by omega) a3
  have c4 := below_c hb4 (by omega) a4
  have c5 := below_c hb4 (by omega) a5
  have c6 := below_c hb4 (by omega) a6
  have c7 := below_c hb4 (by omega) a7
  have cf7 : w4.frozen? ⟨tb + 1, 7, none⟩ = false := below_z hb4 (by omega) (HAF.out 7)
  have cf6 : w4.frozen? ⟨tb + 1, 6, none⟩ = false := below_z hb4 (by omega) (HAF.out 6)
  have t04 := below_c hb4 (by omega) t03
  have HOS := Lib.hid hos
  have HB4 := Lib.hid (HB3.out.trans (hb4.mono HB3.out.size))
  have HB24 := Lib.hid (HB23.out.trans (hb4.mono HB23.out.size))
  have hs4 := hb4.size
  clear hos hb4 hst hmem HOC a0 a1 a2 a3 a4 a5 a6 a7 t03 HAF
  go_upto_region 7 with fail
  have e0 := set_ne (b' := tb + 1) (o' := 7) (u := .slice va vn vc) (.inr (by omega)) c0
  have e1 := set_ne (b' := tb + 1) (o' := 7) (u := .slice va vn vc) (.inr (by omega)) c1
  have e2 := set_ne (b' := tb + 1) (o' := 7) (u := .slice va vn vc) (.inr (by omega)) c2
  have e3 := set_ne (b' := tb + 1) (o' := 7) (u := .slice va vn vc) (.inr (by omega)) c3
  have e4 := set_ne (b' := tb + 1) (o' := 7) (u := .slice va vn vc) (.inr (by omega)) c4
  have e5 := set_ne (b' := tb + 1) (o' := 7) (u := .slice va vn vc) (.inr (by omega)) c5
  have e6 := set_ne (b' := tb + 1) (o' := 7) (u := .slice va vn vc) (.inr (by omega)) c6
  have e7 := set_eq (u := .slice va vn vc) c7
  have et := set_ne (b' := tb + 1) (o' := 7) (u := .slice va vn vc) (.inl (by omega)) t04
  obtain ⟨w5, hw5⟩ : ∃ W, w4.setCell ⟨tb + 1, 7, none⟩ (.slice va vn vc) = W := ⟨_, rfl⟩
  have ef : w5.frozen? ⟨tb + 1, 6, none⟩ = false := by rw [← hw5, World.frozen?_setCell]; exact cf6
  have hs5 : w5.heap.size = w4.heap.size := by rw [← hw5]; simp
  have HVSX : Hid (Ints (fun b => w3.heap.size ≤ b) w5 (.slice va vn vc) VS) := Lib.hid (HOS.out.move (w' := w5) fun b hb _ => by rw [← hw5]; exact Below.heap_setCell _ _ _ _ (by have : w3.heap.size ≤ b := hb; show b ≠ tb + 1; omega))
  have hvs5 : Ints (fun _ => True) w5 (.slice va vn vc) VS := (HOS.out.move (w' := w5) fun b hb _ => by rw [← hw5]; exact Below.heap_setCell _ _ _ _ (by have : w3.heap.size ≤ b := hb; show b ≠ tb + 1; omega)).mono fun _ _ => trivial
  have HB5 : Hid (Below w.heap.size w w5) := Lib.hid (by rw [← hw5]; exact HB4.out.setCell (by have := HTB.out; show w.heap.size ≤ tb + 1; omega) _)
  rw [hw5] at e0 e1 e2 e3 e4 e5 e6 e7 et ⊢
  have HVS5 := Lib.hid hvs5
  clear c0 c1 c2 c3 c4 c5 c6 c7 cf6 cf7 t04 hvs5 hw5 HOS
  have hblt : tb + 1 < w5.heap.size := by omega
  by_cases q1 : c.count < 0
  · have hR := HR2.out
    rw [if_pos (.inl q1)] at hR
    subst hR
    have q1' : decide (c.count < 0) = true := decide_eq_true q1
    go_quiet (fail)
    go_wp2_with fail
    go_ret
    exact ⟨rfl, below_drewN HB5.out _⟩
  have q1' : decide (c.count < 0) = false := decide_eq_false q1
  have hkp := kept_any _ (tb + 1) keep _ VS w5.drew e0 (HVS5.out.below (Below.refl _ _).drew) (by omega)
  have HKP := Lib.hid hkp
  clear hkp
  by_cases q2 : (P : Int) < c.count
  · have hR := HR2.out
    rw [if_pos (.inr q2)] at hR
    subst hR
    have q2' : decide ((P : Int) < c.count) = true := decide_eq_true q2
    go_region_held3 (fun w' => w'.cell? ⟨tb + 1, 5, none⟩ = some (.int .i64 c.count) ∧ w'.cell? ⟨tb + 1, 7, none⟩ = some (.slice va vn vc))
      (first | exact ⟨e5, e7⟩ | exact ⟨bb5, bb7⟩ | go_keep)
      (first | (go_at_call 35; refine HKP.out.mono ?_; rintro e w6 ⟨pv, rfl, hp, hb6⟩; obtain ⟨pa, pc, rfl, _⟩ := hp.form; rw [HL.out]; have hbd : Below w5.heap.size w5 w6 := ⟨hb6.os, hb6.tape, hb6.output, hb6.size, hb6.block⟩; have bb5 := below_c hbd hblt e5; have bb7 := below_c hbd hblt e7; have HB6 := Lib.hid (HB5.out.trans (hbd.mono HB5.out.size)); clear hp hb6 hbd) | fail)
    go_wp2_with fail
    go_ret
    exact ⟨rfl, HB6.out⟩
  have q2' : decide ((P : Int) < c.count) = false := decide_eq_false q2
  have hR3 := HR2.out
  rw [if_neg (by rintro (h | h); exact q1 h; exact q2 h)] at hR3
  have HR3 := Lib.hid hR3
  clear hR3 HR2 q1 q2
  go_region_held3 (fun w' => w'.cell? ⟨tb + 1, 5, none⟩ = some (.int .i64 c.count) ∧ w'.cell? ⟨tb + 1, 7, none⟩ = some (.slice va vn vc))
    (first | exact ⟨e5, e7⟩ | exact ⟨bb5, bb7⟩ | go_keep)
    (first | (go_at_call 35; refine HKP.out.mono ?_; rintro e w6 ⟨pv, rfl, hp, hb6⟩; obtain ⟨pa, pc, rfl, _⟩ := hp.form; rw [HL.out]; have hbd : Below w5.heap.size w5 w6 := ⟨hb6.os, hb6.tape, hb6.output, hb6.size, hb6.block⟩; have bb5 := below_c hbd hblt e5; have bb7 := below_c hbd hblt e7; have HBD := Lib.hid hbd; have HB6 := Lib.hid (HB5.out.trans (hbd.mono HB5.out.size)); clear hp hb6 hbd) | fail)
  have bb0 := below_c HBD.out hblt e0
  have bb1 := below_c HBD.out hblt e1
  have bb2 := below_c HBD.out hblt e2
  have bb3 := below_c HBD.out hblt e3
  have bb4 := below_c HBD.out hblt e4
  have bb6 := below_c HBD.out hblt e6
  have bbf := below_z HBD.out hblt ef
  have bbt := below_c HBD.out (by omega) et
  have HVSL : Hid (Ints (fun b => w3.heap.size ≤ b) w6 (.slice va vn vc) VS) := Lib.hid (HVSX.out.below HBD.out)
  have hs6 := HBD.out.size
  clear e0 e1 e2 e3 e4 e5 e6 e7 ef et HKP HVS5 HBD
  have HKN2 := HKN
  obtain ⟨KM, hKM⟩ : ∃ K, (c.kids.any fun k => decide (k < 0) || decide ((m : Int) ≤ k)) = K := ⟨_, rfl⟩
  have hR4 := HR3.out
  rw [hKM] at hR4
  have HR4 := Lib.hid hR4
  have HK0 : Hid (((c.kids.drop 0).any fun k => decide (k < 0) || decide ((m : Int) ≤ k)) = KM) := Lib.hid hKM
  have HG0 : Hid (w6.grownBy w6 (some (tb + 1))) := Lib.hid (World.grownBy.refl w6 _)
  have HO0 : Hid (KidsO w w6 w6.heap.size tb (.slice none 0 0) ((c.kids.take 0).map fun k => ts.getD k.toNat clNil)) := Lib.hid (KidsO.nil _ _ _ _)
  have HXL : Hid (Claims (fun b => b < tb) w (.slice (some ⟨xb, xo, none⟩) tn tc) ts) := Lib.hid (by
    obtain ⟨us, ⟨a, cap, l1, l2, l3⟩, h2, h3⟩ := HX.out
    refine ⟨us, ⟨a, cap, l1, l2, fun j u hu => ?_⟩, h2, fun j u c hu hc => by rw [← HTB.out]; exact (h3 j u c hu hc).lt⟩
    obtain ⟨b, off, f1, f2, f3⟩ := l3 j u hu
    exact ⟨b, off, f1, by rw [← HTB.out]; exact block_lt f3.1, f3⟩)
  have HKIL : Hid (Ints (fun b => b < tb) w (.slice ka kn kc) c.kids) := Lib.hid (by rw [← HTB.out]; exact HCV0.out.1.2.2.2.1)
  have HI5 := Lib.hid (show (Tryz.prog.info? 45).map (fun i => (i.zero, i.size, i.bytes)) = some (some (.agg #[.slice none 0 0, .int .i64 0, .int .i64 0, .slice none 0 0, .int .i64 0]), 5, 72) by kernel_rfl)
  have HBT : Hid (Below tb w w6) := Lib.hid (by rw [← HTB.out]; exact HB6.out)
  clear hKM hR4 HR3 HX2 HX
  go_wp2_with fail
  go_loopg [79] kn (fun gg u79 wx => ∃ (k : Nat) (qv : Value), k + gg = kn ∧ u79 = .int .i64 k ∧ Hid (w6.grownBy wx (some (tb + 1))) ∧ wx.cell? ⟨tb + 1, 6, none⟩ = some qv ∧ wx.frozen? ⟨tb + 1, 6, none⟩ = false ∧
    (wx.cell? ⟨tb + 1, 0, none⟩ = some (.int .i64 keep) ∧ wx.cell? ⟨tb + 1, 1, none⟩ = some (.slice ca cn cc) ∧ wx.cell? ⟨tb + 1, 2, none⟩ = some (.int .i64 c.rule) ∧ wx.cell? ⟨tb + 1, 3, none⟩ = some (.int .i64 c.lit) ∧ wx.cell? ⟨tb + 1, 4, none⟩ = some (.slice ka kn kc) ∧ wx.cell? ⟨tb + 1, 5, none⟩ = some (.int .i64 c.count) ∧ wx.cell? ⟨tb + 1, 7, none⟩ = some (.slice va vn vc)) ∧
    Hid (KidsO w wx w6.heap.size tb qv ((c.kids.take k).map fun k => ts.getD k.toNat clNil)) ∧ Hid (((c.kids.drop k).any fun k => decide (k < 0) || decide ((m : Int) ≤ k)) = KM))
  case atStart => exact ⟨0, _, by omega, rfl, HG0, bb6, bbf, ⟨bb0, bb1, bb2, bb3, bb4, bb5, bb7⟩, HO0, HK0⟩
  case round =>
  clear HG0 HO0 HK0 bb0 bb1 bb2 bb3 bb4 bb5 bb6 bb7 bbf
  obtain ⟨k, qv, hkg, rfl, HG, z6, zf, ⟨z0, z1, z2, z3, z4, z5, z7⟩, HO, HK⟩ := hrel
  have hsg := HG.out.size
  have hlow : ∀ b, b < tb → wr.heap[b]? = w.heap[b]? := fun b hb => (HG.out.block b (by omega) (fun e => by injection e with e; omega)).trans (HBT.out.block b hb)
  have HLOW := Lib.hid hlow
  have yt : wr.cell? ⟨tb, 0, none⟩ = some (.slice (some ⟨xb, xo, none⟩) tn tc) := grown_c2 HG.out (fun e => by injection e with e; omega) bbt
  clear hlow
  by_cases hk : k < kn
  · obtain ⟨x, hxk, ex⟩ := drop_at (xs := c.kids) (k := k) (by rw [← HKN2.out]; exact hk)
    have hki := HKIL.out.move (w' := wr) fun b hb _ => HLOW.out b hb
    obtain ⟨yb, yo, rfl, _, hyb, hcy, hyi⟩ := hki.at hxk
    have hdk : decide ((k : Int) < kn) = true := by simp; omega
    have hdk' : decide (k < kn) = true := decide_eq_true hk
    have hKx := HK.out
    rw [ex, List.any_cons] at hKx
    have HBW : Hid (Below w.heap.size w wr) := Lib.hid (by
      rw [HTB.out]
      exact ⟨HG.out.os.trans HBT.out.os, HG.out.tape.trans HBT.out.tape, HG.out.output.trans HBT.out.output, Nat.le_trans HBT.out.size HG.out.size, HLOW.out⟩)
    have HTK := Lib.hid (kidsM_take ts c.kids k x hxk)
    clear hki ex HK hxk
    by_cases q1 : x < 0
    · have q1' : decide (x < 0) = true := decide_eq_true q1
      rw [q1', Bool.true_or, Bool.true_or] at hKx
      subst hKx
      have hR := HR4.out
      rw [if_pos rfl] at hR
      subst hR
      go_wp2_with fail
      go_ret
      exact ⟨rfl, HBW.out⟩
    have q1' : decide (x < 0) = false := decide_eq_false q1
    by_cases q2 : (m : Int) ≤ x
    · have q2' : decide ((m : Int) ≤ x) = true := decide_eq_true q2
      rw [q2', Bool.or_true, Bool.true_or] at hKx
      subst hKx
      have hR := HR4.out
      rw [if_pos rfl] at hR
      subst hR
      go_wp2_with fail
      go_ret
      exact ⟨rfl, HBW.out⟩
    have q2' : decide ((m : Int) ≤ x) = false := decide_eq_false q2
    rw [q1', q2', Bool.or_false, Bool.false_or] at hKx
    have HKX := Lib.hid hKx
    obtain ⟨p, rfl⟩ : ∃ p : Nat, x = p := ⟨x.toNat, by omega⟩
    have hpm : p < m := by omega
    obtain ⟨kid, hkid⟩ : ∃ kk, ts[p]? = some kk := ⟨_, List.getElem?_eq_getElem (by rw [← HTN.out]; omega)⟩
    have hkg2 : ts.getD ((p : Nat) : Int).toNat clNil = kid := by rw [show ((p : Nat) : Int).toNat = p by omega, List.getD_eq_getElem?_getD, hkid]; rfl
    obtain ⟨xb', xo', kcv, kkv, he, hkbl, _, j0, j1, j2, j3, j4, hkv⟩ := HXL.out.at hkid
    injection he with he
    injection he with he1 he2
    subst he1 he2
    obtain ⟨ra, rn, rc, rfl, _, _⟩ := hkv.1.1.form'
    obtain ⟨sa, sn, sc, rfl, _, _⟩ := hkv.1.2.2.2.1.form'
    have l0 := (World.cell?_of_block (a := ⟨xb, xo + p * 5, none⟩) (HLOW.out xb hkbl)).trans j0
    have l1 := (World.cell?_of_block (a := ⟨xb, xo + p * 5 + 1, none⟩) (HLOW.out xb hkbl)).trans j1
    have l2 := (World.cell?_of_block (a := ⟨xb, xo + p * 5 + 2, none⟩) (HLOW.out xb hkbl)).trans j2
    have l3 := (World.cell?_of_block (a := ⟨xb, xo + p * 5 + 3, none⟩) (HLOW.out xb hkbl)).trans j3
    have l4 := (World.cell?_of_block (a := ⟨xb, xo + p * 5 + 4, none⟩) (HLOW.out xb hkbl)).trans j4
    obtain ⟨us, hown, hul, hel⟩ := HO.out
    obtain ⟨qa, qc, hqv⟩ := own_form hown
    have hlen : ((c.kids.take k).map fun k => ts.getD k.toNat clNil).length = k := by rw [List.length_map, List.length_take]; have := HKN2.out; omega
    rw [hlen] at hown hqv
    have HEL := Lib.hid hel
    have HUL := Lib.hid hul
    have HLEN := Lib.hid hlen
    have HKV := Lib.hid hkv
    have HKG := Lib.hid hkg2
    subst hqv
    have hob : ∀ b, (Value.slice qa k qc).ownBlock = some b → w6.heap.size ≤ b := fun b hb => (hown.lt b hb).1
    have HOB := Lib.hid hob
    have hpn : (p : Int) < tn := by omega
    have hp0 : (0 : Int) ≤ p := by omega
    have hpn' : p < tn := by omega
    have hw6g : tb + 1 < w6.heap.size := by omega
    have zfa : (wr.alloc (.cells #[.slice ra rn rc, .int .i64 kid.rule, .int .i64 kid.lit, .slice sa sn sc, .int .i64 kid.count] 45)).frozen? ⟨tb + 1, 6, none⟩ = false := below_z ((Below.refl wr.heap.size wr).alloc (Nat.le_refl _) _) (by omega) zf
    have zz6 := cell_alloc (.cells #[.slice ra rn rc, .int .i64 kid.rule, .int .i64 kid.lit, .slice sa sn sc, .int .i64 kid.count] 45) z6
    have hga : wr.grownBy (wr.alloc (.cells #[.slice ra rn rc, .int .i64 kid.rule, .int .i64 kid.lit, .slice sa sn sc, .int .i64 kid.count] 45)).drew none := ⟨rfl, rfl, rfl, by simp, fun b hb _ => Below.heap_alloc _ _ _ hb⟩
    have HGA := Lib.hid hga
    clear hga
    clear hel hul hlen hkv hkg2 hkid j0 j1 j2 j3 j4 hob hKx q1 q2 HO
    go_upto_region 14 with fail
    refine wp_region_held_drew (S := fun w' => w'.cell? ⟨tb, 0, none⟩ = some (.slice (some ⟨xb, xo, none⟩) tn tc) ∧ w'.cell? ⟨xb, xo + p * 5, none⟩ = some (.slice ra rn rc) ∧ w'.cell? ⟨xb, xo + p * 5 + 1, none⟩ = some (.int .i64 kid.rule) ∧ w'.cell? ⟨xb, xo + p * 5 + 2, none⟩ = some (.int .i64 kid.lit) ∧ w'.cell? ⟨xb, xo + p * 5 + 3, none⟩ = some (.slice sa sn sc) ∧ w'.cell? ⟨xb, xo + p * 5 + 4, none⟩ = some (.int .i64 kid.count)) (by kernel_rfl) (by exact ⟨yt, l0, l1, l2, l3, l4⟩) (fun hHeld => ?_)
    refine wpAnyH_take (i := 0) (v := ?_) rfl (by kernel_rfl) (by kernel_rfl) (by kernel_rfl) (fun _ _ _ h => h) (Or.inl ⟨by rfl, ?_⟩) (by assumption) ?_
    rotate_left
    · intro w hSw
      try dsimp only at hSw
      go_simp
      try with_reducible rfl
    try simp only [Act.put, List.getElem_toArray, List.getElem_cons_succ, List.getElem_cons_zero, List.setIfInBounds_toArray, List.set_cons_zero, List.set_cons_succ]
    refine wpAnyH_take (i := 1) (v := ?_) rfl (by kernel_rfl) (by kernel_rfl) (by kernel_rfl) (fun _ _ _ h => h) (Or.inl ⟨by rfl, ?_⟩) (by assumption) ?_
    rotate_left
    · intro w hSw
      try dsimp only at hSw
      go_simp
      try with_reducible rfl
    try simp only [Act.put, List.getElem_toArray, List.getElem_cons_succ, List.getElem_cons_zero, List.setIfInBounds_toArray, List.set_cons_zero, List.set_cons_succ]
    refine wpAnyH_take (i := 2) (v := ?_) rfl (by kernel_rfl) (by kernel_rfl) (by kernel_rfl) (fun _ _ _ h => h) (Or.inl ⟨by rfl, ?_⟩) (by assumption) ?_
    rotate_left
    · intro w hSw
      try dsimp only at hSw
      go_simp
      try with_reducible rfl
    try simp only [Act.put, List.getElem_toArray, List.getElem_cons_succ, List.getElem_cons_zero, List.setIfInBounds_toArray, List.set_cons_zero, List.set_cons_succ]
    refine wpAnyH_take (i := 3) (v := ?_) rfl (by kernel_rfl) (by kernel_rfl) (by kernel_rfl) (fun _ _ _ h => h) (Or.inl ⟨by rfl, ?_⟩) (by assumption) ?_
    rotate_left
    · intro w hSw
      try dsimp only at hSw
      go_simp
      try with_reducible rfl
    try simp only [Act.put, List.getElem_toArray, List.getElem_cons_succ, List.getElem_cons_zero, List.setIfInBounds_toArray, List.set_cons_zero, List.set_cons_succ]
    refine wpAnyH_take (i := 5) (v := ?_) rfl (by kernel_rfl) (by kernel_rfl) (by kernel_rfl) (fun _ _ _ h => h) (Or.inl ⟨by rfl, ?_⟩) (by assumption) ?_
    rotate_left
    · intro w hSw
      try dsimp only at hSw
      go_simp
      try with_reducible rfl
    try simp only [Act.put, List.getElem_toArray, List.getElem_cons_succ, List.getElem_cons_zero, List.setIfInBounds_toArray, List.set_cons_zero, List.set_cons_succ]
    refine wpAnyH_take (i := 6) (v := ?_) rfl (by kernel_rfl) (by kernel_rfl) (by kernel_rfl) (fun _ _ _ h => h) (Or.inl ⟨by rfl, ?_⟩) (by assumption) ?_
    rotate_left
    · intro w hSw
      try dsimp only at hSw
      go_simp
      try with_reducible rfl
    try simp only [Act.put, List.getElem_toArray, List.getElem_cons_succ, List.getElem_cons_zero, List.setIfInBounds_toArray, List.set_cons_zero, List.set_cons_succ]
    refine wpAnyH_take (i := 7) (v := ?_) rfl (by kernel_rfl) (by kernel_rfl) (by kernel_rfl) (fun _ _ _ h => h) (Or.inl ⟨by rfl, ?_⟩) (by assumption) ?_
    rotate_left
    · intro w hSw
      try dsimp only at hSw
      go_simp
      try with_reducible rfl
    try simp only [Act.put, List.getElem_toArray, List.getElem_cons_succ, List.getElem_cons_zero, List.setIfInBounds_toArray, List.set_cons_zero, List.set_cons_succ]
    refine wpAnyH_take (i := 8) (v := ?_) rfl (by kernel_rfl) (by kernel_rfl) (by kernel_rfl) (fun _ _ _ h => h) (Or.inl ⟨by rfl, ?_⟩) (by assumption) ?_
    rotate_left
    · intro w hSw
      try dsimp only at hSw
      go_simp
      try with_reducible rfl
    try simp only [Act.put, List.getElem_toArray, List.getElem_cons_succ, List.getElem_cons_zero, List.setIfInBounds_toArray, List.set_cons_zero, List.set_cons_succ]
    refine wpAnyH_take (i := 9) (v := ?_) rfl (by kernel_rfl) (by kernel_rfl) (by kernel_rfl) (fun _ _ _ h => h) (Or.inl ⟨by rfl, ?_⟩) (by assumption) ?_
    rotate_left
    · intro w hSw
      try dsimp only at hSw
      go_simp
      try with_reducible rfl
    try simp only [Act.put, List.getElem_toArray, List.getElem_cons_succ, List.getElem_cons_zero, List.setIfInBounds_toArray, List.set_cons_zero, List.set_cons_succ]
    refine wpAnyH_ready (rs := [4, 10]) (by kernel_rfl) (by simp) ?_
    refine AllReadyH.cons rfl (fun K hK => ?_) (AllReadyH.cons rfl (fun K hK => ?_) AllReadyH.nil)
    rotate_left
    · go_simp
      skip
      refine hK.out _ _ (by go_keep) (fun hHeld2 => ?_)
      clear hK K
      try simp only [Act.put, List.getElem_toArray, List.getElem_cons_succ, List.getElem_cons_zero, List.setIfInBounds_toArray, List.set_cons_zero, List.set_cons_succ]
      refine wpAnyH_ready (rs := [4]) (by kernel_rfl) (by simp) ?_
      refine AllReadyH.cons rfl (fun K hK => ?_) AllReadyH.nil
      go_simp
      refine hK.out _ _ (by go_keep) (fun hHeld2 => ?_)
      clear hK K
      try simp only [Act.put, List.getElem_toArray, List.getElem_cons_succ, List.getElem_cons_zero, List.setIfInBounds_toArray, List.set_cons_zero, List.set_cons_succ]
      refine wpAnyH_ready (rs := [11]) (by kernel_rfl) (by simp) ?_
      refine AllReadyH.cons rfl (fun K hK => ?_) AllReadyH.nil
      (refine step_push5 rfl _ _ 22 rfl 45 (.agg #[.slice none 0 0, .int .i64 0, .int .i64 0, .slice none 0 0, .int .i64 0]) 72 Tryz.underlying22 HI5.out rfl w6.heap.size (.slice qa k qc) k (cells5 us) wr.heap.size (.slice ra rn rc) (.int .i64 kid.rule) (.int .i64 kid.lit) (.slice sa sn sc) (.int .i64 kid.count) rfl rfl (by simp) (by simp) (by simp) (by simp) (by simp) (own_same (hown.alloc _) fun _ _ => rfl) rfl rfl rfl rfl rfl (by omega) (by omega) (by simp; omega) ?_; intro g9 cap9 w9 hown9 hg9 hat9; have hne9 : some (tb + 1) ≠ (Value.slice qa k qc).ownBlock := (fun e => by have := HOB.out _ e.symm; omega); have r6 := grown_c2 hg9 hne9 (cell_alloc _ z6); have r0 := grown_c2 hg9 hne9 (cell_alloc _ z0); have r1 := grown_c2 hg9 hne9 (cell_alloc _ z1); have r2 := grown_c2 hg9 hne9 (cell_alloc _ z2); have r3 := grown_c2 hg9 hne9 (cell_alloc _ z3); have r4 := grown_c2 hg9 hne9 (cell_alloc _ z4); have r5 := grown_c2 hg9 hne9 (cell_alloc _ z5); have r7 := grown_c2 hg9 hne9 (cell_alloc _ z7); have rf := (World.frozen?_of_block (a := ⟨tb + 1, 6, none⟩) (hg9.block (tb + 1) (by simp; omega) hne9)).trans zfa; have m0 := grown_c2 hg9 (fun e => by have := HOB.out _ e.symm; omega) (cell_alloc _ yt); have m1 := grown_c2 hg9 (fun e => by have := HOB.out _ e.symm; omega) (cell_alloc _ l0); have m2 := grown_c2 hg9 (fun e => by have := HOB.out _ e.symm; omega) (cell_alloc _ l1); have m3 := grown_c2 hg9 (fun e => by have := HOB.out _ e.symm; omega) (cell_alloc _ l2); have m4 := grown_c2 hg9 (fun e => by have := HOB.out _ e.symm; omega) (cell_alloc _ l3); have m5 := grown_c2 hg9 (fun e => by have := HOB.out _ e.symm; omega) (cell_alloc _ l4); have HG9 := Lib.hid hg9; have HO9 := Lib.hid hown9; clear hown9 hg9 hat9 hown z6 z0 z1 z2 z3 z4 z5 z7)
      refine hK.out _ _ (by exact ⟨m0, m1, m2, m3, m4, m5⟩) (fun hHeld2 => ?_)
      clear hK K
      try simp only [Act.put, List.getElem_toArray, List.getElem_cons_succ, List.getElem_cons_zero, List.setIfInBounds_toArray, List.set_cons_zero, List.set_cons_succ]
      refine wpAnyH_take (i := 12) (v := ?_) rfl (by kernel_rfl) (by kernel_rfl) (by kernel_rfl) (fun _ _ _ h => h) (Or.inl ⟨by rfl, ?_⟩) (by assumption) ?_
      rotate_left
      · intro w hSw
        try dsimp only at hSw
        go_simp
        try with_reducible rfl
      try simp only [Act.put, List.getElem_toArray, List.getElem_cons_succ, List.getElem_cons_zero, List.setIfInBounds_toArray, List.set_cons_zero, List.set_cons_succ]
      refine wpAnyH_take (i := 13) (v := ?_) rfl (by kernel_rfl) (by kernel_rfl) (by kernel_rfl) (fun _ _ _ h => h) (Or.inl ⟨by rfl, ?_⟩) (by assumption) ?_
      rotate_left
      · intro w hSw
        try dsimp only at hSw
        go_simp
        try with_reducible rfl
      try simp only [Act.put, List.getElem_toArray, List.getElem_cons_succ, List.getElem_cons_zero, List.setIfInBounds_toArray, List.set_cons_zero, List.set_cons_succ]
      refine wpAnyH_ready (rs := [14]) (by kernel_rfl) (by simp) ?_
      refine AllReadyH.cons rfl (fun K hK => ?_) AllReadyH.nil
      go_simp
      refine hK.out _ _ (by exact ⟨set_ne (.inl (by omega)) m0, set_ne (.inl (by omega)) m1, set_ne (.inl (by omega)) m2, set_ne (.inl (by omega)) m3, set_ne (.inl (by omega)) m4, set_ne (.inl (by omega)) m5⟩) (fun hHeld2 => ?_)
      clear hK K
      try simp only [Act.put, List.getElem_toArray, List.getElem_cons_succ, List.getElem_cons_zero, List.setIfInBounds_toArray, List.set_cons_zero, List.set_cons_succ]
      refine wpAnyH_done (by kernel_rfl) ?_ _
      go_wp2_with fail
      go_roundg (gk - 1)
      case measure => omega
      case rel =>
        have hgn : w6.grownBy w9 (some (tb + 1)) := grow_new (grow_new HG.out HGA.out (by simp)) HG9.out (fun b hb => .inr (HOB.out b hb))
        have hps := KidsO.push HUL.out HEL.out HKV.out (by rw [HLEN.out]; exact HO9.out)
        rw [HLEN.out, ← HKG.out, ← HTK.out] at hps
        exact ⟨k + 1, _, by omega, by go_num, Lib.hid (grow_new hgn (set_grown _ _ _ _) (fun b hb => by injection hb with hb; exact .inl hb.symm)), set_eq r6, by rw [World.frozen?_setCell]; exact rf,
          ⟨set_ne (.inr (by omega)) r0, set_ne (.inr (by omega)) r1, set_ne (.inr (by omega)) r2, set_ne (.inr (by omega)) r3, set_ne (.inr (by omega)) r4, set_ne (.inr (by omega)) r5, set_ne (.inr (by omega)) r7⟩, Lib.hid (hps.set _ hw6g), HKX⟩
    rotate_left
    · go_simp
      skip
      refine hK.out _ _ (by exact hHeld) (fun hHeld2 => ?_)
      clear hK K
      try simp only [Act.put, List.getElem_toArray, List.getElem_cons_succ, List.getElem_cons_zero, List.setIfInBounds_toArray, List.set_cons_zero, List.set_cons_succ]
      refine wpAnyH_ready (rs := [10]) (by kernel_rfl) (by simp) ?_
      refine AllReadyH.cons rfl (fun K hK => ?_) AllReadyH.nil
      go_simp
      refine hK.out _ _ (by go_keep) (fun hHeld2 => ?_)
      clear hK K
      try simp only [Act.put, List.getElem_toArray, List.getElem_cons_succ, List.getElem_cons_zero, List.setIfInBounds_toArray, List.set_cons_zero, List.set_cons_succ]
      refine wpAnyH_ready (rs := [11]) (by kernel_rfl) (by simp) ?_
      refine AllReadyH.cons rfl (fun K hK => ?_) AllReadyH.nil
      (refine step_push5 rfl _ _ 22 rfl 45 (.agg #[.slice none 0 0, .int .i64 0, .int .i64 0, .slice none 0 0, .int .i64 0]) 72 Tryz.underlying22 HI5.out rfl w6.heap.size (.slice qa k qc) k (cells5 us) wr.heap.size (.slice ra rn rc) (.int .i64 kid.rule) (.int .i64 kid.lit) (.slice sa sn sc) (.int .i64 kid.count) rfl rfl (by simp) (by simp) (by simp) (by simp) (by simp) (own_same (hown.alloc _) fun _ _ => rfl) rfl rfl rfl rfl rfl (by omega) (by omega) (by simp; omega) ?_; intro g9 cap9 w9 hown9 hg9 hat9; have hne9 : some (tb + 1) ≠ (Value.slice qa k qc).ownBlock := (fun e => by have := HOB.out _ e.symm; omega); have r6 := grown_c2 hg9 hne9 (cell_alloc _ z6); have r0 := grown_c2 hg9 hne9 (cell_alloc _ z0); have r1 := grown_c2 hg9 hne9 (cell_alloc _ z1); have r2 := grown_c2 hg9 hne9 (cell_alloc _ z2); have r3 := grown_c2 hg9 hne9 (cell_alloc _ z3); have r4 := grown_c2 hg9 hne9 (cell_alloc _ z4); have r5 := grown_c2 hg9 hne9 (cell_alloc _ z5); have r7 := grown_c2 hg9 hne9 (cell_alloc _ z7); have rf := (World.frozen?_of_block (a := ⟨tb + 1, 6, none⟩) (hg9.block (tb + 1) (by simp; omega) hne9)).trans zfa; have m0 := grown_c2 hg9 (fun e => by have := HOB.out _ e.symm; omega) (cell_alloc _ yt); have m1 := grown_c2 hg9 (fun e => by have := HOB.out _ e.symm; omega) (cell_alloc _ l0); have m2 := grown_c2 hg9 (fun e => by have := HOB.out _ e.symm; omega) (cell_alloc _ l1); have m3 := grown_c2 hg9 (fun e => by have := HOB.out _ e.symm; omega) (cell_alloc _ l2); have m4 := grown_c2 hg9 (fun e => by have := HOB.out _ e.symm; omega) (cell_alloc _ l3); have m5 := grown_c2 hg9 (fun e => by have := HOB.out _ e.symm; omega) (cell_alloc _ l4); have HG9 := Lib.hid hg9; have HO9 := Lib.hid hown9; clear hown9 hg9 hat9 hown z6 z0 z1 z2 z3 z4 z5 z7)
      refine hK.out _ _ (by exact ⟨m0, m1, m2, m3, m4, m5⟩) (fun hHeld2 => ?_)
      clear hK K
      try simp only [Act.put, List.getElem_toArray, List.getElem_cons_succ, List.getElem_cons_zero, List.setIfInBounds_toArray, List.set_cons_zero, List.set_cons_succ]
      refine wpAnyH_take (i := 12) (v := ?_) rfl (by kernel_rfl) (by kernel_rfl) (by kernel_rfl) (fun _ _ _ h => h) (Or.inl ⟨by rfl, ?_⟩) (by assumption) ?_
      rotate_left
      · intro w hSw
        try dsimp only at hSw
        go_simp
        try with_reducible rfl
      try simp only [Act.put, List.getElem_toArray, List.getElem_cons_succ, List.getElem_cons_zero, List.setIfInBounds_toArray, List.set_cons_zero, List.set_cons_succ]
      refine wpAnyH_take (i := 13) (v := ?_) rfl (by kernel_rfl) (by kernel_rfl) (by kernel_rfl) (fun _ _ _ h => h) (Or.inl ⟨by rfl, ?_⟩) (by assumption) ?_
      rotate_left
      · intro w hSw
        try dsimp only at hSw
        go_simp
        try with_reducible rfl
      try simp only [Act.put, List.getElem_toArray, List.getElem_cons_succ, List.getElem_cons_zero, List.setIfInBounds_toArray, List.set_cons_zero, List.set_cons_succ]
      refine wpAnyH_ready (rs := [14]) (by kernel_rfl) (by simp) ?_
      refine AllReadyH.cons rfl (fun K hK => ?_) AllReadyH.nil
      go_simp
      refine hK.out _ _ (by exact ⟨set_ne (.inl (by omega)) m0, set_ne (.inl (by omega)) m1, set_ne (.inl (by omega)) m2, set_ne (.inl (by omega)) m3, set_ne (.inl (by omega)) m4, set_ne (.inl (by omega)) m5⟩) (fun hHeld2 => ?_)
      clear hK K
      try simp only [Act.put, List.getElem_toArray, List.getElem_cons_succ, List.getElem_cons_zero, List.setIfInBounds_toArray, List.set_cons_zero, List.set_cons_succ]
      refine wpAnyH_done (by kernel_rfl) ?_ _
      go_wp2_with fail
      go_roundg (gk - 1)
      case measure => omega
      case rel =>
        have hgn : w6.grownBy w9 (some (tb + 1)) := grow_new (grow_new HG.out HGA.out (by simp)) HG9.out (fun b hb => .inr (HOB.out b hb))
        have hps := KidsO.push HUL.out HEL.out HKV.out (by rw [HLEN.out]; exact HO9.out)
        rw [HLEN.out, ← HKG.out, ← HTK.out] at hps
        exact ⟨k + 1, _, by omega, by go_num, Lib.hid (grow_new hgn (set_grown _ _ _ _) (fun b hb => by injection hb with hb; exact .inl hb.symm)), set_eq r6, by rw [World.frozen?_setCell]; exact rf,
          ⟨set_ne (.inr (by omega)) r0, set_ne (.inr (by omega)) r1, set_ne (.inr (by omega)) r2, set_ne (.inr (by omega)) r3, set_ne (.inr (by omega)) r4, set_ne (.inr (by omega)) r5, set_ne (.inr (by omega)) r7⟩, Lib.hid (hps.set _ hw6g), HKX⟩
  · obtain rfl : k = kn := by omega
    have hdk : decide ((k : Int) < k) = false := by simp
    have hdk' : decide (k < k) = false := decide_eq_false (by omega)
    have hKF : KM = false := by
      have := HK.out
      rw [List.drop_eq_nil_of_le (by rw [HKN2.out]; exact Nat.le_refl _), List.any_nil] at this
      exact this.symm
    subst hKF
    have hR5 := HR4.out
    rw [if_neg (by simp)] at hR5
    have hko := HO.out
    have htk : (c.kids.take k).map (fun k => ts.getD k.toNat clNil) = kidsM ts c := by rw [List.take_of_length_le (by rw [HKN2.out]; exact Nat.le_refl _)]; rfl
    rw [htk] at hko
    have hkl : (kidsM ts c).length ≤ 4000 := by unfold kidsM; rw [List.length_map]; exact hsc3
    have hkc := hko.claims HLOW.out (by omega)
    have hclw := HCV0.out.1.1
    have hck : Ckr wr (tb + 1) keep (.slice ca cn cc) (.slice ka k kc) qv (.slice va vn vc) c (kidsM ts c) VS := by
      refine ⟨⟨z0, z1, z2, z3, z4, z5, z6, z7⟩, ?_, hkc, ?_, hil, hic, HIK.out⟩
      · exact Rows1.mono (fun _ _ _ _ _ h hg => h.mono hg) (Rows1.move (fun _ _ _ _ _ h hm => h.move hm) hclw fun b hb _ => HLOW.out b (by rw [← HTB.out]; exact hb)) fun _ _ => trivial
      · exact (HVSL.out.move (w' := wr) fun b hb hlt => HG.out.block b hlt (fun e => by injection e with e; have : w3.heap.size ≤ b := hb; omega)).mono fun _ _ => trivial
    have hkz : ∀ x ∈ kidsM ts c, SzC x := fun x hx => by
      unfold kidsM at hx
      obtain ⟨y, hy, rfl⟩ := List.mem_map.1 hx
      have : ts.getD y.toNat clNil ∈ ts ∨ ts.getD y.toNat clNil = clNil := by
        rw [List.getD_eq_getElem?_getD]
        rcases h : ts[y.toNat]? with _ | z
        · exact .inr rfl
        · exact .inl (List.mem_of_getElem? h)
      rcases this with h | h
      · exact HSZ.out _ h
      · rw [h]; exact ⟨by simp [clNil], by simp [clNil], by simp [clNil]⟩
    have hfo := follows_any (tb + 1) keep _ _ _ _ c (kidsM ts c) VS wr hck hir ⟨hsc1, hsc2, hsc3⟩ hkz HVR.out (by omega) (by omega)
    have HFO := Lib.hid hfo
    have HBW : Hid (Below w.heap.size w wr) := Lib.hid (by
      rw [HTB.out]
      exact ⟨HG.out.os.trans HBT.out.os, HG.out.tape.trans HBT.out.tape, HG.out.output.trans HBT.out.output, Nat.le_trans HBT.out.size HG.out.size, HLOW.out⟩)
    obtain ⟨FF, hFF⟩ : ∃ F, folM keep c (kidsM ts c) VS = F := ⟨_, rfl⟩
    rw [hFF] at hR5 HFO
    clear hko htk hkl hkc hclw hck hkz hfo hFF
    go_wp2_with fail
    refine HFO.out.mono ?_
    rintro e w9 ⟨rfl, hb9⟩
    have HB9 := Lib.hid (HBW.out.trans (hb9.mono HBW.out.size))
    clear hb9
    rcases bool2 FF with rfl | rfl
    · rw [if_neg (by simp)] at hR5
      subst hR5
      go_wp2_with fail
      go_ret
      exact ⟨rfl, HB9.out⟩
    · rw [if_pos rfl] at hR5
      subst hR5
      go_wp2_with fail
      go_ret
      exact ⟨rfl, HB9.out⟩

/- (Trace seat) Walks: Check, Total of the package trace. No condition but the sizes. -/
open Go.ChangeShapes Go.WideShapes Go.ChangeAt Go.RowKit
set_option linter.unusedVariables false

set_option maxRecDepth 100000 in
set_option maxHeartbeats 8000000 in
theorem tcheck_any (F : Nat → Prop) (vars keep : Int) (cv tv : Value) (cs : List (List Int)) (ts : List Claim) (w : World) (hc : Clss F w cv cs) (hx : Claims (fun _ => True) w tv ts) (hiv : I64 vars) (hik : I64 keep) (hsz : ∀ c ∈ ts, SzC c) (hl : ts.length ≤ 4000) :
    Calls Tryz.prog 14 #[.agg #[.int .i64 vars, .int .i64 keep, cv], .agg #[tv]] w (CodePost w (tckM vars keep cs ts)) := by
  obtain ⟨ta, tn, tc, rfl, HTN, htn⟩ := hx.form
  obtain ⟨ca, cn, cc, rfl, HCN, hcn⟩ := hc.form'
  obtain ⟨bb, hbb⟩ : ∃ b, w.heap.size = b := ⟨_, rfl⟩
  obtain ⟨W1, hW1⟩ : ∃ W, (w.alloc (.cells #[.int .i64 vars, .int .i64 keep, .slice ca cn cc] 37)).alloc (.cells #[.slice ta tn tc] 24) = W := ⟨_, rfl⟩
  have hb1 : Below w.heap.size w W1 := by rw [← hW1]; exact ((Below.refl _ _).alloc (Nat.le_refl _) _).alloc (by simp) _
  have hs1 : W1.heap.size = bb + 1 + 1 := by rw [← hW1]; simp; omega
  have hr0 : W1.heap[bb]? = some (.cells #[.int .i64 vars, .int .i64 keep, .slice ca cn cc] 37) := by rw [← hW1]; exact old_at _ _ _ (new_at' _ _ hbb.symm)
  have hr1 : W1.heap[bb + 1]? = some (.cells #[.slice ta tn tc] 24) := by rw [← hW1]; exact new_at' _ _ (by simp; omega)
  have c0 : W1.cell? ⟨bb, 0, none⟩ = some (.int .i64 vars) := by rw [cell_of_row _ _ _ _ _ _ hr0]; rfl
  have c1 : W1.cell? ⟨bb, 1, none⟩ = some (.int .i64 keep) := by rw [cell_of_row _ _ _ _ _ _ hr0]; rfl
  have c2 : W1.cell? ⟨bb, 2, none⟩ = some (.slice ca cn cc) := by rw [cell_of_row _ _ _ _ _ _ hr0]; rfl
  have t0 : W1.cell? ⟨bb + 1, 0, none⟩ = some (.slice ta tn tc) := by rw [cell_of_row _ _ _ _ _ _ hr1]; rfl
  obtain ⟨R, hR⟩ : ∃ R, tckM vars keep cs ts = R := ⟨_, rfl⟩
  have hR2 := hR
  unfold tckM at hR2
  rw [hR]
  obtain ⟨C, hC⟩ : ∃ C, checkM vars keep cs = C := ⟨_, rfl⟩
  rw [hC] at hR2
  have hck := check_any F vars keep _ cs W1 (hc.below hb1) hiv hik
  rw [hC] at hck
  have HCK := Lib.hid hck
  have HC := Lib.hid (hc.below hb1)
  have HX := Lib.hid (hx.below hb1)
  have HB1 := Lib.hid hb1
  have HW1 := Lib.hid hW1
  have HBB := Lib.hid hbb
  have HSZ := Lib.hid hsz
  have HIK := Lib.hid hik
  have hn4 : tn ≤ 4000 := by rw [HTN.out]; exact hl
  clear hR hC hck hc hx hb1 hW1 hbb hr0 hr1 hsz hik hiv hl
  by_cases h0 : C = 0
  case neg =>
    rw [if_pos h0] at hR2
    subst hR2
    have e0 : (C != 0) = true := by simp; exact h0
    clear h0
    go_enter Tryz.func14, Tryz.ntmps14
    go_wp2_with fail
    rw [HW1.out]
    refine HCK.out.mono ?_
    rintro e w2 ⟨rfl, hb2⟩
    have HB2 := Lib.hid (HB1.out.trans (hb2.mono HB1.out.size))
    clear hb2
    go_wp2_with fail
    go_ret
    exact ⟨rfl, HB2.out⟩
  subst h0
  rw [if_neg (by simp)] at hR2
  have HR2 := Lib.hid hR2
  clear hR2
  go_enter Tryz.func14, Tryz.ntmps14
  go_wp2_with fail
  rw [HW1.out]
  refine HCK.out.mono ?_
  rintro e w2 ⟨rfl, hb2⟩
  rw [HBB.out]
  have d0 := below_c hb2 (by omega) c0
  have d1 := below_c hb2 (by omega) c1
  have d2 := below_c hb2 (by omega) c2
  have u0 := below_c hb2 (by omega) t0
  have HC2 := Lib.hid (HC.out.below hb2)
  have HX2 := Lib.hid (HX.out.below hb2)
  have HB2 := Lib.hid (HB1.out.trans (hb2.mono HB1.out.size))
  have hs2 := hb2.size
  clear hb2 c0 c1 c2 t0 HC HX HCK HW1
  by_cases h1 : 40 < keep
  · have hR := HR2.out
    rw [if_pos (.inl h1)] at hR
    subst hR
    have e1 : decide (40 < keep) = true := decide_eq_true h1
    go_wp2_with fail
    go_ret
    exact ⟨rfl, HB2.out⟩
  have e1 : decide (40 < keep) = false := decide_eq_false h1
  have e2 : decide (65536 < (tn : Int)) = false := decide_eq_false (by omega)
  have e2' : decide (65536 < tn) = false := decide_eq_false (by omega)
  have hR3 := HR2.out
  rw [if_neg (by rintro (h | h); exact h1 h; rw [← HTN.out] at h; omega)] at hR3
  by_cases h3 : tn = 0
  · rw [if_pos (by rw [← HTN.out]; exact h3)] at hR3
    subst hR3
    have e3 : ((tn : Int) == 0) = true := by simp; exact h3
    clear h3
    go_wp2_with fail
    go_ret
    exact ⟨rfl, HB2.out⟩
  have e3 : ((tn : Int) == 0) = false := by simp; exact h3
  rw [if_neg (by rw [← HTN.out]; exact h3)] at hR3
  have HR3 : Hid ((if ccGo keep ts (tn - 0) 0 ≠ 0 then ccGo keep ts (tn - 0) 0 else if ((ts.getD (ts.length - 1) clNil).cls == cs) = false then 2 else 0) = R) := Lib.hid (by rw [Nat.sub_zero, HTN.out]; exact hR3)
  have HBL : Hid (Below w2.heap.size w2 w2) := Lib.hid (Below.refl _ _)
  clear hR3 HR2 h1
  go_wp2_with fail
  go_loopg [29] tn (fun gg u29 wx => ∃ (k : Nat), k + gg = tn ∧ u29 = .int .i64 k ∧ Hid (Below w2.heap.size w2 wx) ∧ Hid ((if ccGo keep ts (tn - k) k ≠ 0 then ccGo keep ts (tn - k) k else if ((ts.getD (ts.length - 1) clNil).cls == cs) = false then 2 else 0) = R))
  case atStart => exact ⟨0, by omega, rfl, HBL, HR3⟩
  case round =>
  clear HBL HR3
  obtain ⟨k, hkg, rfl, HBX, HRK⟩ := hrel
  have hsx := HBX.out.size
  have f0 := below_c HBX.out (by omega) d0
  have f1 := below_c HBX.out (by omega) d1
  have f2 := below_c HBX.out (by omega) d2
  have g0 := below_c HBX.out (by omega) u0
  have HBF : Hid (Below w.heap.size w wr) := Lib.hid (HB2.out.trans (HBX.out.mono HB2.out.size))
  by_cases hk : k < tn
  · have hdk : decide ((k : Int) < tn) = true := by simp; omega
    have hdk' : decide (k < tn) = true := decide_eq_true hk
    have hcc := cc_any keep (k : Int) _ ts wr (HX2.out.below HBX.out) HIK.out ⟨by omega, by omega⟩ HSZ.out (by rw [← HTN.out]; exact hn4)
    obtain ⟨D, hD⟩ : ∃ D, ccM keep ts k = D := ⟨_, rfl⟩
    rw [hD] at hcc
    have HCC := Lib.hid hcc
    have hr := HRK.out
    obtain ⟨j, hj⟩ : ∃ j, tn - k = j + 1 := ⟨tn - k - 1, by omega⟩
    rw [hj, ccGo, hD] at hr
    by_cases hz : D = 0
    · subst hz
      rw [if_neg (show ¬ ((0 : Int) ≠ 0) by simp), show j = tn - (k + 1) by omega] at hr
      have HR := Lib.hid hr
      clear hr hj hD hcc HRK
      go_wp2_with fail
      refine HCC.out.mono ?_
      rintro e w3 ⟨rfl, hb3⟩
      have HB3 := Lib.hid (HBX.out.trans (hb3.mono HBX.out.size))
      clear hb3
      go_wp2_with fail
      go_roundg (gk - 1)
      case measure => omega
      case rel => exact ⟨k + 1, by omega, by go_num, HB3, HR⟩
    · have hr2 : D = R := by rw [← hr]; simp [hz]
      subst hr2
      have ez : (D != 0) = true := by simp; exact hz
      clear hr hj hD hcc hz HRK
      go_wp2_with fail
      refine HCC.out.mono ?_
      rintro e w3 ⟨rfl, hb3⟩
      have HB3 := Lib.hid (HBF.out.trans (hb3.mono HBF.out.size))
      clear hb3
      go_wp2_with fail
      go_ret
      exact ⟨rfl, HB3.out⟩
  obtain rfl : k = tn := by omega
  have hdk : decide ((k : Int) < k) = false := by simp
  have hdk' : decide (k < k) = false := decide_eq_false (by omega)
  have hr := HRK.out
  rw [Nat.sub_self, ccGo, if_neg (by simp)] at hr
  obtain ⟨c, hc⟩ : ∃ c, ts[k - 1]? = some c := ⟨_, List.getElem?_eq_getElem (by rw [← HTN.out]; omega)⟩
  have hcg : ts.getD (ts.length - 1) clNil = c := by rw [← HTN.out, List.getD_eq_getElem?_getD, hc]; rfl
  rw [hcg] at hr
  obtain ⟨xb, xo, xcv, xkv, rfl, _, hxb, j0, _, _, _, _, ⟨⟨hxc, _⟩, _⟩⟩ := (HX2.out.below HBX.out).at hc
  obtain ⟨xa, xn, xc, rfl, _, _⟩ := hxc.form'
  obtain ⟨E, hE⟩ : ∃ E, (c.cls == cs) = E := ⟨_, rfl⟩
  rw [hE] at hr
  have hxc : Clss (fun _ => True) wr (.slice xa xn xc) c.cls := hxc
  have hbl := fun n => below_drewN (Below.refl wr.heap.size wr) n
  have heq := fun n => tequal_any _ _ _ _ (wr.drewN n) (hxc.below (hbl n)) ((HC2.out.below HBX.out).below (hbl n))
  rw [hE] at heq
  have HEQ := Lib.hid heq
  have HR := Lib.hid hr
  obtain ⟨m, hm⟩ : ∃ m, k = m + 1 := ⟨k - 1, by omega⟩
  have hw1 : IntKind.i64.wrap ((k : Int) - 1) = (m : Int) := by rw [IntWalk.i64_in _ ⟨by omega, by omega⟩]; omega
  have hmk : (m : Int) < k := by omega
  have hm0 : (0 : Int) ≤ m := by omega
  have hmk' : m < k := by omega
  rw [show k - 1 = m by omega] at j0
  have hkl : bb + 1 < wr.heap.size := by omega
  clear hr hE heq hcg hc hxc HRK hbl hm hkg
  go_upto_region 16 with fail
  go_quiet ((go_at_call 33; first | exact Calls.quiet_of (HEQ.out _) | exact quiet_add (HEQ.out _)))
  rcases bool2 E with rfl | rfl
  · have hr := HR.out
    rw [if_neg (by simp)] at hr
    subst hr
    go_wp2_with fail
    go_ret
    exact ⟨rfl, below_drewN HBF.out _⟩
  · have hr := HR.out
    rw [if_pos rfl] at hr
    subst hr
    go_wp2_with fail
    go_ret
    exact ⟨rfl, below_drewN HBF.out _⟩

set_option maxRecDepth 100000 in
set_option maxHeartbeats 8000000 in
theorem total_any (F : Nat → Prop) (vars keep : Int) (cv tv : Value) (cs : List (List Int)) (ts : List Claim) (w : World) (hc : Clss F w cv cs) (hx : Claims (fun _ => True) w tv ts) (hiv : I64 vars) (hik : I64 keep) (hsz : ∀ c ∈ ts, SzC c) (hl : ts.length ≤ 4000) (hcl : cs.length ≤ 4000) (hcl2 : ∀ c ∈ cs, c.length ≤ 4000) :
    Calls Tryz.prog 13 #[.agg #[.int .i64 vars, .int .i64 keep, cv], .agg #[tv]] w (TotPost w (totA vars keep cs ts) (tckM vars keep cs ts)) := by
  obtain ⟨ta, tn, tc, rfl, HTN, htn⟩ := hx.form
  obtain ⟨ca, cn, cc, rfl, HCN, hcn⟩ := hc.form'
  obtain ⟨bb, hbb⟩ : ∃ b, w.heap.size = b := ⟨_, rfl⟩
  obtain ⟨W1, hW1⟩ : ∃ W, (w.alloc (.cells #[.int .i64 vars, .int .i64 keep, .slice ca cn cc] 37)).alloc (.cells #[.slice ta tn tc] 24) = W := ⟨_, rfl⟩
  have hb1 : Below w.heap.size w W1 := by rw [← hW1]; exact ((Below.refl _ _).alloc (Nat.le_refl _) _).alloc (by simp) _
  have hs1 : W1.heap.size = bb + 1 + 1 := by rw [← hW1]; simp; omega
  have hr0 : W1.heap[bb]? = some (.cells #[.int .i64 vars, .int .i64 keep, .slice ca cn cc] 37) := by rw [← hW1]; exact old_at _ _ _ (new_at' _ _ hbb.symm)
  have hr1 : W1.heap[bb + 1]? = some (.cells #[.slice ta tn tc] 24) := by rw [← hW1]; exact new_at' _ _ (by simp; omega)
  have c0 : W1.cell? ⟨bb, 0, none⟩ = some (.int .i64 vars) := by rw [cell_of_row _ _ _ _ _ _ hr0]; rfl
  have c1 : W1.cell? ⟨bb, 1, none⟩ = some (.int .i64 keep) := by rw [cell_of_row _ _ _ _ _ _ hr0]; rfl
  have c2 : W1.cell? ⟨bb, 2, none⟩ = some (.slice ca cn cc) := by rw [cell_of_row _ _ _ _ _ _ hr0]; rfl
  have t0 : W1.cell? ⟨bb + 1, 0, none⟩ = some (.slice ta tn tc) := by rw [cell_of_row _ _ _ _ _ _ hr1]; rfl
  have htk := tcheck_any _ vars keep _ _ cs ts W1 (hc.below hb1) (hx.below hb1) hiv hik hsz hl
  have hacc := fun h => tck_acc (vars := vars) (keep := keep) (cs := cs) (ts := ts) h
  have hA : totA vars keep cs ts = if tckM vars keep cs ts = 0 then totN keep cs ts else 0 := rfl
  rw [hA]
  generalize tckM vars keep cs ts = C at *
  have HTK := Lib.hid htk
  have HC := Lib.hid (hc.below hb1)
  have HX := Lib.hid (hx.below hb1)
  have HB1 := Lib.hid hb1
  have HW1 := Lib.hid hW1
  have HBB := Lib.hid hbb
  have HACC := Lib.hid hacc
  have HCL2 := Lib.hid hcl2
  clear hA htk hc hx hb1 hW1 hbb hr0 hr1 hsz hik hiv hl hacc hcl2
  by_cases h0 : C = 0
  case neg =>
    rw [if_neg h0]
    have e0 : (C != 0) = true := by simp; exact h0
    clear h0
    go_enter Tryz.func13, Tryz.ntmps13
    go_wp2_with fail
    rw [HW1.out]
    refine HTK.out.mono ?_
    rintro e w2 ⟨rfl, hb2⟩
    have HB2 := Lib.hid (HB1.out.trans (hb2.mono HB1.out.size))
    clear hb2
    go_wp2_with fail
    go_ret2
    exact ⟨rfl, HB2.out⟩
  subst h0
  rw [if_pos rfl]
  obtain ⟨hk40, hpos, hall, hlast⟩ := (HACC.out rfl).2
  have hcc := cc_count (hall (ts.length - 1) (by omega))
  obtain ⟨hk0, _, _, hcan, hct0, hct1, _, _⟩ := hcc
  rw [hlast] at hct1
  obtain ⟨c, hcx⟩ : ∃ c, ts[ts.length - 1]? = some c := ⟨_, List.getElem?_eq_getElem (by omega)⟩
  have hcg : ts.getD (ts.length - 1) clNil = c := by rw [List.getD_eq_getElem?_getD, hcx]; rfl
  have htot : totN keep cs ts = c.count * 2 ^ (keep - (keptM keep (occM cs)).length).toNat := by unfold totN; rw [hcg]
  rw [hcg] at hct0 hct1
  obtain ⟨K, hK⟩ : ∃ K, (keptM keep (occM cs)).length = K := ⟨_, rfl⟩
  have hKk : (K : Int) ≤ keep := by
    rw [← hK]
    exact kept_le hk0
  rw [hK] at htot hct1
  obtain ⟨f, hf⟩ : ∃ f : Nat, keep - K = f := ⟨(keep - K).toNat, by omega⟩
  rw [hf, show ((f : Nat) : Int).toNat = f by omega] at htot
  have hbig : c.count * 2 ^ f ≤ 1099511627776 := by
    have h1 : c.count * 2 ^ f ≤ 2 ^ K * 2 ^ f := Int.mul_le_mul_of_nonneg_right hct1 (Int.pow_nonneg (by omega))
    rw [← Int.pow_add] at h1
    have h2 : (2 : Int) ^ (K + f) ≤ 2 ^ 40 := by
      have : 2 ^ (K + f) ≤ 2 ^ 40 := Nat.pow_le_pow_right (by omega) (by omega)
      exact_mod_cast this
    omega
  have hbig0 : 0 ≤ c.count * 2 ^ f := Int.mul_nonneg hct0 (Int.pow_nonneg (by omega))
  have hsh : wrap64 (c.count * 2 ^ f) = c.count * 2 ^ f := IntWalk.wrap64_in _ ⟨by omega, by omega⟩
  have hsh2 : IntKind.i64.wrap (c.count * 2 ^ f) = c.count * 2 ^ f := IntWalk.i64_in _ ⟨by omega, by omega⟩
  rw [htot]
  obtain ⟨m, hm⟩ : ∃ m, tn = m + 1 := ⟨tn - 1, by have := HTN.out; omega⟩
  have hcm : ts[m]? = some c := by rw [← hcx, ← HTN.out, hm]; rfl
  obtain ⟨xb, xo, xcv, xkv, rfl, _, hxb, _, _, _, _, j4, _⟩ := HX.out.at hcm
  have hw1 : IntKind.i64.wrap ((tn : Int) - 1) = (m : Int) := by rw [IntWalk.i64_in _ ⟨by omega, by omega⟩]; omega
  have hw2 : ((tn : Int) - 1) = (m : Int) := by omega
  have hmk : (m : Int) < tn := by omega
  have hm0 : (0 : Int) ≤ m := by omega
  have hmk' : m < tn := by omega
  have HK := Lib.hid hK
  have HF := Lib.hid hf
  have HW12 := Lib.hid (And.intro hw1 hw2)
  have hk00 := hk0
  clear hm hcm hcx hcg htot hct0 hct1 hcan hall hlast hpos hK hf HACC hw1 hw2
  go_enter Tryz.func13, Tryz.ntmps13
  go_wp2_with fail
  rw [HW1.out]
  refine HTK.out.mono ?_
  rintro e w2 ⟨rfl, hb2⟩
  rw [HBB.out]
  have d0 := below_c hb2 (by omega) c0
  have d1 := below_c hb2 (by omega) c1
  have d2 := below_c hb2 (by omega) c2
  have e0 := below_c hb2 (by omega) t0
  have e4 := below_c hb2 hxb j4
  have HB2 := Lib.hid (HB1.out.trans (hb2.mono HB1.out.size))
  have hoc := occur_any _ _ cs w2 (HC.out.below hb2) hcl HCL2.out
  have HOC := Lib.hid hoc
  have hs2 := hb2.size
  have hxb2 := Nat.lt_of_lt_of_le hxb hb2.size
  clear hb2 hoc c0 c1 c2 t0 j4 HTK HW1 HC
  go_wp2_with fail
  refine HOC.out.mono ?_
  rintro e w3 ⟨ov, os, rfl, hos, hb3, hst, hmem⟩
  obtain rfl := occ_eq hst hmem
  obtain ⟨oa, on, oc, rfl, HON, hon⟩ := hos.form'
  have HOS := Lib.hid hos
  have f1 := below_c hb3 (by omega) d1
  have g0 := below_c hb3 (by omega) e0
  have g4 := below_c hb3 hxb2 e4
  have HB3 := Lib.hid (HB2.out.trans (hb3.mono HB2.out.size))
  have hkp : keep ≤ 40 := hk40
  have hol : on ≤ 20000 := by rw [HON.out]; exact nodup_bound (occM_nodup _) (fun x hx => occM_range hx)
  obtain ⟨O, hO⟩ : ∃ O, occM cs = O := ⟨_, rfl⟩
  rw [hO] at HOS HON HK
  clear hos hb3 hst hmem HOC d0 d1 d2 e0 e4 hO
  go_wp2_with fail
  go_loopg [7, 22] on (fun gg u7 u22 wx => ∃ (j q : Nat), j + gg = on ∧ u22 = .int .i64 j ∧ u7 = .int .i64 (keep - q) ∧ q ≤ j ∧ wx = w3 ∧ Hid ((keptM keep (O.take j)).length = q))
  case atStart => exact ⟨0, 0, by omega, rfl, by rw [show keep - ((0 : Nat) : Int) = keep by omega], by omega, rfl, Lib.hid rfl⟩
  case round =>
  obtain ⟨j, q, hjg, rfl, rfl, hqj, hww, HQ⟩ := hrel
  subst hww
  by_cases hj : j < on
  · obtain ⟨x, hxj⟩ : ∃ x, O[j]? = some x := ⟨_, List.getElem?_eq_getElem (by rw [← HON.out]; exact hj)⟩
    obtain ⟨yb, yo, rfl, _, hyb, hcy, hyi⟩ := HOS.out.at hxj
    have hdj : decide ((j : Int) < on) = true := by simp; omega
    have hdj' : decide (j < on) = true := decide_eq_true hj
    have HT : Hid (O.take (j + 1) = O.take j ++ [x]) := Lib.hid (by rw [List.take_add_one, hxj]; rfl)
    clear hxj hyi
    by_cases hle : x ≤ keep
    · have hd : decide (x ≤ keep) = true := decide_eq_true hle
      have HQ2 : Hid ((keptM keep (O.take (j + 1))).length = q + 1) := Lib.hid (by rw [HT.out]; unfold keptM; rw [List.filter_append, List.length_append]; have := HQ.out; unfold keptM at this; rw [this]; simp [hle])
      clear hle
      go_wp2_with fail
      go_roundg (gk - 1)
      case measure => omega
      case rel => exact ⟨j + 1, q + 1, by omega, by go_num, by rw [show keep - ((q + 1 : Nat) : Int) = keep - q - 1 by omega], by omega, rfl, HQ2⟩
    · have hd : decide (x ≤ keep) = false := decide_eq_false hle
      have HQ2 : Hid ((keptM keep (O.take (j + 1))).length = q) := Lib.hid (by rw [HT.out]; unfold keptM; rw [List.filter_append, List.length_append]; have := HQ.out; unfold keptM at this; rw [this]; simp [hle])
      clear hle
      go_wp2_with fail
      go_roundg (gk - 1)
      case measure => omega
      case rel => exact ⟨j + 1, q, by omega, by go_num, rfl, by omega, rfl, HQ2⟩
  obtain rfl : j = on := by omega
  have hdj : decide ((j : Int) < j) = false := by simp
  have hdj' : decide (j < j) = false := decide_eq_false (by omega)
  have hqK : q = K := by
    have := HQ.out
    rw [List.take_of_length_le (by rw [HON.out]; exact Nat.le_refl _)] at this
    rw [← this]
    exact HK.out
  subst hqK
  rw [HF.out]
  obtain ⟨hw1, hw2⟩ := HW12.out
  have hmin : min f 64 = f := by have := HF.out; omega
  clear HQ
  go_wp2_with fail
  go_ret2
  exact ⟨rfl, HB3.out⟩
end Go.Proofs.YtljaegmmfjllkaaGreatDoor
