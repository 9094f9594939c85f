/- (Trace seat Z) Walk: the statement TraceChecks. No condition. -/
import Derived.Test.YtihkknploioakaaGreatVo
import Derived.Test.YtihkknploioakaaGreatWm
import Derived.Test.YtihkknploioakaaGreatWh
namespace Go.Proofs.YtihkknploioakaaGreat
open Go.ChangeShapes Go.WideShapes Go.ChangeAt Go.RowKit
set_option linter.unusedVariables false

theorem parts_len {α : Type} (p : α → Bool) : ∀ l : List α, l.length = (l.filter p).length + (l.filter fun v => !p v).length
  | [] => rfl
  | x :: r => by
    have := parts_len p r
    rw [List.filter_cons, List.filter_cons]
    rcases p x with _ | _ <;> simp <;> omega
/-- the total, as the statement reckons it -/
theorem total_lift {vars : Int} {K : Nat} {cs : List (List Int)} {ts : List Claim} (h : tckM vars K cs ts = 0) : totA vars K cs ts = (liftS K (ivl 0 K) (ts.getD (ts.length - 1) clNil)).1 := by
  obtain ⟨_, h40, hpos, hall, hlast⟩ := tck_acc h
  obtain ⟨_, _, _, _, hc0, hc1, _, _⟩ := cc_count (hall (ts.length - 1) (by omega))
  unfold totA totN liftS lostS
  rw [if_pos h]
  generalize ts.getD (ts.length - 1) clNil = c at *
  subst hlast
  have hn := (ivl_nodup K 0).filter fun v => (keptM (K : Int) (occM c.cls)).contains v
  have hkn : (keptM (K : Int) (occM c.cls)).Nodup := (occM_nodup c.cls).filter _
  have hm : ∀ x, x ∈ (ivl 0 K).filter (fun v => (keptM (K : Int) (occM c.cls)).contains v) ↔ x ∈ keptM (K : Int) (occM c.cls) := fun x => by
    rw [List.mem_filter, ivl_mem]
    constructor
    · rintro ⟨h1, h2⟩
      simpa using h2
    · intro h1
      have h2 := kept_mem.1 h1
      have := occM_range h2.1
      exact ⟨by omega, by simpa using h1⟩
  have hl := ((List.perm_ext_iff_of_nodup hn hkn).2 hm).length_eq
  have ht := parts_len (fun v => (keptM (K : Int) (occM c.cls)).contains v) (ivl 0 K)
  rw [ivl_len, hl] at ht
  rw [show ((K : Int) - (keptM (K : Int) (occM c.cls)).length).toNat = ((ivl 0 K).filter fun v => !(keptM (K : Int) (occM c.cls)).contains v).length by omega]
  generalize ((ivl 0 K).filter fun v => !(keptM (K : Int) (occM c.cls)).contains v).length = L at *
  generalize (keptM (K : Int) (occM c.cls)).length = M at *
  rw [dblS_pow L c.count hc0 ?_]
  have hp : (0 : Int) ≤ 2 ^ L := Int.le_of_lt (Int.pow_pos (by omega))
  have h1 := Int.mul_le_mul_of_nonneg_right hc1 hp
  have h2 : ((2 : Int) ^ M * 2 ^ L) = ((2 ^ (M + L) : Nat) : Int) := by rw [← Int.pow_add]; simp
  have h3 : (2 ^ (M + L) : Nat) ≤ 2 ^ 40 := Nat.pow_le_pow_right (by omega) (by omega)
  have h4 : (2 ^ 40 : Nat) = 1099511627776 := rfl
  omega

set_option maxRecDepth 100000 in
set_option maxHeartbeats 8000000 in
theorem law_checks (vars keep : Int) (cv tv : Value) (cs : List (List Int)) (ts : List Claim) (w : World) (hc : Clss (fun _ => True) w cv cs) (hx : Claims (fun _ => True) w tv ts) (hiv : I64 vars) (hik : I64 keep) :
    Calls Tryz.prog 6 #[.agg #[.int .i64 vars, .int .i64 keep, cv], .agg #[tv]] w (KnPost w) := by
  obtain ⟨ca, cn, cc, rfl, _, _⟩ := hc.form'
  obtain ⟨ta, tn, tc, rfl, HTN, _⟩ := hx.form
  obtain ⟨bb, hbb⟩ : ∃ b, w.heap.size = b := ⟨_, rfl⟩
  obtain ⟨W1, hW1⟩ : ∃ W, (w.alloc (.cells #[.int .i64 vars, .int .i64 keep, .slice ca cn cc] 32)).alloc (.cells #[.slice ta tn tc] 24) = W := ⟨_, rfl⟩
  have hb1 : Below w.heap.size w W1 := by rw [← hW1]; exact ((Below.refl _ _).alloc (Nat.le_refl _) _).alloc (by simp) _
  have hs1 : W1.heap.size = bb + 1 + 1 := by rw [← hW1]; simp; omega
  have hr0 : W1.heap[bb]? = some (.cells #[.int .i64 vars, .int .i64 keep, .slice ca cn cc] 32) := by rw [← hW1]; exact old_at _ _ _ (new_at' _ _ hbb.symm)
  have hr1 : W1.heap[bb + 1]? = some (.cells #[.slice ta tn tc] 24) := by rw [← hW1]; exact new_at' _ _ (by simp; omega)
  have c0 : W1.cell? ⟨bb, 0, none⟩ = some (.int .i64 vars) := by rw [cell_of_row _ _ _ _ _ _ hr0]; rfl
  have c1 : W1.cell? ⟨bb, 1, none⟩ = some (.int .i64 keep) := by rw [cell_of_row _ _ _ _ _ _ hr0]; rfl
  have c2 : W1.cell? ⟨bb, 2, none⟩ = some (.slice ca cn cc) := by rw [cell_of_row _ _ _ _ _ _ hr0]; rfl
  have t0 : W1.cell? ⟨bb + 1, 0, none⟩ = some (.slice ta tn tc) := by rw [cell_of_row _ _ _ _ _ _ hr1]; rfl
  have hc1 := Clss.below hc hb1
  have hx1 := hx.below hb1
  have HC := Lib.hid hc1
  have HX := Lib.hid hx1
  have HB1 := Lib.hid hb1
  have HIV := Lib.hid hiv
  have HIK := Lib.hid hik
  have HKN := Lib.hid (known_any W1)
  clear hc hx hc1 hx1 hr0 hr1 hb1 hiv hik
  go_enter Tryz.func6, Tryz.ntmps6
  go_wp2_with fail
  try rw [hW1]
  clear hW1 hbb
  refine HKN.out.mono ?_
  rintro e w2 ⟨rfl, hb2⟩
  have HB2 := Lib.hid (HB1.out.trans (hb2.mono HB1.out.size))
  have HC2 := Lib.hid (Clss.below HC.out hb2)
  have HX2 := Lib.hid (HX.out.below hb2)
  have y0 := below_c hb2 (by omega) c0
  have y1 := below_c hb2 (by omega) c1
  have y2 := below_c hb2 (by omega) c2
  have yt := below_c hb2 (by omega) t0
  have hs2 := hb2.size
  clear hb2 HKN HB1 HC HX c0 c1 c2 t0
  have HF := Lib.hid (few_any _ ts w2 HX2.out)
  go_wp2_with fail
  refine HF.out.mono ?_
  rintro e w3 ⟨B1, rfl, hb3, hB1⟩
  have HB3 := Lib.hid (HB2.out.trans (hb3.mono HB2.out.size))
  have HC3 := Lib.hid (Clss.below HC2.out hb3)
  have HX3 := Lib.hid (HX2.out.below hb3)
  have z0 := below_c hb3 (by omega) y0
  have z1 := below_c hb3 (by omega) y1
  have z2 := below_c hb3 (by omega) y2
  have zt := below_c hb3 (by omega) yt
  have hs3 := hb3.size
  have HBT := Lib.hid hB1
  clear hb3 HF HB2 HC2 HX2 y0 y1 y2 yt hB1
  rcases bool2 B1 with rfl | rfl
  rotate_left
  · go_wp2_with fail
    go_ret
    exact ⟨rfl, HB3.out⟩
  obtain ⟨ht1, ht2⟩ := HBT.out rfl
  have HF := Lib.hid (short_any _ vars keep _ cs w3 HC3.out)
  have HT1 := Lib.hid ht1
  have HT2 := Lib.hid ht2
  clear HBT ht1 ht2
  go_wp2_with fail
  refine HF.out.mono ?_
  rintro e w5 ⟨B3, rfl, hb5, hB3⟩
  have HB5 := Lib.hid (HB3.out.trans (hb5.mono HB3.out.size))
  have HC5 := Lib.hid (Clss.below HC3.out hb5)
  have HX5 := Lib.hid (HX3.out.below hb5)
  have y0 := below_c hb5 (by omega) z0
  have y1 := below_c hb5 (by omega) z1
  have y2 := below_c hb5 (by omega) z2
  have yt := below_c hb5 (by omega) zt
  have hs5 := hb5.size
  have HBS := Lib.hid hB3
  clear hb5 HF HB3 HC3 HX3 z0 z1 z2 zt hB3
  rcases bool2 B3 with rfl | rfl
  rotate_left
  · go_wp2_with fail
    go_ret
    exact ⟨rfl, HB5.out⟩
  obtain ⟨hc1, hc2⟩ := HBS.out rfl
  have HC1 := Lib.hid hc1
  have HC2 := Lib.hid hc2
  clear HBS hc1 hc2
  obtain ⟨N1, hN1⟩ : ∃ n, totA vars keep cs ts = n := ⟨_, rfl⟩
  obtain ⟨E1, hE1⟩ : ∃ n, tckM vars keep cs ts = n := ⟨_, rfl⟩
  have HF := Lib.hid (lchk_any _ vars keep _ _ cs ts w5 HC5.out HX5.out HIV.out HIK.out HT2.out (by have := HT1.out; omega) (by have := HC1.out; omega) (fun x hx => by have := HC2.out x hx; omega))
  rw [hE1] at HF
  have HN1 := Lib.hid hN1
  have HE1 := Lib.hid hE1
  clear hN1 hE1
  go_wp2_with fail
  refine HF.out.mono ?_
  rintro e w6 ⟨rfl, hb6⟩
  have HB6 := Lib.hid (HB5.out.trans (hb6.mono HB5.out.size))
  have HC6 := Lib.hid (Clss.below HC5.out hb6)
  have HX6 := Lib.hid (HX5.out.below hb6)
  have z0 := below_c hb6 (by omega) y0
  have z1 := below_c hb6 (by omega) y1
  have z2 := below_c hb6 (by omega) y2
  have zt := below_c hb6 (by omega) yt
  have hs6 := hb6.size
  clear hb6 HF HB5 HC5 HX5 y0 y1 y2 yt
  have HF := Lib.hid (total_any _ vars keep _ _ cs ts w6 HC6.out HX6.out HIV.out HIK.out HT2.out (by have := HT1.out; omega) (by have := HC1.out; omega) (fun x hx => by have := HC2.out x hx; omega))
  rw [HN1.out, HE1.out] at HF
  go_wp2_with fail
  refine HF.out.mono ?_
  rintro e w7 ⟨rfl, hb7⟩
  have HB7 := Lib.hid (HB6.out.trans (hb7.mono HB6.out.size))
  have HC7 := Lib.hid (Clss.below HC6.out hb7)
  have HX7 := Lib.hid (HX6.out.below hb7)
  have y0 := below_c hb7 (by omega) z0
  have y1 := below_c hb7 (by omega) z1
  have y2 := below_c hb7 (by omega) z2
  have yt := below_c hb7 (by omega) zt
  have hs7 := hb7.size
  clear hb7 HF HB6 HC6 HX6 z0 z1 z2 zt
  have HF := Lib.hid (tcheck_any _ vars keep _ _ cs ts w7 HC7.out HX7.out HIV.out HIK.out HT2.out (by have := HT1.out; omega))
  rw [HE1.out] at HF
  have dE : (E1 != E1) = false := by simp
  go_wp2_with fail
  refine HF.out.mono ?_
  rintro e w8 ⟨rfl, hb8⟩
  have HB8 := Lib.hid (HB7.out.trans (hb8.mono HB7.out.size))
  have HX8 := Lib.hid (HX7.out.below hb8)
  have z1 := below_c hb8 (by omega) y1
  have zt := below_c hb8 (by omega) yt
  have hs8 := hb8.size
  clear hb8 HF HB7 HC7 HX7 y0 y1 y2 yt
  by_cases q1 : E1 = 0
  rotate_left
  · have d1 : (E1 != 0) = true := by simp; exact q1
    have hn : N1 = 0 := by rw [← HN1.out]; unfold totA; rw [if_neg (by rw [HE1.out]; exact q1)]
    subst hn
    go_wp2_with fail
    go_ret
    exact ⟨by simp, HB8.out⟩
  subst q1
  have hacc := tck_acc HE1.out
  have hd := hacc.1
  obtain ⟨_, h40, hpos, hall, _⟩ := hacc
  have hk0 := (cc_count (hall 0 (by omega))).1
  obtain ⟨K, rfl⟩ : ∃ K : Nat, keep = K := ⟨keep.toNat, by omega⟩
  have hcnt := cc_count (hall (ts.length - 1) (by omega))
  have htl := total_lift HE1.out
  rw [HN1.out] at htl
  obtain ⟨c, hc⟩ : ∃ c, ts[tn - 1]? = some c := ⟨_, List.getElem?_eq_getElem (by rw [← HTN.out]; have := HTN.out; omega)⟩
  have hcg : ts.getD (ts.length - 1) clNil = c := by rw [← HTN.out, List.getD_eq_getElem?_getD, hc]; rfl
  rw [hcg] at htl hcnt
  have hcz := HT2.out c (List.mem_of_getElem? hc)
  obtain ⟨xb, xo, xcv, xkv, rfl, _, hxb, j0, j1, j2, j3, j4, hcv⟩ := HX8.out.at hc
  obtain ⟨xa, xn, xc, rfl, _, _⟩ := hcv.1.1.form'
  obtain ⟨ka, kn, kc, rfl, _, _⟩ := hcv.1.2.2.2.1.form'
  obtain ⟨m, hm⟩ : ∃ m, tn = m + 1 := ⟨tn - 1, by have := HTN.out; omega⟩
  have hw1 : IntKind.i64.wrap ((tn : Int) - 1) = (m : Int) := by rw [IntWalk.i64_in _ ⟨by omega, by have := HTN.out; have := HT1.out; omega⟩]; omega
  have hmk : (m : Int) < tn := by omega
  have hm0 : (0 : Int) ≤ m := by omega
  have hmk' : m < tn := by omega
  rw [show tn - 1 = m by omega] at j0 j1 j2 j3 j4
  obtain ⟨⟨rn, rb⟩, hr⟩ : ∃ r, liftS K (ivl 0 K) c = r := ⟨_, rfl⟩
  rw [hr] at htl
  have htl : N1 = rn := htl
  subst htl
  have hc240 : c.count ≤ 1099511627776 := by
    have h1 := hcnt.2.2.2.2.2.1
    have h2 : (2 ^ (keptM (K : Int) (occM c.cls)).length : Nat) ≤ 2 ^ 40 := Nat.pow_le_pow_right (by omega) (kept_le40 h40)
    have h3 : ((2 : Int) ^ (keptM (K : Int) (occM c.cls)).length) = ((2 ^ (keptM (K : Int) (occM c.cls)).length : Nat) : Int) := by simp
    have h4 : (2 ^ 40 : Nat) = 1099511627776 := rfl
    omega
  have HRG : Hid (Calls Tryz.prog 22 #[.int .i64 K] w8.drew (KeptPost w8.drew (ivl 0 K))) := Lib.hid (range1_any K w8.drew (by omega))
  have HLI : Hid (∀ W v, Below w8.heap.size w8 W → Ints (fun _ => True) W v (ivl 0 K) → Calls Tryz.prog 21 #[v, .int .i64 K, .agg #[.slice xa xn xc, .int .i64 c.rule, .int .i64 c.lit, .slice ka kn kc, .int .i64 c.count]] W (fun e w' => e = .returned (.tuple #[.int .i64 N1, .bool rb]) ∧ Below W.heap.size W w')) := Lib.hid fun W v hW hv => by
    have := lifted_any _ K v (ivl 0 K) _ _ _ _ _ c W hv (hcv.below hW) HIK.out (by rw [ivl_len]; omega) hcz ⟨hcnt.2.2.2.2.1, hc240⟩
    rw [hr] at this
    exact this
  have HB0 : Hid (Below w8.heap.size w8 w8.drew) := Lib.hid (Below.refl _ _).drew
  have hbl : bb + 1 < w8.heap.size := by omega
  have HKI : Hid (K ≤ 40) := Lib.hid (by omega)
  have HLEN : Hid ((ivl 0 K).length = K) := Lib.hid (ivl_len _ _)
  have HIV : Hid (∀ x ∈ ivl 0 K, I64 x) := Lib.hid fun x hx => by rw [ivl_mem] at hx; have := HKI.out; unfold I64; omega
  clear hr hcz hcnt hcg hc hcv hk0 h40 hpos hall hd hc240 hm dE
  go_wp2_with fail
  go_region_held3 (fun w' => w'.cell? ⟨bb, 1, none⟩ = some (.int .i64 K) ∧ w'.cell? ⟨bb + 1, 0, none⟩ = some (.slice (some ⟨xb, xo, none⟩) tn tc) ∧ w'.cell? ⟨xb, xo + m * 5, none⟩ = some (.slice xa xn xc) ∧ w'.cell? ⟨xb, xo + m * 5 + 1, none⟩ = some (.int .i64 c.rule) ∧ w'.cell? ⟨xb, xo + m * 5 + 2, none⟩ = some (.int .i64 c.lit) ∧ w'.cell? ⟨xb, xo + m * 5 + 3, none⟩ = some (.slice ka kn kc) ∧ w'.cell? ⟨xb, xo + m * 5 + 4, none⟩ = some (.int .i64 c.count))
    (first | exact ⟨z1, zt, j0, j1, j2, j3, j4⟩ | exact ⟨p1, p2, p3, p4, p5, p6, p7⟩ | exact ⟨r1, r2, r3, r4, r5, r6, r7⟩ | go_keep)
    (first
      | (go_at_call 22; refine HRG.out.mono ?_; rintro e w9 ⟨v9, rfl, hb9, ho9⟩; rw [HLEN.out] at ho9; obtain ⟨oa, oc, rfl⟩ := own_form ho9; have HI9 : Hid (Ints (fun _ => True) w9 (.slice oa K oc) (ivl 0 K)) := Lib.hid ⟨(ownsRow_sl1 ho9 (by have := HKI.out; omega)).mono fun _ _ => trivial, HIV.out⟩; have HB9 := Lib.hid (HB0.out.trans (hb9.mono HB0.out.size)); have p1 := below_c HB9.out (by omega) z1; have p2 := below_c HB9.out hbl zt; have p3 := below_c HB9.out hxb j0; have p4 := below_c HB9.out hxb j1; have p5 := below_c HB9.out hxb j2; have p6 := below_c HB9.out hxb j3; have p7 := below_c HB9.out hxb j4; clear hb9 ho9)
      | (go_at_call 21; refine (HLI.out _ _ HB9.out HI9.out).mono ?_; rintro e w10 ⟨rfl, hb10⟩; have HB10 := Lib.hid (HB9.out.trans (hb10.mono HB9.out.size)); have r1 := below_c HB10.out (by omega) z1; have r2 := below_c HB10.out hbl zt; have r3 := below_c HB10.out hxb j0; have r4 := below_c HB10.out hxb j1; have r5 := below_c HB10.out hxb j2; have r6 := below_c HB10.out hxb j3; have r7 := below_c HB10.out hxb j4; clear hb10)
      | fail)
  go_wp2_with fail
  go_ret
  exact ⟨by simp, HB8.out.trans (HB10.out.mono HB8.out.size)⟩
end Go.Proofs.YtihkknploioakaaGreat
