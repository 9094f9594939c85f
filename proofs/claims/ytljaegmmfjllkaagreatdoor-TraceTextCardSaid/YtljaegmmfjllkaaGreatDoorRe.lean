/- (Trace text seat) Walks: the statement's equal of traces, and what it calls (XPe without the program's Prune). No condition. -/
import Derived.Test.YtljaegmmfjllkaaGreatDoorVz
import Derived.Test.YtljaegmmfjllkaaGreatDoorVa
import Derived.Test.YtljaegmmfjllkaaGreatDoorKe
namespace Go.Proofs.YtljaegmmfjllkaaGreatDoor
open Go.ChangeShapes Go.WideShapes Go.ChangeAt Go.RowKit
set_option linter.unusedVariables false
set_option linter.unusedSimpArgs false

/-- are two claims equal? -/
def cEqB (c d : Claim) : Bool := (c.rule == d.rule) && ((c.lit == d.lit) && ((c.count == d.count) && ((c.kids == d.kids) && (c.cls == d.cls))))
def tEqB : List Claim → List Claim → Bool
  | [], [] => true
  | c :: r, d :: q => cEqB c d && tEqB r q
  | _, _ => false
theorem cEqB_refl (c : Claim) : cEqB c c = true := by simp [cEqB]
theorem tEqB_refl : ∀ ts : List Claim, tEqB ts ts = true
  | [] => rfl
  | c :: r => by rw [tEqB, cEqB_refl, tEqB_refl r]; rfl
theorem tEqB_len : ∀ {ts us : List Claim}, ts.length ≠ us.length → tEqB ts us = false
  | [], [], h => absurd rfl h
  | [], _ :: _, _ => rfl
  | _ :: _, [], _ => rfl
  | c :: r, d :: q, h => by rw [tEqB, tEqB_len (ts := r) (us := q) (by simpa using h)]; simp

set_option maxRecDepth 100000 in
set_option maxHeartbeats 8000000 in
theorem ceq_any {F G : Nat → Prop} (r0 r3 q0 q3 : Value) (c d : Claim) (w : World) (hc : ClaimV F w (r0, .int .i64 c.rule, .int .i64 c.lit, r3, .int .i64 c.count) c) (hd : ClaimV G w (q0, .int .i64 d.rule, .int .i64 d.lit, q3, .int .i64 d.count) d) :
    Calls Tryz.prog 28 #[.agg #[r0, .int .i64 c.rule, .int .i64 c.lit, r3, .int .i64 c.count], .agg #[q0, .int .i64 d.rule, .int .i64 d.lit, q3, .int .i64 d.count]] w (BoolPost w (cEqB c d)) := by
  obtain ⟨⟨hcl, _, _, hki, _⟩, hir, hil, hic⟩ := id hc
  have hcl : Clss F w r0 c.cls := hcl
  have hki : Ints F w r3 c.kids := hki
  obtain ⟨⟨hdl, _, _, hdk, _⟩, hjr, hjl, hjc⟩ := id hd
  have hdl : Clss G w q0 d.cls := hdl
  have hdk : Ints G w q3 d.kids := hdk
  obtain ⟨ca, cn, cc, rfl, _, _⟩ := hcl.form'
  obtain ⟨ka, kn, kc, rfl, _, _⟩ := hki.form'
  obtain ⟨da, dn, dc, rfl, _, _⟩ := hdl.form'
  obtain ⟨ea, en, ec, rfl, _, _⟩ := hdk.form'
  obtain ⟨s, hs⟩ : ∃ b, w.heap.size = b := ⟨_, rfl⟩
  obtain ⟨W1, hW1⟩ : ∃ W, (w.alloc (.cells #[.slice ca cn cc, .int .i64 c.rule, .int .i64 c.lit, .slice ka kn kc, .int .i64 c.count] 45)).alloc (.cells #[.slice da dn dc, .int .i64 d.rule, .int .i64 d.lit, .slice ea en ec, .int .i64 d.count] 45) = W := ⟨_, rfl⟩
  have hb1 : Below w.heap.size w W1 := by rw [← hW1]; exact ((Below.refl _ _).alloc (Nat.le_refl _) _).alloc (by simp) _
  have hr0 : W1.heap[s]? = some (.cells #[.slice ca cn cc, .int .i64 c.rule, .int .i64 c.lit, .slice ka kn kc, .int .i64 c.count] 45) := by rw [← hW1]; exact old_at _ _ _ (new_at' _ _ hs.symm)
  have hr1 : W1.heap[s + 1]? = some (.cells #[.slice da dn dc, .int .i64 d.rule, .int .i64 d.lit, .slice ea en ec, .int .i64 d.count] 45) := by rw [← hW1]; exact new_at' _ _ (by simp; omega)
  have c0 : W1.cell? ⟨s, 0, none⟩ = some (.slice ca cn cc) := by rw [cell_of_row _ _ _ _ _ _ hr0]; rfl
  have c1 : W1.cell? ⟨s, 1, none⟩ = some (.int .i64 c.rule) := by rw [cell_of_row _ _ _ _ _ _ hr0]; rfl
  have c2 : W1.cell? ⟨s, 2, none⟩ = some (.int .i64 c.lit) := by rw [cell_of_row _ _ _ _ _ _ hr0]; rfl
  have c3 : W1.cell? ⟨s, 3, none⟩ = some (.slice ka kn kc) := by rw [cell_of_row _ _ _ _ _ _ hr0]; rfl
  have c4 : W1.cell? ⟨s, 4, none⟩ = some (.int .i64 c.count) := by rw [cell_of_row _ _ _ _ _ _ hr0]; rfl
  have d0 : W1.cell? ⟨s + 1, 0, none⟩ = some (.slice da dn dc) := by rw [cell_of_row _ _ _ _ _ _ hr1]; rfl
  have d1 : W1.cell? ⟨s + 1, 1, none⟩ = some (.int .i64 d.rule) := by rw [cell_of_row _ _ _ _ _ _ hr1]; rfl
  have d2 : W1.cell? ⟨s + 1, 2, none⟩ = some (.int .i64 d.lit) := by rw [cell_of_row _ _ _ _ _ _ hr1]; rfl
  have d3 : W1.cell? ⟨s + 1, 3, none⟩ = some (.slice ea en ec) := by rw [cell_of_row _ _ _ _ _ _ hr1]; rfl
  have d4 : W1.cell? ⟨s + 1, 4, none⟩ = some (.int .i64 d.count) := by rw [cell_of_row _ _ _ _ _ _ hr1]; rfl
  obtain ⟨K, hK⟩ : ∃ K, (c.kids == d.kids) = K := ⟨_, rfl⟩
  obtain ⟨Q, hQ⟩ : ∃ Q, (c.cls == d.cls) = Q := ⟨_, rfl⟩
  have HE : Hid (cEqB c d = ((c.rule == d.rule) && ((c.lit == d.lit) && ((c.count == d.count) && (K && Q))))) := Lib.hid (by unfold cEqB; rw [hK, hQ])
  have HKE : Hid (∀ W n, W = W1.drewN n → Calls Tryz.prog 29 #[.slice ka kn kc, .slice ea en ec] W (QuietPost W (.bool K))) := Lib.hid fun W n e => by
    subst e
    rw [← hK]
    exact equal_any _ _ _ _ _ ((hki.below hb1).drewN n) ((hdk.below hb1).drewN n)
  have HCE : Hid (∀ W n, W = W1.drewN n → Calls Tryz.prog 30 #[.slice ca cn cc, .slice da dn dc] W (QuietPost W (.bool Q))) := Lib.hid fun W n e => by
    subst e
    rw [← hQ]
    exact lequal_any _ _ _ _ _ (Clss.drewN (hcl.below hb1) n) (Clss.drewN (hdl.below hb1) n)
  have HB1 := Lib.hid hb1
  have HW1 := Lib.hid hW1
  have HS := Lib.hid hs
  clear hc hd hcl hki hdl hdk hb1 hr0 hr1 hW1 hs hK hQ
  by_cases hall : (c.rule == d.rule) = true ∧ (c.lit == d.lit) = true ∧ (c.count == d.count) = true
  · obtain ⟨g1, g2, g3⟩ := hall
    rw [g1, g2, g3] at HE
    rcases bool2 K with rfl | rfl
    · go_enter Tryz.func28, Tryz.ntmps28
      go_upto_region 1 with fail
      try rw [HW1.out, HS.out]
      go_wp2_with fail
      refine (HKE.out _ 0 rfl).mono ?_
      rintro e w1 ⟨rfl, n1, rfl⟩
      go_wp2_with fail
      refine (HCE.out _ n1 rfl).mono ?_
      rintro e w2 ⟨rfl, n2, rfl⟩
      go_wp2_with fail
      go_ret
      exact ⟨by rw [HE.out]; rfl, below_drewN HB1.out _⟩
    · go_enter Tryz.func28, Tryz.ntmps28
      go_upto_region 1 with fail
      try rw [HW1.out, HS.out]
      go_wp2_with fail
      refine (HKE.out _ 0 rfl).mono ?_
      rintro e w1 ⟨rfl, n1, rfl⟩
      go_wp2_with fail
      go_ret
      exact ⟨by rw [HE.out]; rfl, below_drewN HB1.out _⟩
  have HF : Hid (cEqB c d = false) := Lib.hid (by
    unfold cEqB
    rcases bool2 (c.rule == d.rule) with g1 | g1
    · rcases bool2 (c.lit == d.lit) with g2 | g2
      · rcases bool2 (c.count == d.count) with g3 | g3
        · exact absurd ⟨g1, g2, g3⟩ hall
        · rw [g3]; simp
      · rw [g2]; simp
    · rw [g1]; simp)
  have HALL := Lib.hid hall
  clear hall HE
  rcases bool2 (c.rule == d.rule) with g1 | g1
  · rcases bool2 (c.lit == d.lit) with g2 | g2
    · rcases bool2 (c.count == d.count) with g3 | g3
      · exact absurd ⟨g1, g2, g3⟩ HALL.out
      · go_enter Tryz.func28, Tryz.ntmps28
        go_upto_region 1 with fail
        try rw [HW1.out, HS.out]
        go_wp2_with fail
        go_ret
        exact ⟨by rw [HF.out]; rfl, HB1.out⟩
    · go_enter Tryz.func28, Tryz.ntmps28
      go_upto_region 1 with fail
      try rw [HW1.out, HS.out]
      go_wp2_with fail
      go_ret
      exact ⟨by rw [HF.out]; rfl, HB1.out⟩
  · go_enter Tryz.func28, Tryz.ntmps28
    go_upto_region 1 with fail
    try rw [HW1.out, HS.out]
    go_wp2_with fail
    go_ret
    exact ⟨by rw [HF.out]; rfl, HB1.out⟩

set_option maxRecDepth 100000 in
set_option maxHeartbeats 8000000 in
theorem teqf_any {F G : Nat → Prop} (v u : Value) (xs ys : List Claim) (w : World) (hx : Claims F w v xs) (hy : Claims G w u ys) :
    Calls Tryz.prog 27 #[v, u, .func (.func 28) #[] #[]] w (BoolPost w (tEqB xs ys)) := by
  obtain ⟨a, n, c, rfl, HN, hn⟩ := hx.form
  obtain ⟨b, m, d, rfl, HM, hm⟩ := hy.form
  obtain ⟨R, hR⟩ : ∃ R, tEqB xs ys = R := ⟨_, rfl⟩
  rw [hR]
  by_cases hnm : n = m
  case neg =>
    have hne : ((n : Int) != (m : Int)) = true := by rw [bne_iff_ne]; omega
    have HR : Hid (R = false) := Lib.hid (by rw [← hR]; exact tEqB_len fun e => hnm (by rw [HN.out, HM.out, e]))
    clear hR hnm hx hy
    go_enter Tryz.func27, Tryz.ntmps27
    go_wp2
    go_ret
    exact ⟨by rw [HR.out]; rfl, Below.refl _ _⟩
  subst hnm
  have hne : ((n : Int) != (n : Int)) = false := by simp
  have HR : Hid (R = tEqB (xs.drop 0) (ys.drop 0)) := Lib.hid hR.symm
  have HX := Lib.hid hx
  have HY := Lib.hid hy
  have HB0 : Hid (Below w.heap.size w w) := Lib.hid (Below.refl _ _)
  clear hR hx hy
  go_enter Tryz.func27, Tryz.ntmps27
  go_wp2
  go_loopg [17] n (fun g u17 wx => ∃ (k : Nat), k + g = n ∧ u17 = .int .i64 k ∧ Hid (Below w.heap.size w wx) ∧ Hid (R = tEqB (xs.drop k) (ys.drop k)))
  case atStart => exact ⟨0, by omega, rfl, HB0, HR⟩
  case round =>
  clear HB0 HR
  obtain ⟨k, hkg, rfl, HB, hinv⟩ := hrel
  by_cases hk : k < n
  case neg =>
    have HF : Hid (R = true) := Lib.hid (by rw [hinv.out, List.drop_eq_nil_of_le (by have := HN.out; omega), List.drop_eq_nil_of_le (by have := HM.out; omega)]; rfl)
    clear hinv
    go_wp2
    go_ret
    exact ⟨by rw [HF.out]; rfl, HB.out⟩
  obtain ⟨x, hxx, ex⟩ := drop_at (xs := xs) (k := k) (by have := HN.out; omega)
  obtain ⟨y, hyy, ey⟩ := drop_at (xs := ys) (k := k) (by have := HM.out; omega)
  obtain ⟨xb, xo, xcv, xkv, rfl, _, hxb, p0, p1, p2, p3, p4, hxv⟩ := (HX.out.below HB.out).at hxx
  obtain ⟨yb, yo, ycv, ykv, rfl, _, hyb, q0, q1, q2, q3, q4, hyv⟩ := (HY.out.below HB.out).at hyy
  obtain ⟨C, hC⟩ : ∃ C, cEqB x y = C := ⟨_, rfl⟩
  obtain ⟨L, hL⟩ : ∃ g, wr.heap.size = g := ⟨_, rfl⟩
  have hxc : Clss F wr xcv x.cls := hxv.1.1
  have hxk : Ints F wr xkv x.kids := hxv.1.2.2.2.1
  have hyc : Clss G wr ycv y.cls := hyv.1.1
  have hyk : Ints G wr ykv y.kids := hyv.1.2.2.2.1
  obtain ⟨xa, xn, xc, rfl, _, _⟩ := hxc.form'
  obtain ⟨za, zn, zc, rfl, _, _⟩ := hxk.form'
  obtain ⟨ya, yn, yc, rfl, _, _⟩ := hyc.form'
  obtain ⟨ta, tn, tc, rfl, _, _⟩ := hyk.form'
  obtain ⟨W1, hW1⟩ : ∃ W, wr.alloc (.cells #[.slice xa xn xc, .int .i64 x.rule, .int .i64 x.lit, .slice za zn zc, .int .i64 x.count] 45) = W := ⟨_, rfl⟩
  obtain ⟨W2, hW2⟩ : ∃ W, W1.alloc (.cells #[.slice ya yn yc, .int .i64 y.rule, .int .i64 y.lit, .slice ta tn tc, .int .i64 y.count] 45) = W := ⟨_, rfl⟩
  have hb1 : Below wr.heap.size wr W1 := by rw [← hW1]; exact (Below.refl _ _).alloc (Nat.le_refl _) _
  have hs1 : W1.heap.size = L + 1 := by rw [← hW1]; simp; omega
  have hb2 : Below W1.heap.size W1 W2 := by rw [← hW2]; exact (Below.refl _ _).alloc (Nat.le_refl _) _
  have hr1 : W2.heap[L]? = some (.cells #[.slice xa xn xc, .int .i64 x.rule, .int .i64 x.lit, .slice za zn zc, .int .i64 x.count] 45) := by rw [← hW2, ← hW1]; exact old_at _ _ _ (new_at' _ _ hL.symm)
  have hr2 : W2.heap[L + 1]? = some (.cells #[.slice ya yn yc, .int .i64 y.rule, .int .i64 y.lit, .slice ta tn tc, .int .i64 y.count] 45) := by rw [← hW2]; exact new_at' _ _ hs1.symm
  have c0 : W2.cell? ⟨L, 0, none⟩ = some (.slice xa xn xc) := by rw [cell_of_row _ _ _ _ _ _ hr1]; rfl
  have c1 : W2.cell? ⟨L, 1, none⟩ = some (.int .i64 x.rule) := by rw [cell_of_row _ _ _ _ _ _ hr1]; rfl
  have c2 : W2.cell? ⟨L, 2, none⟩ = some (.int .i64 x.lit) := by rw [cell_of_row _ _ _ _ _ _ hr1]; rfl
  have c3 : W2.cell? ⟨L, 3, none⟩ = some (.slice za zn zc) := by rw [cell_of_row _ _ _ _ _ _ hr1]; rfl
  have c4 : W2.cell? ⟨L, 4, none⟩ = some (.int .i64 x.count) := by rw [cell_of_row _ _ _ _ _ _ hr1]; rfl
  have d0 : W2.cell? ⟨L + 1, 0, none⟩ = some (.slice ya yn yc) := by rw [cell_of_row _ _ _ _ _ _ hr2]; rfl
  have d1 : W2.cell? ⟨L + 1, 1, none⟩ = some (.int .i64 y.rule) := by rw [cell_of_row _ _ _ _ _ _ hr2]; rfl
  have d2 : W2.cell? ⟨L + 1, 2, none⟩ = some (.int .i64 y.lit) := by rw [cell_of_row _ _ _ _ _ _ hr2]; rfl
  have d3 : W2.cell? ⟨L + 1, 3, none⟩ = some (.slice ta tn tc) := by rw [cell_of_row _ _ _ _ _ _ hr2]; rfl
  have d4 : W2.cell? ⟨L + 1, 4, none⟩ = some (.int .i64 y.count) := by rw [cell_of_row _ _ _ _ _ _ hr2]; rfl
  have q0 := below_c hb1 hyb q0
  have q1 := below_c hb1 hyb q1
  have q2 := below_c hb1 hyb q2
  have q3 := below_c hb1 hyb q3
  have q4 := below_c hb1 hyb q4
  have hb12 := hb1.trans (hb2.mono hb1.size)
  have hce := ceq_any _ _ _ _ x y W2 (hxv.below hb12) (hyv.below hb12)
  rw [hC] at hce
  have HCE := Lib.hid hce
  have HI : Hid (R = (C && tEqB (xs.drop (k + 1)) (ys.drop (k + 1)))) := Lib.hid (by rw [hinv.out, ex, ey, ← hC]; rfl)
  have HB2 : Hid (Below w.heap.size w W2) := Lib.hid (HB.out.trans (hb12.mono HB.out.size))
  have hk0 : (0 : Int) ≤ k := by omega
  have hk1 : (k : Int) < n := by omega
  have HW1 := Lib.hid hW1
  have HW2 := Lib.hid hW2
  have HL := Lib.hid hL
  have HS1 := Lib.hid hs1
  clear hinv hxx hyy ex ey hC hce hxv hyv hxc hxk hyc hyk hb1 hb2 hb12 hW1 hW2 hL hs1 hr1 hr2
  go_upto_region 6 with fail
  try rw [HW1.out, HL.out]
  go_upto_region 7 with fail
  try rw [HW2.out, HS1.out]
  clear p0 p1 p2 p3 p4 q0 q1 q2 q3 q4
  rcases bool2 C with rfl | rfl
  · have HF : Hid (R = tEqB (xs.drop (k + 1)) (ys.drop (k + 1))) := Lib.hid (by rw [HI.out]; rfl)
    clear HI
    go_wp2_with fail
    refine HCE.out.mono ?_
    rintro e w1 ⟨rfl, hbb⟩
    have HB3 : Hid (Below w.heap.size w w1) := Lib.hid (HB2.out.trans (hbb.mono HB2.out.size))
    clear hbb HB2 HB
    go_wp2_with fail
    go_roundg (gk - 1)
    case measure => omega
    case rel => exact ⟨k + 1, by omega, by go_num, HB3, HF⟩
  · have HF : Hid (R = false) := Lib.hid (by rw [HI.out]; rfl)
    clear HI
    go_wp2_with fail
    refine HCE.out.mono ?_
    rintro e w1 ⟨rfl, hbb⟩
    have HB3 : Hid (Below w.heap.size w w1) := Lib.hid (HB2.out.trans (hbb.mono HB2.out.size))
    clear hbb HB2 HB
    go_wp2_with fail
    go_ret
    exact ⟨by rw [HF.out]; rfl, HB3.out⟩

set_option maxRecDepth 100000 in
set_option maxHeartbeats 4000000 in
theorem teq_any {F G : Nat → Prop} (v u : Value) (xs ys : List Claim) (w : World) (hx : Claims F w v xs) (hy : Claims G w u ys) :
    Calls Tryz.prog 11 #[.agg #[v], .agg #[u]] w (BoolPost w (tEqB xs ys)) := by
  obtain ⟨s, hs⟩ : ∃ b, w.heap.size = b := ⟨_, rfl⟩
  obtain ⟨W1, hW1⟩ : ∃ W, (w.alloc (.cells #[v] 24)).alloc (.cells #[u] 24) = W := ⟨_, rfl⟩
  have hb1 : Below w.heap.size w W1 := by rw [← hW1]; exact ((Below.refl _ _).alloc (Nat.le_refl _) _).alloc (by simp) _
  have hr0 : W1.heap[s]? = some (.cells #[v] 24) := by rw [← hW1]; exact old_at _ _ _ (new_at' _ _ hs.symm)
  have hr1 : W1.heap[s + 1]? = some (.cells #[u] 24) := by rw [← hW1]; exact new_at' _ _ (by simp; omega)
  have c0 : W1.cell? ⟨s, 0, none⟩ = some v := by rw [cell_of_row _ _ _ _ _ _ hr0]; rfl
  have d0 : W1.cell? ⟨s + 1, 0, none⟩ = some u := by rw [cell_of_row _ _ _ _ _ _ hr1]; rfl
  have HT := Lib.hid (teqf_any v u xs ys W1 (hx.below hb1) (hy.below hb1))
  obtain ⟨a, n, c, rfl, _, _⟩ := hx.form
  obtain ⟨b, m, d, rfl, _, _⟩ := hy.form
  have HB1 := Lib.hid hb1
  have HW1 := Lib.hid hW1
  have HS := Lib.hid hs
  clear hx hy hb1 hr0 hr1 hW1 hs
  go_enter Tryz.func11, Tryz.ntmps11
  go_upto_region 1 with fail
  try rw [HW1.out, HS.out]
  go_wp2_with fail
  refine HT.out.mono ?_
  rintro e w1 ⟨rfl, hb⟩
  have HB2 := Lib.hid (HB1.out.trans (hb.mono HB1.out.size))
  clear hb
  go_wp2_with fail
  go_ret
  exact ⟨rfl, HB2.out⟩
end Go.Proofs.YtljaegmmfjllkaaGreatDoor
