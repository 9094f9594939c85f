/- Walk: the statement DdnnfDiagrams. No condition. -/
import Derived.Test.YtelobilhppoooaaUe
import Derived.Test.YtelobilhppoooaaUg
import Derived.Test.YtelobilhppoooaaDk
import Derived.Test.YtelobilhppoooaaDl
import Derived.Test.YtelobilhppoooaaDw7
import Derived.Test.YtelobilhppoooaaDh
import Derived.Deep.RegionHeld3
import Derived.WalkLawsBesides
import Derived.Shelf.Slices.CompactI
namespace Go.Proofs.Ytelobilhppoooaa
open Go.ChangeShapes Go.WideShapes Go.ChangeAt Go.RowKit
set_option linter.unusedVariables false

theorem dia_wf (m : Nat) (hm : m ≤ 6) (t : List Bool) (ht : t.length = 2 ^ m) : (checkedM ⟨m, dnfM (nodeM m t [] 0).1 (nodeM m t [] 0).2⟩).1 = 0 := by
  have h0 : DOk (m : Int) [] := ⟨List.nodup_nil, fun j f h => by simp at h⟩
  obtain ⟨⟨e, E, _, l⟩, hD, hr, _, hs⟩ := node_ok (V := m) m t [] 0 (by omega) (Int.le_refl _) ht h0
  have hpow : 2 ^ m ≤ 2 ^ 6 := Nat.pow_le_pow_right (by omega) hm
  exact dnf_checked hD (by omega) (by omega) (by rw [E]; simp; omega)
set_option maxRecDepth 100000 in
set_option maxHeartbeats 8000000 in
theorem diagrams_any (F : Nat → Prop) (vars : Int) (tv : Value) (t : List Bool) (w : World) (hx : Bools F w tv t) (hv : I64 vars) :
    Calls Try.prog 4 #[.int .i64 vars, tv] w (BoolPost w true) := by
  obtain ⟨ta, tn, tc, rfl, HTN, htn⟩ : ∃ a n c, tv = .slice a n c ∧ Hid (n = t.length) ∧ n ≤ 9223372036854775807 := by
    obtain ⟨a, c, h1, h2⟩ := hx.form
    exact ⟨a, _, c, h1, rfl, h2⟩
  have HX := Lib.hid hx
  have HV := Lib.hid hv
  clear hx hv
  by_cases h1 : vars < 0
  · have d1 : decide (vars < 0) = true := decide_eq_true h1
    go_enter Try.func4, Try.ntmps4
    go_wp2_with fail
    refine (known_any _).mono ?_
    rintro e w1 ⟨rfl, hb1⟩
    have HB1 := Lib.hid hb1
    clear hb1
    go_wp2_with fail
    go_ret
    exact ⟨rfl, HB1.out⟩
  by_cases h2 : 6 < vars
  · have d1 : decide (vars < 0) = false := decide_eq_false h1
    have d2 : decide (6 < vars) = true := decide_eq_true h2
    go_enter Try.func4, Try.ntmps4
    go_wp2_with fail
    refine (known_any _).mono ?_
    rintro e w1 ⟨rfl, hb1⟩
    have HB1 := Lib.hid hb1
    clear hb1
    go_wp2_with fail
    go_ret
    exact ⟨rfl, HB1.out⟩
  obtain ⟨m, rfl⟩ : ∃ m : Nat, vars = m := ⟨vars.toNat, by omega⟩
  have d1 : decide ((m : Int) < 0) = false := decide_eq_false h1
  have d2 : decide (6 < (m : Int)) = false := decide_eq_false h2
  have hm6 : m ≤ 6 := by omega
  obtain ⟨P, hP⟩ : ∃ P, 2 ^ m = P := ⟨_, rfl⟩
  have hP64 : P ≤ 64 := by rw [← hP]; exact (Nat.pow_le_pow_right (by omega) hm6 : 2 ^ m ≤ 2 ^ 6)
  have hsh : wrap64 (2 ^ m) = (P : Int) := by
    rw [← hP, show ((2 ^ m : Nat) : Int) = (2 : Int) ^ m by simp]
    have : ((2 : Int) ^ m) = ((2 ^ m : Nat) : Int) := by simp
    rw [this, hP]
    exact IntWalk.wrap64_in _ ⟨by omega, by omega⟩
  have HP := Lib.hid hP
  clear h1 h2 hP
  by_cases htp : tn = P
  case neg =>
    have d3 : ((tn : Int) != P) = true := by simp; omega
    go_enter Try.func4, Try.ntmps4
    go_wp2_with fail
    refine (known_any _).mono ?_
    rintro e w1 ⟨rfl, hb1⟩
    have HB1 := Lib.hid hb1
    clear hb1
    go_wp2_with fail
    go_ret
    exact ⟨rfl, HB1.out⟩
  subst htp
  have d3 : ((tn : Int) != tn) = false := by simp
  have ht : t.length = 2 ^ m := by rw [← HTN.out, HP.out]
  have hrig := bool_rig m t ht hm6
  have hbdd := (bdd_rig _ _ _).2 hrig
  have hwf := dia_wf m hm6 t ht
  have hlen := dnf_len m t ht
  have hnb := node_bd m t [] 0 (by omega) (by omega) (by have h1 : 2 ^ m ≤ 2 ^ 6 := Nat.pow_le_pow_right (by omega) hm6; simp; omega) (by simp)
  have hval := fun k hk => dia_table m k t ht hk
  have hnr := node_root (V := m) m t 0 (by omega) (Int.le_refl _) ht
  obtain ⟨root, ns, hroot, hns⟩ : ∃ root ns, (nodeM m t [] 0).1 = root ∧ (nodeM m t [] 0).2 = ns := ⟨_, _, rfl, rfl⟩
  have hboo := fun W (h : Bools F W (.slice ta tn tc) t) => boolean_any F m _ t W h ht hm6
  unfold BooPost at hboo
  rw [hroot, hns] at hrig hbdd hwf hlen hnb hnr
  have HNR := Lib.hid hnr
  simp only [hroot, hns] at hboo hval
  have HBO := Lib.hid hboo
  have HBD := Lib.hid hbdd
  have HWF := Lib.hid hwf
  have HLN := Lib.hid hlen
  have hl63 : ns.length ≤ 63 := by have h0 := hnb.1; rw [List.length_nil] at h0; have h1 : 2 ^ m ≤ 2 ^ 6 := Nat.pow_le_pow_right (by omega) hm6; omega
  have HNB := Lib.hid hnb
  have HVL := Lib.hid hval
  clear hnr hboo hbdd hwf hlen hnb hval hrig hroot hns ht
  go_enter Try.func4, Try.ntmps4
  go_wp2_with fail
  refine (known_any _).mono ?_
  rintro e w1 ⟨rfl, hb1⟩
  have HB1 := Lib.hid hb1
  have HX1 := Lib.hid (HX.out.below hb1)
  clear hb1
  go_wp2_with fail
  refine (HBO.out w1 HX1.out).mono ?_
  rintro e w2 ⟨na, nn, nc, rfl, hfk, hnc, hb2⟩
  obtain ⟨_, _, _, he, hnlH, _⟩ := hfk.form
  injection he with he1 he2 he3
  subst he1 he2 he3
  have HNN := hnlH
  clear hnlH
  obtain ⟨w3, hw3⟩ : ∃ W, w2.alloc (.cells #[.int .i64 m, .slice na nn nc, .int .i64 root] 24) = W := ⟨_, rfl⟩
  have hb3 : Below w2.heap.size w2 w3 := by rw [← hw3]; exact (Below.refl _ _).alloc (Nat.le_refl _) _
  have hs3 : w3.heap.size = w2.heap.size + 1 := by rw [← hw3]; simp
  obtain ⟨BB, hBB⟩ : ∃ B, w2.heap.size = B := ⟨_, rfl⟩
  have k0 : ∀ o v, #[Value.int .i64 m, .slice na nn nc, .int .i64 root][o]? = some v → w3.cell? ⟨BB, o, none⟩ = some v := fun o v h => by rw [← hBB, ← hw3, cell_of_row _ _ _ _ _ _ (new_at _ _)]; exact h
  have c0 := k0 0 _ rfl
  have c1 := k0 1 _ rfl
  have c2 := k0 2 _ rfl
  have hr := (HNB.out).2.1
  have hdof := dof_any _ m root _ ns w3 (hfk.below hb3) ⟨by omega, by omega⟩ ⟨by omega, by omega⟩ HBD.out
  have HDO := Lib.hid hdof
  have HFK := Lib.hid (hfk.below hb3)
  have HB3 : Hid (Below w.heap.size w w3) := Lib.hid ((HB1.out.trans (hb2.mono HB1.out.size)).trans (hb3.mono (by have := HB1.out.size; have := hb2.size; omega)))
  have HX3 := Lib.hid ((HX1.out.below hb2).below hb3)
  have HW3 := Lib.hid hw3
  have HBB := Lib.hid hBB
  have hwb : w.heap.size ≤ BB := by have := HB1.out.size; have := hb2.size; omega
  rw [hBB] at hs3
  clear hb2 hb3 hw3 hBB k0 hdof hr hfk HX1
  go_wp2_with fail
  rw [HW3.out, HBB.out]
  refine HDO.out.mono ?_
  rintro e w4 ⟨pa, pn, pc, rfl, hpt, hb4⟩
  obtain ⟨_, _, he, hpl⟩ := hpt.form
  injection he with he1 he2 he3
  subst he1 he3
  obtain ⟨w5, hw5⟩ : ∃ W, w4.alloc (.cells #[.int .i64 m, .slice pa pn pc] 42) = W := ⟨_, rfl⟩
  have hb5 : Below w4.heap.size w4 w5 := by rw [← hw5]; exact (Below.refl _ _).alloc (Nat.le_refl _) _
  have hs5 : w5.heap.size = w4.heap.size + 1 := by rw [← hw5]; simp
  obtain ⟨DD, hDD⟩ : ∃ D, w4.heap.size = D := ⟨_, rfl⟩
  have k0 : ∀ o v, #[Value.int .i64 m, .slice pa pn pc][o]? = some v → w5.cell? ⟨DD, o, none⟩ = some v := fun o v h => by rw [← hDD, ← hw5, cell_of_row _ _ _ _ _ _ (new_at _ _)]; exact h
  have d0 := k0 0 _ rfl
  have d1' := k0 1 _ rfl
  have hb45 := hb4.trans (hb5.mono hb4.size)
  have hs4 := hb4.size
  have e0 := below_c hb45 (by omega) c0
  have e1 := below_c hb45 (by omega) c1
  have e2 := below_c hb45 (by omega) c2
  have hPT := hpt.below hb5
  have HPT := Lib.hid hPT
  have HFK5 := Lib.hid (HFK.out.below hb45)
  have HX5 := Lib.hid (HX3.out.below hb45)
  have HB5 : Hid (Below w.heap.size w w5) := Lib.hid (HB3.out.trans (hb45.mono (by omega)))
  have hck := bddcheck_any _ (m : Int) root _ ns w5 HFK5.out ⟨by omega, by omega⟩ ⟨by have := HNB.out.2.1; omega, by have := HNB.out.2.1; omega⟩
  rw [HBD.out] at hck
  have HCK := Lib.hid hck
  have HW5 := Lib.hid hw5
  have HDD := Lib.hid hDD
  rw [hDD] at hs4 hs5
  have hnn : nn ≤ 63 := by have := HNN.out; omega
  have hln := HLN.out
  rw [← he2, ← HNN.out] at hln
  have hl1 : ((pn : Int) != max 1 ((nn : Int) + 2 * min 1 (nn : Int))) = false := by rw [hln]; simp
  have hwr : IntKind.i64.wrap ((nn : Int) + 2 * min 1 (nn : Int)) = (nn : Int) + 2 * min 1 (nn : Int) := IntWalk.i64_in _ ⟨by omega, by omega⟩
  have HPN := Lib.hid he2
  have hpn : pn ≤ 100 := by omega
  rw [← hw5] at e0 e1 e2
  clear hpt hb4 hb5 hw5 hDD k0 hb45 hPT hck he2 hln HDO hpl c0 c1 c2 HFK HX3
  go_wp2_with fail
  rw [HW5.out] at e0 e1 e2 ⊢
  rw [HDD.out]
  refine HCK.out.mono ?_
  rintro e w6 ⟨rfl, hb6⟩
  have f0 := below_c hb6 (by omega) e0
  have f1 := below_c hb6 (by omega) e1
  have f2 := below_c hb6 (by omega) e2
  have g0 := below_c hb6 (by omega) d0
  have g1 := below_c hb6 (by omega) d1'
  have HPT6 := Lib.hid (HPT.out.below hb6)
  have HFK6 := Lib.hid (HFK5.out.below hb6)
  have HX6 := Lib.hid (HX5.out.below hb6)
  have HB6 : Hid (Below w.heap.size w w6) := Lib.hid (HB5.out.trans (hb6.mono (by omega)))
  have hs6 := hb6.size
  have hcl := check_any _ (m : Int) _ _ w6 HPT6.out ⟨by omega, by omega⟩
  rw [← check_eq, HWF.out] at hcl
  have HCL := Lib.hid hcl
  clear hcl hb6 HPT HFK5 HX5 e0 e1 e2 d0 d1' HCK
  go_wp2_with fail
  refine HCL.out.mono ?_
  rintro e w7 ⟨rfl, hb7⟩
  have q0 := below_c hb7 (by omega) f0
  have q1 := below_c hb7 (by omega) f1
  have q2 := below_c hb7 (by omega) f2
  have p0 := below_c hb7 (by omega) g0
  have p1 := below_c hb7 (by omega) g1
  have HPT7 := Lib.hid (HPT6.out.below hb7)
  have HFK7 := Lib.hid (HFK6.out.below hb7)
  have HX7 := Lib.hid (HX6.out.below hb7)
  have HB7 : Hid (Below w.heap.size w w7) := Lib.hid (HB6.out.trans (hb7.mono (by omega)))
  have hs7 := hb7.size
  have HBL : Hid (Below w7.heap.size w7 w7) := Lib.hid (Below.refl _ _)
  clear hb7 HPT6 HFK6 HX6 f0 f1 f2 g0 g1 HCL
  go_wp2_with fail
  go_loopg [72] (nn) (fun gg u72 wx => ∃ (k : Nat), k + gg = nn ∧ u72 = .int .i64 k ∧ Hid (Below w7.heap.size w7 wx))
  case atStart => exact ⟨0, by omega, rfl, HBL⟩
  case round =>
  obtain ⟨k, hkg, rfl, HBW⟩ := hrel
  have hsx := HBW.out.size
  have hdl : DD < wr.heap.size := by omega
  by_cases hk : k < nn
  · obtain ⟨f, hf⟩ : ∃ f, ns[k]? = some f := ⟨_, List.getElem?_eq_getElem (by rw [← HNN.out]; exact hk)⟩
    have hne : ns ≠ [] := by intro h; rw [h] at hf; simp at hf
    have hrr : root = 1 + ns.length := by
      rcases HNR.out with ⟨_, h⟩ | ⟨_, h⟩
      · exact absurd h hne
      · exact h
    have hpos : 0 < ns.length := List.length_pos_iff.2 hne
    have hpk : (dnfM root ns)[2 + k]? = some (forkP f) := by
      unfold dnfM
      rw [if_neg (by omega), if_neg (by omega), List.getElem?_append_right (by simp)]
      simp [hf]
    obtain ⟨fb, fo, rfl, _, hfb, x0, x1, x2, hfo⟩ := (HFK7.out.below HBW.out).at hf
    obtain ⟨_, _, _, _, _, hfv⟩ := bdd_ok HBD.out
    obtain ⟨b5, b6⟩ := hfv f (List.mem_of_getElem? hf)
    obtain ⟨fv, flo, fhi⟩ := f
    obtain ⟨pb, po, kv, rfl, _, hpb, y0, y1, y2, hkv, _, _⟩ := (HPT7.out.below HBW.out).at hpk
    simp only [forkP] at y0 y1 hkv
    simp only at x0 x1 x2 b5 b6
    obtain ⟨ka, kn, kc, rfl, HKN, hkn⟩ := hkv.form'
    have hdk : decide ((k : Int) < nn) = true := by simp; omega
    have hdk' : decide (k < nn) = true := decide_eq_true hk
    obtain ⟨w8, hw8⟩ : ∃ W, ((wr.alloc (.cells #[.int .i64 fv, .int .i64 flo, .int .i64 fhi] 48)).alloc (.cells #[.int .i64 4, .int .i64 (fv + 1), .slice ka kn kc] 52)).alloc (.cells #[.int .i64 flo, .int .i64 fhi] 3) = W := ⟨_, rfl⟩
    have hb8 : Below wr.heap.size wr w8 := by rw [← hw8]; exact (((Below.refl _ _).alloc (Nat.le_refl _) _).alloc (by simp) _).alloc (by simp; omega) _
    have hk2 : Ints (fun b => b = wr.heap.size + 1 + 1) w8 (.slice (some ⟨wr.heap.size + 1 + 1, 0, none⟩) 2 2) [flo, fhi] := ints_block [flo, fhi] 2 (by rw [← hw8]; exact new_at' _ _ (by simp)) (by simp) (by simp) (by intro x hx; simp at hx; rcases hx with rfl | rfl; exact hfo.2.1; exact hfo.2.2)
    have heq := equal_any _ _ _ _ w8 (hkv.below hb8) hk2
    rw [beq_self_eq_true] at heq
    have HEQ := Lib.hid heq
    have HB8 := Lib.hid hb8
    have HW8 := Lib.hid hw8
    have t1 := below_c HBW.out (by omega) q1
    have t2 := below_c HBW.out (by omega) p1
    have u2 := cell_alloc (.cells #[.int .i64 fv, .int .i64 flo, .int .i64 fhi] 48) t2
    have u3 := cell_alloc (.cells #[.int .i64 fv, .int .i64 flo, .int .i64 fhi] 48) y0
    have u4 := cell_alloc (.cells #[.int .i64 fv, .int .i64 flo, .int .i64 fhi] 48) y1
    have u5 := cell_alloc (.cells #[.int .i64 fv, .int .i64 flo, .int .i64 fhi] 48) y2
    have hix : (2 : Int) + k < pn := by have := (List.getElem?_eq_some_iff.1 hpk).1; have := HPN.out; omega
    clear hfb hf hne hrr hpos hpk hfo hkv hb8 hw8 hk2 heq hpb hfv
    go_wp2_with fail
    rw [HW8.out]
    refine HEQ.out.mono ?_
    rintro e w9 ⟨rfl, nd, rfl⟩
    have HB9 : Hid (Below w7.heap.size w7 (w8.drewN nd)) := Lib.hid (below_drewN (HBW.out.trans (HB8.out.mono hsx)) nd)
    obtain ⟨wd, hwd⟩ : ∃ W, w8.drewN nd = W := ⟨_, rfl⟩
    rw [hwd] at HB9 ⊢
    clear hwd HEQ HB8 HW8
    go_wp2_with fail
    go_roundg (gk - 1)
    case measure => omega
    case rel => exact ⟨k + 1, by omega, by go_num, HB9⟩
  obtain rfl : k = nn := by omega
  have hdk : decide ((k : Int) < k) = false := by simp
  have hdk' : decide (k < k) = false := decide_eq_false (by omega)
  have z0 := below_c HBW.out (by omega) p0
  have z1 := below_c HBW.out (by omega) p1
  have HPTr := Lib.hid (HPT7.out.below HBW.out)
  have HXr := Lib.hid (HX7.out.below HBW.out)
  have HBr : Hid (Below w.heap.size w wr) := Lib.hid (HB7.out.trans (HBW.out.mono (by omega)))
  obtain ⟨wo, hwo⟩ : ∃ W, W = wr := ⟨_, rfl⟩
  have HBL2 : Hid (Below wo.heap.size wo wr) := Lib.hid (by rw [hwo]; exact Below.refl _ _)
  rw [← hwo] at z0 z1 HPTr HXr HBr hdl
  have hwf := wf_of_checked m (dnfM root ns) [] (by have h := HWF.out; unfold checkedM at h; split at h; cases h; split at h; cases h; split at h; cases h; exact h)
  have HWF2 := Lib.hid hwf
  clear hwf p0 p1 q0 q1 q2 HPT7 HFK7 HX7 HB7 HBW hwo hsx
  go_wp2_with fail
  go_loopg [108] (tn) (fun gg u108 wx => ∃ (k : Nat), k + gg = tn ∧ u108 = .int .i64 k ∧ Hid (Below wo.heap.size wo wx))
  case atStart => exact ⟨0, by omega, rfl, HBL2⟩
  case round =>
  obtain ⟨j, hkg, rfl, HBR⟩ := hrel
  have hszr := HBR.out.size
  by_cases hj : j < tn
  · obtain ⟨x, hxj⟩ : ∃ x, t[j]? = some x := ⟨_, List.getElem?_eq_getElem (by rw [← HTN.out]; exact hj)⟩
    obtain ⟨tb, tp, rfl, _, htb, y2⟩ := (HXr.out.below HBR.out).at hxj
    have hev : evalM (dnfM root ns) (assM m j) = x := by
      rw [HVL.out j (by rw [HP.out]; exact hj), List.getD_eq_getElem?_getD, hxj]
      rfl
    have hxx : (x != x) = false := by simp
    have y0 := below_c HBR.out hdl z0
    have y1 := below_c HBR.out hdl z1
    have hlr : DD < wr.heap.size := by omega
    have hdj : decide ((j : Int) < tn) = true := by simp; omega
    have hdj' : decide (j < tn) = true := decide_eq_true hj
    have HAS := Lib.hid (assign_any m j wr.drew (by omega) (by omega))
    have HHO : Hid (∀ W v, Bools (fun b => wr.heap.size ≤ b) W v (assM m j) → Below wr.heap.size wr W → Calls Try.prog 19 #[.agg #[.int .i64 m, .slice pa pn pc], v] W fun e w' => e = .returned (.bool x) ∧ Below W.heap.size W w') := Lib.hid fun W v hb hw => by
      have := holds_any (m : Int) (.slice pa pn pc) v (dnfM root ns) (assM m j) W ((HPTr.out.below HBR.out).below hw) hb (by have := HPN.out; have := HLN.out; omega) (by have := HPN.out; omega) (by rw [assM_len]; exact HWF2.out) (by rw [assM_len]; omega)
      rw [hev] at this
      exact this
    clear hev hxj
    go_upto_region 19 with fail
    go_region_held3 (fun w' => w'.cell? ⟨DD, 0, none⟩ = some (.int .i64 m) ∧ w'.cell? ⟨DD, 1, none⟩ = some (.slice pa pn pc) ∧ w'.cell? ⟨tb, tp + j, none⟩ = some (.bool x))
      (first | exact ⟨y0, y1, y2⟩ | exact ⟨u0, u1, u2⟩ | exact ⟨k0, k1, k2⟩ | go_keep)
      (first | (go_at_call 20; refine HAS.out.mono ?_; rintro e w5 ⟨iv, rfl, hbo, hb5⟩; have HBO := Lib.hid hbo; obtain ⟨ia, ic, rfl, _⟩ := hbo.form; have hbd : Below wr.heap.size wr w5 := ⟨hb5.os, hb5.tape, hb5.output, hb5.size, hb5.block⟩; have HBD := Lib.hid hbd; have u0 := below_c hbd hlr y0; have u1 := below_c hbd hlr y1; have u2 := below_c hbd htb y2; clear hbo hb5 hbd)
             | (go_at_call 19; refine (HHO.out w5 _ HBO.out HBD.out).mono ?_; rintro e w6 ⟨rfl, hb6⟩; have HB6 := Lib.hid hb6; have k0 := below_c hb6 (Nat.lt_of_lt_of_le hlr HBD.out.size) u0; have k1 := below_c hb6 (Nat.lt_of_lt_of_le hlr HBD.out.size) u1; have k2 := below_c hb6 (Nat.lt_of_lt_of_le htb HBD.out.size) u2; clear hb6))
    have HBN : Hid (Below wo.heap.size wo w6) := Lib.hid (HBR.out.trans ((HBD.out.trans (HB6.out.mono HBD.out.size)).mono hszr))
    clear HBD HB6 HBO HAS HHO
    go_wp2_with fail
    go_roundg (gk - 1)
    case measure => omega
    case rel => exact ⟨j + 1, by omega, by go_num, HBN⟩
  obtain rfl : j = tn := by omega
  have hdj : decide ((j : Int) < j) = false := by simp
  have hdj' : decide (j < j) = false := decide_eq_false (by omega)
  have HBF : Hid (Below w.heap.size w wr) := Lib.hid (HBr.out.trans (HBR.out.mono HBr.out.size))
  go_wp2_with fail
  go_ret
  exact ⟨rfl, HBF.out⟩
end Go.Proofs.Ytelobilhppoooaa
