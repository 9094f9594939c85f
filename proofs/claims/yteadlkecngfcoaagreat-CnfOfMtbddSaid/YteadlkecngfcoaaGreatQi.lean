/- Walk: cnf.OfBdd. No condition. -/
import Derived.Test.YteadlkecngfcoaaGreatQh
import Derived.Deep.RegionHeld3
namespace Go.Proofs.YteadlkecngfcoaaGreat
open Go.ChangeShapes Go.WideShapes Go.ChangeAt Go.RowKit
set_option linter.unusedVariables false

theorem set3_ne {w : World} {b b' o : Nat} {v x y z : Value} (hne : b' ≠ b) (h : w.cell? ⟨b', o, none⟩ = some v) : (((w.setCell ⟨b, 0, none⟩ x).setCell ⟨b, 1, none⟩ y).setCell ⟨b, 2, none⟩ z).cell? ⟨b', o, none⟩ = some v :=
  set_ne (by omega) (set_ne (by omega) (set_ne (by omega) h))
theorem OfPost.no {W : World} {vars root c : Int} {ns : List Fork} {w' : World} (hb : Below W.heap.size W w') (h : ofBddM vars root ns = c) (hc : c ≠ 0) :
    OfPost W vars root ns (.returned (.tuple #[.agg #[.int .i64 0, .int .i64 0, .slice none 0 0], .int .i64 c])) w' := ⟨_, by rw [h], hb, fun _ => rfl, fun h0 => absurd (h ▸ h0) hc⟩
set_option maxRecDepth 100000 in
set_option maxHeartbeats 8000000 in
theorem ofbdd_any (F : Nat → Prop) (vars root : Int) (nv : Value) (ns : List Fork) (w : World) (hx : Forks F w nv ns) (hv : I64 vars) (hr : I64 root) :
    Calls Tryz.prog 17 #[.agg #[.int .i64 vars, nv, .int .i64 root]] w (OfPost w vars root ns) := by
  obtain ⟨a, n, c, rfl, HN, hn⟩ := hx.form
  obtain ⟨W2, hW2⟩ : ∃ W2, ((w.alloc (.cells #[.int .i64 vars, .slice a n c, .int .i64 root] 51)).alloc (.cells #[.int .i64 0, .int .i64 0, .slice none 0 0] 31)) = W2 := ⟨_, rfl⟩
  have hb2 : Below w.heap.size w W2 := by rw [← hW2]; exact ((Below.refl _ _).alloc (Nat.le_refl _) _).alloc (by simp) _
  have hs2 : W2.heap.size = w.heap.size + 1 + 1 := by rw [← hW2]; simp
  have c0 : W2.cell? ⟨w.heap.size, 0, none⟩ = some (.int .i64 vars) := by rw [← hW2]; exact cell_alloc _ (by simp)
  have c1 : W2.cell? ⟨w.heap.size, 1, none⟩ = some (.slice a n c) := by rw [← hW2]; exact cell_alloc _ (by simp)
  have c2 : W2.cell? ⟨w.heap.size, 2, none⟩ = some (.int .i64 root) := by rw [← hW2]; exact cell_alloc _ (by simp)
  have d0 : W2.cell? ⟨w.heap.size + 1, 0, none⟩ = some (.int .i64 0) := by rw [← hW2, cell_of_row _ _ _ _ _ _ (new_at' _ _ (by simp))]; rfl
  have d1 : W2.cell? ⟨w.heap.size + 1, 1, none⟩ = some (.int .i64 0) := by rw [← hW2, cell_of_row _ _ _ _ _ _ (new_at' _ _ (by simp))]; rfl
  have d2 : W2.cell? ⟨w.heap.size + 1, 2, none⟩ = some (.slice none 0 0) := by rw [← hW2, cell_of_row _ _ _ _ _ _ (new_at' _ _ (by simp))]; rfl
  have df : ∀ o, W2.frozen? ⟨w.heap.size + 1, o, none⟩ = false := fun o => by
    rw [← hW2]
    simp only [World.frozen?, new_at' (w.alloc (.cells #[.int .i64 vars, .slice a n c, .int .i64 root] 51)) (.cells #[.int .i64 0, .int .i64 0, .slice none 0 0] 31) (n := w.heap.size + 1) (by simp)]
    simp
  have hX2 := hx.lt.move (w' := W2) fun b hb _ => hb2.block b hb.2
  have HX2 := Lib.hid hX2
  have hck := bddcheck_any _ vars root (.slice a n c) ns W2 hX2 hv hr
  obtain ⟨C, hC⟩ : ∃ C, bddM vars root ns = C := ⟨_, rfl⟩
  have HOK : Hid (C = 0 → 0 ≤ vars ∧ vars ≤ 40 ∧ ns.length ≤ 4096 ∧ Back ns ∧ (0 ≤ root ∧ root ≤ 1 + ns.length) ∧ ∀ f ∈ ns, 0 ≤ f.1 ∧ f.1 < vars) := Lib.hid fun h => bdd_ok (hC.trans h)
  have HM : Hid (ofBddM vars root ns = if C ≠ 0 then C else makeM (vars + ns.length) vars (bddC vars root ns)) := Lib.hid (by unfold ofBddM; rw [hC])
  rw [hC] at hck
  have HCK := Lib.hid hck
  have HB2 := Lib.hid hb2
  have HW2 := Lib.hid hW2
  clear hx hX2 hck hC hW2 hb2
  go_enter Tryz.func17, Tryz.ntmps17
  go_wp2_with fail
  rw [HW2.out]
  refine HCK.out.mono ?_
  rintro e w3 ⟨rfl, hb3⟩
  have e0 := below_c hb3 (block_lt c0) c0
  have e1 := below_c hb3 (block_lt c1) c1
  have e2 := below_c hb3 (block_lt c2) c2
  have g0 := below_c hb3 (block_lt d0) d0
  have g1 := below_c hb3 (block_lt d1) d1
  have g2 := below_c hb3 (block_lt d2) d2
  have gf : ∀ o, w3.frozen? ⟨w.heap.size + 1, o, none⟩ = false := fun o => below_z hb3 (block_lt d0) (df o)
  have HB3 : Hid (Below w.heap.size w w3) := Lib.hid (HB2.out.trans (hb3.mono (by omega)))
  have HX3 := Lib.hid (HX2.out.below hb3)
  have hs3 : w.heap.size + 1 + 1 ≤ w3.heap.size := by have := hb3.size; omega
  clear hb3 HX2 HCK c0 c1 c2 d0 d1 d2 df HB2 HW2 hs2
  by_cases h0 : C = 0
  case neg =>
    have HF : Hid (ofBddM vars root ns = C) := Lib.hid (by rw [HM.out, if_pos h0])
    have hd : (C != 0) = true := by simp [h0]
    have HC := Lib.hid h0
    clear h0
    go_wp2_with fail
    obtain ⟨v0, v1, v2⟩ := set3_at (x := .int .i64 0) (y := .int .i64 0) (z := .slice none 0 0) g0 g1 g2
    refine bodyPost_ret (v := .tuple #[.agg #[.int .i64 0, .int .i64 0, .slice none 0 0], .int .i64 C]) (by simp [results, Tryz.results17, go_sem, v0, v1, v2]) rfl ?_
    exact .no (set3_below _ _ _ HB3.out (Nat.le_succ _)) HF.out HC.out
  subst h0
  obtain ⟨hv0, hv1, hnl, hbk, ⟨hr0, hr1⟩, hfv⟩ := HOK.out rfl
  have HBK := Lib.hid hbk
  have HFV := Lib.hid hfv
  have HM2 : Hid (ofBddM vars root ns = makeM (vars + ns.length) vars (bddC vars root ns)) := Lib.hid (by rw [HM.out, if_neg (by simp)])
  have hnn : n ≤ 4096 := by rw [HN.out]; exact hnl
  have hrn : root ≤ 1 + (n : Int) := by rw [HN.out]; exact hr1
  have hd0 : ((0 : Int) != 0) = false := by simp
  clear hbk hfv HOK HM hnl hr1
  have hltw : w.heap.size < w3.heap.size := by omega
  have hltw1 : w.heap.size + 1 < w3.heap.size := by omega
  have hnew : (w3.alloc (.cells #[.slice none 0 0] 57)).cell? ⟨w3.heap.size, 0, none⟩ = some (.slice none 0 0) := by simp
  have hnewf : (w3.alloc (.cells #[.slice none 0 0] 57)).frozen? ⟨w3.heap.size, 0, none⟩ = false := by
    simp only [World.frozen?, new_at]
    simp
  have HWR0 : Hid (WrAt w3.heap.size (w3.heap.size + 1) (w3.alloc (.cells #[.slice none 0 0] 57)) (.slice none 0 0) []) := Lib.hid ⟨hnew, hnewf, Out.nil _ _, by simp⟩
  have HBX0 : Hid (Below w3.heap.size w3 (w3.alloc (.cells #[.slice none 0 0] 57))) := Lib.hid ((Below.refl _ _).alloc (Nat.le_refl _) _)
  obtain ⟨Q, hQ⟩ : ∃ Q, nodesC vars ns 0 = Q := ⟨_, rfl⟩
  have HQ0 : Hid (Q = nodesC vars (ns.drop 0) 0) := Lib.hid hQ.symm
  have HQE : Hid (bddC vars root ns = Q ++ addM [nameM vars root]) := Lib.hid (by rw [← hQ]; rfl)
  obtain ⟨wb, hwb⟩ : ∃ wb, w3.heap.size = wb := ⟨_, rfl⟩
  have HWB := Lib.hid hwb
  rw [hwb] at HWR0 HBX0 hltw hltw1
  clear hnew hnewf hQ
  go_wp2_with fail
  clear hwb
  go_loopg [25] n (fun gg u25 wx => ∃ (k : Nat) (lv : Value) (ps : List (Value × List Int)), k + gg = n ∧ u25 = .int .i64 k ∧ Hid (Below wb w3 wx) ∧ Hid (WrAt wb (wb + 1) wx lv ps) ∧ ps.length ≤ 4 * k ∧ Hid (Q = ps.map Prod.snd ++ nodesC vars (ns.drop k) k))
  case atStart => exact ⟨0, _, [], by omega, rfl, HBX0, HWR0, by simp, HQ0⟩
  case round =>
  clear HBX0 HWR0 HQ0
  obtain ⟨K, lv0, ps0, hkg, rfl, HBX0, HWR0, hpk, HQ⟩ := hrel
  have t0 := below_c HBX0.out hltw e0
  have t1 := below_c HBX0.out hltw e1
  have t2 := below_c HBX0.out hltw e2
  have hwl := block_lt HWR0.out.1
  have hltr : w.heap.size < wr.heap.size := by omega
  have HPL0 : Hid (ps0.length ≤ 4 * K + 0) := Lib.hid hpk
  by_cases hk : K < n
  case neg =>
    have hd : decide ((K : Int) < n) = false := by simp; omega
    have hd' : decide (K < n) = false := decide_eq_false hk
    have HQF : Hid (Q = ps0.map Prod.snd) := Lib.hid (by
      rw [HQ.out, List.drop_eq_nil_of_le (by have := HN.out; omega)]
      exact List.append_nil _)
    clear HQ
    have hnr := name_any w.heap.size vars root wr t0 ⟨hv0, hv1⟩ ⟨hr0, by omega⟩
    have hnr2 := nameM_range (vars := vars) (ref := root) ⟨hv0, hv1⟩ ⟨hr0, by omega⟩
    obtain ⟨RT, hRT⟩ : ∃ R, nameM vars root = R := ⟨_, rfl⟩
    rw [hRT] at hnr hnr2 HQE
    have HNR := Lib.hid hnr
    have q0 := below_c HBX0.out hltw1 g0
    have q1 := below_c HBX0.out hltw1 g1
    have q2 := below_c HBX0.out hltw1 g2
    have qf : ∀ o, wr.frozen? ⟨w.heap.size + 1, o, none⟩ = false := fun o => below_z HBX0.out hltw1 (gf o)
    clear hnr hRT g0 g1 g2 gf e0 e1 e2
    go_wp2_with fail
    refine HNR.out.mono ?_
    rintro e wx0 ⟨rfl, rfl⟩
    go_wp2_with fail
    have hba : Below wx0.heap.size wx0 (wx0.alloc (.cells #[.int .i64 RT] 3)) := (Below.refl _ _).alloc (Nat.le_refl _) _
    have had := add_any _ wb (wb + 1) lv0 _ ps0 [RT] _ (HWR0.out.below hba) (Nat.lt_succ_self _) (ints_block [RT] 1 (new_at wx0 (.cells #[.int .i64 RT] 3)) (by simp) (by simp) (by intro y hy; simp at hy; unfold I64; omega)) (by have := HPL0.out; omega) (by simp)
    have HBA := Lib.hid hba
    clear hba
    refine Calls.mono had ?_
    rintro e wx1 ⟨rfl, hb1, hz1, lv1, ps1, hw1, hp1⟩
    have hbx := HBA.out.mono (show wb ≤ wx0.heap.size by omega) |>.trans hb1
    have HBX1 : Hid (Below wb w3 wx1) := Lib.hid (HBX0.out.trans hbx)
    have r0 := below_c hbx hltw1 q0
    have r1 := below_c hbx hltw1 q1
    have r2 := below_c hbx hltw1 q2
    have rf : ∀ o, wx1.frozen? ⟨w.heap.size + 1, o, none⟩ = false := fun o => below_z hbx hltw1 (qf o)
    have s0 := below_c hbx hltw t0
    have s1 := below_c hbx hltw t1
    have s2 := below_c hbx hltw t2
    have y0 := hw1.1
    have hlx1 := block_lt y0
    obtain ⟨la, ln, lc, rfl⟩ : ∃ a n c, lv1 = .slice a n c := by
      obtain ⟨a, c, h⟩ := own_form hw1.2.2.1.1
      exact ⟨a, _, c, h⟩
    have hcl := hw1.2.2.1.clss (by
      have h1 := congrArg List.length hp1
      have h2 := addM_len [RT]
      have h3 := HPL0.out
      simp only [List.length_append, List.length_map] at h1
      omega)
    have hce : ps1.map Prod.snd = bddC vars root ns := by rw [hp1, HQE.out, HQF.out]
    rw [hce] at hcl
    have hmk := make_any _ (vars + n) vars (.slice la ln lc) (bddC vars root ns) wx1.drew (Rows1.move (w' := wx1.drew) (fun _ _ _ _ _ h hm => h.move hm) hcl fun _ _ _ => rfl) (by unfold I64; omega) hv (by have := bddC_len vars root ns; have := HN.out; omega) (bddC_each vars root ns)
    have HMK := Lib.hid hmk
    have hwv : IntKind.i64.wrap (vars + (n : Int)) = vars + n := IntWalk.i64_in _ ⟨by omega, by omega⟩
    have hlt9 : w.heap.size < wx1.heap.size := by omega
    have hlt8 : w.heap.size + 1 < wx1.heap.size := by omega
    clear had hbx hb1 hz1 hw1 hp1 hcl hce hmk HBA HWR0 HBX0 HPL0 HNR q0 q1 q2 qf t0 t1 t2
    have hne1 : w.heap.size ≠ w.heap.size + 1 := by omega
    have hne2 : wb ≠ w.heap.size + 1 := by omega
    have HM3 : Hid (ofBddM vars root ns = makeM (vars + n) vars (bddC vars root ns)) := Lib.hid (by rw [HM2.out, HN.out])
    obtain ⟨MK, hMK⟩ : ∃ M, makeM (vars + n) vars (bddC vars root ns) = M := ⟨_, rfl⟩
    unfold MakePost at HMK
    rw [hMK] at HMK HM3
    clear hMK HM2
    go_upto_region 16 with fail
    by_cases hm : MK = 0
    · have HMZ := Lib.hid hm
      clear hm
      go_region_held3 (fun w' => w'.cell? ⟨w.heap.size, 0, none⟩ = some (.int .i64 vars) ∧ w'.cell? ⟨w.heap.size, 1, none⟩ = some (.slice a n c) ∧ w'.cell? ⟨wb, 0, none⟩ = some (.slice la ln lc))
        (first | exact ⟨s0, s1, y0⟩ | exact ⟨below_c hb9 hlt9 s0, below_c hb9 hlt9 s1, below_c hb9 hlx1 y0⟩ | exact ⟨set3_ne hne1 (below_c hb9 hlt9 s0), set3_ne hne1 (below_c hb9 hlt9 s1), set3_ne hne2 (below_c hb9 hlx1 y0)⟩ | go_keep)
        (first | (go_at_call 23; refine HMK.out.mono ?_; rintro e w9 ⟨v9, rfl, hb9, hno9, hyes9⟩; obtain ⟨cv9, rfl, hc9⟩ := hyes9 HMZ.out; obtain ⟨ca, cn, cc, rfl, _, _⟩ := hc9.form'; have HC9 := Lib.hid hc9; have z0 := below_c hb9 hlt8 r0; have z1 := below_c hb9 hlt8 r1; have z2 := below_c hb9 hlt8 r2; have zf : ∀ o, w9.frozen? ⟨w.heap.size + 1, o, none⟩ = false := fun o => below_z hb9 hlt8 (rf o); clear hc9 hyes9 hno9))
      have hb9' : Below w.heap.size wx1 w9 := (show Below wx1.heap.size wx1 w9 from ⟨hb9.os, hb9.tape, hb9.output, hb9.size, hb9.block⟩).mono (by omega)
      have HBF : Hid (Below w.heap.size w (((w9.setCell ⟨w.heap.size + 1, 0, none⟩ (.int .i64 (vars + n))).setCell ⟨w.heap.size + 1, 1, none⟩ (.int .i64 vars)).setCell ⟨w.heap.size + 1, 2, none⟩ (.slice ca cn cc))) := Lib.hid (set3_below _ _ _ ((HB3.out.trans (HBX1.out.mono (by omega))).trans hb9') (Nat.le_succ _))
      have HCF : Hid (Clss (fun b => w.heap.size ≤ b) (((w9.setCell ⟨w.heap.size + 1, 0, none⟩ (.int .i64 (vars + n))).setCell ⟨w.heap.size + 1, 1, none⟩ (.int .i64 vars)).setCell ⟨w.heap.size + 1, 2, none⟩ (.slice ca cn cc)) (.slice ca cn cc) (canM (bddC vars root ns))) :=
        Lib.hid (Rows1.mono (fun _ _ _ _ _ h hg => h.mono hg) (Rows1.move (fun _ _ _ _ _ h hm => h.move hm) HC9.out fun b hb hlt => set3_block _ _ _ (by have : wx1.heap.size ≤ b := hb; omega)) fun b hb => show w.heap.size ≤ b from Nat.le_trans (Nat.le_of_lt hlt9) hb)
      obtain ⟨v0, v1, v2⟩ := set3_at (x := .int .i64 (vars + n)) (y := .int .i64 vars) (z := .slice ca cn cc) z0 z1 z2
      clear hb9 hb9' z0 z1 z2 zf HC9
      go_wp2_with fail
      refine bodyPost_ret (v := .tuple #[.agg #[.int .i64 (vars + n), .int .i64 vars, .slice ca cn cc], .int .i64 MK]) (by simp [results, Tryz.results17, go_sem, v0, v1, v2]) rfl ?_
      exact ⟨_, by rw [HM3.out], HBF.out, fun h => absurd (HM3.out.trans HMZ.out) h, fun _ => ⟨_, by rw [HN.out], HCF.out⟩⟩
    · have HMZ := Lib.hid hm
      clear hm
      go_region_held3 (fun w' => w'.cell? ⟨w.heap.size, 0, none⟩ = some (.int .i64 vars) ∧ w'.cell? ⟨w.heap.size, 1, none⟩ = some (.slice a n c) ∧ w'.cell? ⟨wb, 0, none⟩ = some (.slice la ln lc))
        (first | exact ⟨s0, s1, y0⟩ | exact ⟨below_c hb9 hlt9 s0, below_c hb9 hlt9 s1, below_c hb9 hlx1 y0⟩ | exact ⟨set3_ne hne1 (below_c hb9 hlt9 s0), set3_ne hne1 (below_c hb9 hlt9 s1), set3_ne hne2 (below_c hb9 hlx1 y0)⟩ | go_keep)
        (first | (go_at_call 23; refine HMK.out.mono ?_; rintro e w9 ⟨v9, rfl, hb9, hno9, hyes9⟩; obtain rfl := hno9 HMZ.out; have z0 := below_c hb9 hlt8 r0; have z1 := below_c hb9 hlt8 r1; have z2 := below_c hb9 hlt8 r2; have zf : ∀ o, w9.frozen? ⟨w.heap.size + 1, o, none⟩ = false := fun o => below_z hb9 hlt8 (rf o); clear hyes9 hno9))
      have hb9' : Below w.heap.size wx1 w9 := (show Below wx1.heap.size wx1 w9 from ⟨hb9.os, hb9.tape, hb9.output, hb9.size, hb9.block⟩).mono (by omega)
      have HBF : Hid (Below w.heap.size w (((w9.setCell ⟨w.heap.size + 1, 0, none⟩ (.int .i64 0)).setCell ⟨w.heap.size + 1, 1, none⟩ (.int .i64 0)).setCell ⟨w.heap.size + 1, 2, none⟩ (.slice none 0 0))) := Lib.hid (set3_below _ _ _ ((HB3.out.trans (HBX1.out.mono (by omega))).trans hb9') (Nat.le_succ _))
      obtain ⟨v0, v1, v2⟩ := set3_at (x := .int .i64 0) (y := .int .i64 0) (z := .slice none 0 0) z0 z1 z2
      clear hb9 hb9' z0 z1 z2 zf
      go_wp2_with fail
      refine bodyPost_ret (v := .tuple #[.agg #[.int .i64 0, .int .i64 0, .slice none 0 0], .int .i64 MK]) (by simp [results, Tryz.results17, go_sem, v0, v1, v2]) rfl ?_
      exact .no HBF.out HM3.out HMZ.out
  obtain ⟨f, hf, ed⟩ := drop_at (xs := ns) (k := K) (by have := HN.out; omega)
  have hxr := HX3.out.move (w' := wr) fun b hb hlt => HBX0.out.block b (by have := hb.2; omega)
  obtain ⟨fb, fo, rfl, _, hfb, x0, x1, x2, hfo⟩ := hxr.at hf
  obtain ⟨⟨b1, b2⟩, b3, b4⟩ := HBK.out K f hf
  obtain ⟨b5, b6⟩ := HFV.out f (List.mem_of_getElem? hf)
  obtain ⟨fv, flo, fhi⟩ := f
  simp only at x0 x1 x2 b1 b2 b3 b4 b5 b6
  have HQ2 : Hid (Q = ps0.map Prod.snd ++ (node4 (vars + K + 1) (fv + 1) (nameM vars flo) (nameM vars fhi) ++ nodesC vars (ns.drop (K + 1)) (K + 1))) := Lib.hid (by rw [HQ.out, ed]; rfl)
  have hdk : decide ((K : Int) < n) = true := by simp; omega
  have hdk' : decide (K < n) = true := decide_eq_true hk
  obtain ⟨A, hA⟩ : ∃ A, vars + (K : Int) + 1 = A := ⟨_, rfl⟩
  obtain ⟨X, hX⟩ : ∃ X, fv + 1 = X := ⟨_, rfl⟩
  have hAr : 1 ≤ A ∧ A ≤ 10000 := by omega
  have hXr : 1 ≤ X ∧ X ≤ 10000 := by omega
  have hlr := nameM_range (vars := vars) (ref := flo) ⟨hv0, hv1⟩ ⟨b1, by omega⟩
  have hhr := nameM_range (vars := vars) (ref := fhi) ⟨hv0, hv1⟩ ⟨b3, by omega⟩
  have hnl := fun W (h : W.cell? ⟨w.heap.size, 0, none⟩ = some (.int .i64 vars)) => name_any w.heap.size vars flo W h ⟨hv0, hv1⟩ ⟨b1, by omega⟩
  have hnh := fun W (h : W.cell? ⟨w.heap.size, 0, none⟩ = some (.int .i64 vars)) => name_any w.heap.size vars fhi W h ⟨hv0, hv1⟩ ⟨b3, by omega⟩
  obtain ⟨LO, hLO⟩ : ∃ LO, nameM vars flo = LO := ⟨_, rfl⟩
  obtain ⟨HI', hHI⟩ : ∃ H, nameM vars fhi = H := ⟨_, rfl⟩
  rw [hA, hX, hLO, hHI] at HQ2
  rw [hLO] at hlr hnl
  rw [hHI] at hhr hnh
  have hta : (wr.alloc (.cells #[.int .i64 fv, .int .i64 flo, .int .i64 fhi] 49)).cell? ⟨w.heap.size, 0, none⟩ = some (.int .i64 vars) := cell_alloc _ t0
  have HNL := Lib.hid (fun m => hnl ((wr.alloc (.cells #[.int .i64 fv, .int .i64 flo, .int .i64 fhi] 49)).drewN m) hta)
  have HNH := Lib.hid (fun m => hnh ((wr.alloc (.cells #[.int .i64 fv, .int .i64 flo, .int .i64 fhi] 49)).drewN m) hta)
  have hw1 : IntKind.i64.wrap (fv + 1) = X := by rw [← hX]; exact IntWalk.i64_in _ ⟨by omega, by omega⟩
  have hw2 : IntKind.i64.wrap (vars + (K : Int)) = vars + K := IntWalk.i64_in _ ⟨by omega, by omega⟩
  have hw3 : IntKind.i64.wrap (vars + (K : Int) + 1) = A := by rw [← hA]; exact IntWalk.i64_in _ ⟨by omega, by omega⟩
  have hn1 : IntKind.i64.wrap (-A) = -A := IntWalk.i64_in _ ⟨by omega, by omega⟩
  have hn2 : IntKind.i64.wrap (-X) = -X := IntWalk.i64_in _ ⟨by omega, by omega⟩
  have hn3 : IntKind.i64.wrap (-LO) = -LO := IntWalk.i64_in _ ⟨by omega, by omega⟩
  have hn4 : IntKind.i64.wrap (-HI') = -HI' := IntWalk.i64_in _ ⟨by omega, by omega⟩
  have HFK := Lib.hid (And.intro hA hX)
  clear HQ ed hf hxr hfo hA hX hLO hHI hnl hnh hta
  go_upto_region 9 with fail
  go_quiet (first | (go_at_call_of 36 (Value.int .i64 flo); exact Calls.quiet_of_same (HNL.out _)) | (go_at_call_of 36 (Value.int .i64 fhi); exact Calls.quiet_of_same (HNH.out _)))
  obtain ⟨wx0, hwx⟩ : ∃ W, ((wr.alloc (.cells #[.int .i64 fv, .int .i64 flo, .int .i64 fhi] 49)).drewN nq) = W := ⟨_, rfl⟩
  have hbw : Below wr.heap.size wr wx0 := by rw [← hwx]; exact below_drewN ((Below.refl _ _).alloc (Nat.le_refl _) _) nq
  rw [hwx]
  have HWRa := Lib.hid (HWR0.out.below hbw)
  have HBXa : Hid (Below wb w3 wx0) := Lib.hid (HBX0.out.trans (hbw.mono (by omega)))
  clear HWR0 HBX0
  have HWR0 := HWRa
  have HBX0 := HBXa
  clear HWRa HBXa hwx hbw t0 t1 t2 x0 x1 x2 HNL HNH hw1 hw2 hw3 e1 e2 b1 b2 b3 b4 b5 b6 g0 g1 g2 gf
  go_wp2_with fail
  have hba0 : Below wx0.heap.size wx0 (wx0.alloc (.cells #[.int .i64 (-A), .int .i64 (-X), .int .i64 HI'] 3)) := (Below.refl _ _).alloc (Nat.le_refl _) _
  have had0 := add_any _ wb (wb + 1) lv0 _ ps0 [-A, -X, HI'] _ (HWR0.out.below hba0) (Nat.lt_succ_self _) (ints_block [-A, -X, HI'] 3 (new_at wx0 (.cells #[.int .i64 (-A), .int .i64 (-X), .int .i64 HI'] 3)) (by simp) (by simp) (by intro y hy; simp at hy; unfold I64; omega)) (by have := HPL0.out; omega) (by simp)
  have HBA0 := Lib.hid hba0
  clear hba0
  refine Calls.mono had0 ?_
  rintro e wx1 ⟨rfl, hb1, hz1, lv1, ps1, hw1, hp1⟩
  have HBX1 : Hid (Below wb w3 wx1) := Lib.hid (HBX0.out.trans ((HBA0.out.mono (by have := block_lt HWR0.out.1; omega)).trans hb1))
  have HWR1 := Lib.hid hw1
  have HPL1 : Hid (ps1.length ≤ 4 * K + 1) := Lib.hid (by
    have h1 := congrArg List.length hp1
    have h2 := addM_len [-A, -X, HI']
    have h3 := HPL0.out
    simp only [List.length_append, List.length_map] at h1
    omega)
  have HPE1 := Lib.hid hp1
  clear had0 hb1 hz1 hw1 hp1 HBA0 HPL0 HWR0 HBX0
  go_wp2_with fail
  have hba1 : Below wx1.heap.size wx1 (wx1.alloc (.cells #[.int .i64 (-A), .int .i64 X, .int .i64 LO] 3)) := (Below.refl _ _).alloc (Nat.le_refl _) _
  have had1 := add_any _ wb (wb + 1) lv1 _ ps1 [-A, X, LO] _ (HWR1.out.below hba1) (Nat.lt_succ_self _) (ints_block [-A, X, LO] 3 (new_at wx1 (.cells #[.int .i64 (-A), .int .i64 X, .int .i64 LO] 3)) (by simp) (by simp) (by intro y hy; simp at hy; unfold I64; omega)) (by have := HPL1.out; omega) (by simp)
  have HBA1 := Lib.hid hba1
  clear hba1
  refine Calls.mono had1 ?_
  rintro e wx2 ⟨rfl, hb2, hz2, lv2, ps2, hw2, hp2⟩
  have HBX2 : Hid (Below wb w3 wx2) := Lib.hid (HBX1.out.trans ((HBA1.out.mono (by have := block_lt HWR1.out.1; omega)).trans hb2))
  have HWR2 := Lib.hid hw2
  have HPL2 : Hid (ps2.length ≤ 4 * K + 2) := Lib.hid (by
    have h1 := congrArg List.length hp2
    have h2 := addM_len [-A, X, LO]
    have h3 := HPL1.out
    simp only [List.length_append, List.length_map] at h1
    omega)
  have HPE2 := Lib.hid hp2
  clear had1 hb2 hz2 hw2 hp2 HBA1 HPL1 HWR1 HBX1
  go_wp2_with fail
  have hba2 : Below wx2.heap.size wx2 (wx2.alloc (.cells #[.int .i64 (-HI'), .int .i64 (-X), .int .i64 A] 3)) := (Below.refl _ _).alloc (Nat.le_refl _) _
  have had2 := add_any _ wb (wb + 1) lv2 _ ps2 [-HI', -X, A] _ (HWR2.out.below hba2) (Nat.lt_succ_self _) (ints_block [-HI', -X, A] 3 (new_at wx2 (.cells #[.int .i64 (-HI'), .int .i64 (-X), .int .i64 A] 3)) (by simp) (by simp) (by intro y hy; simp at hy; unfold I64; omega)) (by have := HPL2.out; omega) (by simp)
  have HBA2 := Lib.hid hba2
  clear hba2
  refine Calls.mono had2 ?_
  rintro e wx3 ⟨rfl, hb3, hz3, lv3, ps3, hw3, hp3⟩
  have HBX3 : Hid (Below wb w3 wx3) := Lib.hid (HBX2.out.trans ((HBA2.out.mono (by have := block_lt HWR2.out.1; omega)).trans hb3))
  have HWR3 := Lib.hid hw3
  have HPL3 : Hid (ps3.length ≤ 4 * K + 3) := Lib.hid (by
    have h1 := congrArg List.length hp3
    have h2 := addM_len [-HI', -X, A]
    have h3 := HPL2.out
    simp only [List.length_append, List.length_map] at h1
    omega)
  have HPE3 := Lib.hid hp3
  clear had2 hb3 hz3 hw3 hp3 HBA2 HPL2 HWR2 HBX2
  go_wp2_with fail
  have hba3 : Below wx3.heap.size wx3 (wx3.alloc (.cells #[.int .i64 (-LO), .int .i64 X, .int .i64 A] 3)) := (Below.refl _ _).alloc (Nat.le_refl _) _
  have had3 := add_any _ wb (wb + 1) lv3 _ ps3 [-LO, X, A] _ (HWR3.out.below hba3) (Nat.lt_succ_self _) (ints_block [-LO, X, A] 3 (new_at wx3 (.cells #[.int .i64 (-LO), .int .i64 X, .int .i64 A] 3)) (by simp) (by simp) (by intro y hy; simp at hy; unfold I64; omega)) (by have := HPL3.out; omega) (by simp)
  have HBA3 := Lib.hid hba3
  clear hba3
  refine Calls.mono had3 ?_
  rintro e wx4 ⟨rfl, hb4, hz4, lv4, ps4, hw4, hp4⟩
  have HBX4 : Hid (Below wb w3 wx4) := Lib.hid (HBX3.out.trans ((HBA3.out.mono (by have := block_lt HWR3.out.1; omega)).trans hb4))
  have HWR4 := Lib.hid hw4
  have HPL4 : Hid (ps4.length ≤ 4 * K + 4) := Lib.hid (by
    have h1 := congrArg List.length hp4
    have h2 := addM_len [-LO, X, A]
    have h3 := HPL3.out
    simp only [List.length_append, List.length_map] at h1
    omega)
  have HPE4 := Lib.hid hp4
  clear had3 hb4 hz4 hw4 hp4 HBA3 HPL3 HWR3 HBX3
  have HQF : Hid (Q = ps4.map Prod.snd ++ nodesC vars (ns.drop (K + 1)) (K + 1)) := Lib.hid (by
    rw [HQ2.out, HPE4.out, HPE3.out, HPE2.out, HPE1.out, node4]
    simp only [List.append_assoc])
  clear HQ2 HPE1 HPE2 HPE3 HPE4
  go_wp2_with fail
  go_roundg (gk - 1)
  case measure => omega
  case rel => exact ⟨K + 1, _, _, by omega, by go_num, HBX4, HWR4, by have := HPL4.out; omega, HQF⟩
end Go.Proofs.YteadlkecngfcoaaGreat
