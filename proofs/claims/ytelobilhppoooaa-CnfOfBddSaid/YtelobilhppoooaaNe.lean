/- Walk: the statement's ofBdd. A diagram of the right form. -/
import Derived.Test.YtelobilhppoooaaNd
import Derived.Test.YtelobilhppoooaaQ2
namespace Go.Proofs.Ytelobilhppoooaa
open Go.ChangeShapes Go.WideShapes Go.ChangeAt Go.RowKit
set_option linter.unusedVariables false

theorem pairs_block {w : World} {b : Nat} {arr : Array Value} {T : TypeId} {fr : Nat × Nat} (l : List (Int × Int)) (h : w.heap[b]? = some (.cells arr T fr)) (harr : arr = (l.flatMap fun p => [Value.int .i64 p.1, Value.int .i64 p.2]).toArray) : PairsB w b l := by
  intro k p hp
  subst harr
  rw [cell_of_row _ _ _ _ _ _ h, cell_of_row _ _ _ _ _ _ h]
  have key : ∀ (l : List (Int × Int)) (k : Nat), l[k]? = some p → (l.flatMap fun p => [Value.int .i64 p.1, Value.int .i64 p.2])[k * 2]? = some (.int .i64 p.1) ∧ (l.flatMap fun p => [Value.int .i64 p.1, Value.int .i64 p.2])[k * 2 + 1]? = some (.int .i64 p.2) := by
    intro l
    induction l with
    | nil => intro k hk; cases hk
    | cons q r ih =>
      intro k hk
      rcases k with _ | k
      · simp at hk
        subst hk
        simp
      · have := ih k (by simpa using hk)
        rw [show (k + 1) * 2 = k * 2 + 1 + 1 by omega, List.flatMap_cons]
        simpa using this
  have := key l k hp
  simpa using this
def node4S (vars self x lo hi : Int) : List (List Int) := ocl vars [(-1, self), (-1, x), (1, hi)] ++ (ocl vars [(-1, self), (1, x), (1, lo)] ++ (ocl vars [(-1, hi), (-1, x), (1, self)] ++ ocl vars [(-1, lo), (1, x), (1, self)]))
theorem node4_same {vars lo hi v : Int} {k : Nat} (hv : 0 ≤ vars ∧ vars ≤ 40) (hk : k ≤ 5000) (h1 : 0 ≤ v ∧ v ≤ 5000) (h2 : 0 ≤ lo ∧ lo ≤ 5000) (h3 : 0 ≤ hi ∧ hi ≤ 5000) :
    node4S vars ((k : Int) + 2) (-(v + 1)) lo hi = node4 (vars + k + 1) (v + 1) (nameM vars lo) (nameM vars hi) := by
  have hr : ∀ (l : List (Int × Int)), (∀ p ∈ l, (p.1 = 1 ∨ p.1 = -1) ∧ (p.2 = (k : Int) + 2 ∨ p.2 = -(v + 1) ∨ p.2 = lo ∨ p.2 = hi)) → ∀ p ∈ l, (p.1 = 1 ∨ p.1 = -1) ∧ -10000 ≤ p.2 ∧ p.2 ≤ 10000 := fun l h p hp => by
    obtain ⟨a, b⟩ := h p hp
    exact ⟨a, by omega, by omega⟩
  have ns : nameM vars ((k : Int) + 2) = vars + k + 1 := by unfold nameM; rw [if_neg (by omega), if_neg (by omega)]; omega
  unfold node4S node4
  rw [ocl_addM hv _ (hr _ (by simp)), ocl_addM hv _ (hr _ (by simp)), ocl_addM hv _ (hr _ (by simp)), ocl_addM hv _ (hr _ (by simp))]
  simp only [List.map_cons, List.map_nil, sgL, ns]
  rw [if_neg (show ¬ (k : Int) + 2 < 0 by omega), if_pos (show -(v + 1) < 0 by omega), if_neg (show ¬ lo < 0 by omega), if_neg (show ¬ hi < 0 by omega)]
  simp only [Int.neg_neg, Int.one_mul, Int.neg_mul]
theorem root_same {vars root : Int} (hv : 0 ≤ vars ∧ vars ≤ 40) (h : 0 ≤ root ∧ root ≤ 5000) : ocl vars [(1, root)] = addM [nameM vars root] := by
  rw [ocl_addM hv _ (by simp; omega)]
  simp only [List.map_cons, List.map_nil, sgL]
  rw [if_neg (by omega), Int.one_mul]
def LofPost (W : World) (vars root : Int) (ns : List Fork) (e : Ending) (w' : World) : Prop :=
  ∃ cv, e = .returned (.agg #[.int .i64 (vars + ns.length), .int .i64 vars, cv]) ∧ Below W.heap.size W w' ∧ Clss (fun b => W.heap.size ≤ b) w' cv (canM (bddC vars root ns))
set_option maxRecDepth 100000 in
set_option maxHeartbeats 8000000 in
theorem lofbdd_any (F : Nat → Prop) (vars root : Int) (nv : Value) (ns : List Fork) (w : World) (hx : Forks F w nv ns) (hok : BddOk vars root ns) :
    Calls Try.prog 8 #[.agg #[.int .i64 vars, nv, .int .i64 root]] w (LofPost w vars root ns) := by
  obtain ⟨a, n, c, rfl, HN, hn⟩ := hx.form
  obtain ⟨W3, hW3⟩ : ∃ W3, (((w.alloc (.cells #[.int .i64 vars, .slice a n c, .int .i64 root] 24)).alloc (.cells #[.int .i64 0, .int .i64 0, .slice none 0 0] 28)).alloc (.cells #[.int .i64 (vars + n), .int .i64 vars, .slice none 0 0] 28)) = W3 := ⟨_, rfl⟩
  have hb3 : Below w.heap.size w W3 := by rw [← hW3]; exact (((Below.refl _ _).alloc (Nat.le_refl _) _).alloc (by simp) _).alloc (by simp; omega) _
  have hs3 : W3.heap.size = w.heap.size + 1 + 1 + 1 := by rw [← hW3]; simp
  have hrow0 : W3.heap[w.heap.size]? = some (.cells #[.int .i64 vars, .slice a n c, .int .i64 root] 24) := by rw [← hW3]; exact old_at _ _ _ (old_at _ _ _ (new_at' _ _ rfl))
  have hrow1 : W3.heap[w.heap.size + 1]? = some (.cells #[.int .i64 0, .int .i64 0, .slice none 0 0] 28) := by rw [← hW3]; exact old_at _ _ _ (new_at' _ _ (by simp))
  have hrow2 : W3.heap[w.heap.size + 2]? = some (.cells #[.int .i64 (vars + n), .int .i64 vars, .slice none 0 0] 28) := by rw [← hW3]; exact new_at' _ _ (by simp)
  have c0 : W3.cell? ⟨w.heap.size, 0, none⟩ = some (.int .i64 vars) := by rw [cell_of_row _ _ _ _ _ _ hrow0]; rfl
  have c1 : W3.cell? ⟨w.heap.size, 1, none⟩ = some (.slice a n c) := by rw [cell_of_row _ _ _ _ _ _ hrow0]; rfl
  have c2 : W3.cell? ⟨w.heap.size, 2, none⟩ = some (.int .i64 root) := by rw [cell_of_row _ _ _ _ _ _ hrow0]; rfl
  have d0 : W3.cell? ⟨w.heap.size + 1, 0, none⟩ = some (.int .i64 0) := by rw [cell_of_row _ _ _ _ _ _ hrow1]; rfl
  have d1 : W3.cell? ⟨w.heap.size + 1, 1, none⟩ = some (.int .i64 0) := by rw [cell_of_row _ _ _ _ _ _ hrow1]; rfl
  have d2 : W3.cell? ⟨w.heap.size + 1, 2, none⟩ = some (.slice none 0 0) := by rw [cell_of_row _ _ _ _ _ _ hrow1]; rfl
  have df : ∀ o, W3.frozen? ⟨w.heap.size + 1, o, none⟩ = false := fun o => by simp only [World.frozen?, hrow1]; simp
  have e0 : W3.cell? ⟨w.heap.size + 2, 0, none⟩ = some (.int .i64 (vars + n)) := by rw [cell_of_row _ _ _ _ _ _ hrow2]; rfl
  have e1 : W3.cell? ⟨w.heap.size + 2, 1, none⟩ = some (.int .i64 vars) := by rw [cell_of_row _ _ _ _ _ _ hrow2]; rfl
  have e2 : W3.cell? ⟨w.heap.size + 2, 2, none⟩ = some (.slice none 0 0) := by rw [cell_of_row _ _ _ _ _ _ hrow2]; rfl
  have ef : ∀ o, W3.frozen? ⟨w.heap.size + 2, o, none⟩ = false := fun o => by simp only [World.frozen?, hrow2]; simp
  obtain ⟨hv0, hv1, hnl, hbk, ⟨hr0, hr1⟩, hfv⟩ := hok
  have HX3 := Lib.hid (hx.lt.move (w' := W3) fun b hb _ => hb3.block b hb.2)
  have HBK := Lib.hid hbk
  have HFV := Lib.hid hfv
  have HB3 := Lib.hid hb3
  have HW3 := Lib.hid hW3
  have hnn : n ≤ 4096 := by rw [HN.out]; exact hnl
  have hrn : root ≤ 1 + (n : Int) := by rw [HN.out]; exact hr1
  have hwv : IntKind.i64.wrap (vars + (n : Int)) = vars + n := IntWalk.i64_in _ ⟨by omega, by omega⟩
  obtain ⟨bb, hbb⟩ : ∃ bb, w.heap.size = bb := ⟨_, rfl⟩
  have HBB := Lib.hid hbb
  have hltw : bb < W3.heap.size := by omega
  have HC0 : Hid (CnAt (bb + 2) (bb + 2 + 1) (.int .i64 (vars + n)) (.int .i64 vars) W3 (.slice none 0 0) []) := Lib.hid (by
    rw [← hbb]
    exact ⟨e0, e1, e2, ef, Out.nil _ _, by omega⟩)
  have HBX0 : Hid (Below (bb + 2) W3 W3) := Lib.hid (Below.refl _ _)
  obtain ⟨Q, hQ⟩ : ∃ Q, nodesC vars ns 0 = Q := ⟨_, rfl⟩
  have HQ0 : Hid (Q = nodesC vars (ns.drop 0) 0) := Lib.hid hQ.symm
  have HQE : Hid (bddC vars root ns = Q ++ addM [nameM vars root]) := Lib.hid (by rw [← hQ]; rfl)
  rw [hbb] at c0 c1 c2 d0 d1 d2 df
  clear hx hb3 hW3 hrow0 hrow1 hrow2 e0 e1 e2 ef hQ hbk hfv hnl hr1
  go_enter Try.func8, Try.ntmps8
  go_wp2_with fail
  rw [HW3.out]
  try simp only [hbb]
  clear hbb HW3
  go_loopg [22] n (fun gg u22 wx => ∃ (k : Nat) (lv : Value) (ps : List (Value × List Int)), k + gg = n ∧ u22 = .int .i64 k ∧ Hid (Below (bb + 2) W3 wx) ∧ Hid (CnAt (bb + 2) (bb + 2 + 1) (.int .i64 (vars + n)) (.int .i64 vars) wx lv ps) ∧ ps.length ≤ 4 * k ∧ Hid (Q = ps.map Prod.snd ++ nodesC vars (ns.drop k) k))
  case atStart => exact ⟨0, _, [], by omega, rfl, HBX0, HC0, by simp, HQ0⟩
  case round =>
  clear HBX0 HC0 HQ0
  obtain ⟨K, lv0, ps0, hkg, rfl, HBX0, HC0, hpk, HQ⟩ := hrel
  have t0 := below_c HBX0.out (by omega) c0
  have t1 := below_c HBX0.out (by omega) c1
  have t2 := below_c HBX0.out (by omega) c2
  have hszr : bb + 2 + 1 ≤ wr.heap.size := by have := HBX0.out.size; have := HBB.out; omega
  have hltr : bb < wr.heap.size := by omega
  have HPL0 : Hid (ps0.length ≤ 4 * K + 0) := Lib.hid hpk
  by_cases hk : K < n
  case neg =>
    have hd : decide ((K : Int) < n) = false := by simp; omega
    have hd' : decide (K < n) = false := decide_eq_false hk
    have HQF : Hid (Q = ps0.map Prod.snd) := Lib.hid (by
      rw [HQ.out, List.drop_eq_nil_of_le (by have := HN.out; omega)]
      exact List.append_nil _)
    have q0 := below_c HBX0.out (by omega) d0
    have q1 := below_c HBX0.out (by omega) d1
    have q2 := below_c HBX0.out (by omega) d2
    have qf : ∀ o, wr.frozen? ⟨bb + 1, o, none⟩ = false := fun o => below_z HBX0.out (by omega) (df o)
    clear HQ c0 c1 c2 d0 d1 d2 df
    go_wp2_with fail
    have hba : Below wr.heap.size wr (wr.alloc (.cells #[.int .i64 1, .int .i64 root] 66)) := (Below.refl _ _).alloc (Nat.le_refl _) _
    have had := ocl_any bb (bb + 2) (bb + 2 + 1) bb wr.heap.size 1 vars (.int .i64 (vars + n)) (.int .i64 vars) lv0 ps0 [(1, root)] _ ⟨hv0, hv1⟩ (below_c hba hltr t0) (HC0.out.below hba) (Nat.lt_succ_self _) (pairs_block [(1, root)] (new_at wr (.cells #[.int .i64 1, .int .i64 root] 66)) (by simp)) (by intro p hp; simp at hp; subst hp; exact ⟨.inl rfl, by show -100000 ≤ root; omega, by show root ≤ 100000; omega⟩) (by have := HPL0.out; omega) (by simp) ⟨by simp; omega, by omega, fun e => by have := (HC0.out.2.2.2.2.1.1.lt _ e).1; omega⟩
    have HBA := Lib.hid hba
    clear hba
    refine Calls.mono had ?_
    rintro e wx1 ⟨rfl, hb1, hz1, lv1, ps1, hw1, hp1, _, _⟩
    have hbx := (HBA.out.mono (show bb + 2 ≤ wr.heap.size by omega)).trans hb1
    have HBX1 : Hid (Below (bb + 2) W3 wx1) := Lib.hid (HBX0.out.trans hbx)
    have r0 := below_c hbx (by omega) q0
    have r1 := below_c hbx (by omega) q1
    have r2 := below_c hbx (by omega) q2
    have rf : ∀ o, wx1.frozen? ⟨bb + 1, o, none⟩ = false := fun o => below_z hbx (by omega) (qf o)
    have y0 := hw1.1
    have y1 := hw1.2.1
    have y2 := hw1.2.2.1
    have yf := hw1.2.2.2.1
    have hlx1 := block_lt y0
    obtain ⟨la, ln, lc, rfl⟩ : ∃ a n c, lv1 = .slice a n c := by
      obtain ⟨a, c, h⟩ := own_form hw1.2.2.2.2.1.1
      exact ⟨a, _, c, h⟩
    have hcl := hw1.2.2.2.2.1.clss (by
      have h1 := congrArg List.length hp1
      have h2 := ocl_len vars [(1, root)]
      have h3 := HPL0.out
      simp only [List.length_append, List.length_map] at h1
      omega)
    have hce : ps1.map Prod.snd = bddC vars root ns := by rw [hp1, HQE.out, HQF.out, root_same ⟨hv0, hv1⟩ ⟨hr0, by omega⟩]
    rw [hce] at hcl
    have hmk := lcanonical_any _ (.slice la ln lc) (bddC vars root ns) wx1 hcl (by have := bddC_len vars root ns; have := HN.out; omega) (bddC_each vars root ns)
    have HMK := Lib.hid hmk
    have hlt8 : bb + 1 < wx1.heap.size := by omega
    clear had hbx hb1 hz1 hw1 hp1 hcl hce hmk HBA HC0 HBX0 HPL0 q0 q1 q2 qf t0 t1 t2
    go_wp2_with fail
    refine HMK.out.mono ?_
    rintro e w9 ⟨cv9, rfl, hc9, hb9⟩
    obtain ⟨ca, cn, cc, rfl, _, _⟩ := hc9.form'
    have z0 := below_c hb9 hlt8 r0
    have z1 := below_c hb9 hlt8 r1
    have z2 := below_c hb9 hlt8 r2
    have zf : ∀ o, w9.frozen? ⟨bb + 1, o, none⟩ = false := fun o => below_z hb9 hlt8 (rf o)
    have x0 := below_c hb9 hlx1 y0
    have x1 := below_c hb9 hlx1 y1
    have x2 := below_c hb9 hlx1 y2
    have xf : ∀ o, w9.frozen? ⟨bb + 2, o, none⟩ = false := fun o => below_z hb9 hlx1 (yf o)
    have HC9 := Lib.hid hc9
    have HB9 : Hid (Below (bb + 1) W3 w9) := Lib.hid ((HBX1.out.mono (by omega)).trans (hb9.mono (by omega)))
    have hne : bb + 1 ≠ bb + 2 := by omega
    have u0 := set_ne (u := .slice ca cn cc) (b' := bb + 2) (o' := 2) (.inr (by omega)) x0
    have u1 := set_ne (u := .slice ca cn cc) (b' := bb + 2) (o' := 2) (.inr (by omega)) x1
    have u2 := set_eq (u := .slice ca cn cc) x2
    have p0 := set_ne (u := .slice ca cn cc) (b' := bb + 2) (o' := 2) (.inl (by omega)) z0
    have p1 := set_ne (u := .slice ca cn cc) (b' := bb + 2) (o' := 2) (.inl (by omega)) z1
    have p2 := set_ne (u := .slice ca cn cc) (b' := bb + 2) (o' := 2) (.inl (by omega)) z2
    clear hc9 hb9 r0 r1 r2 rf y0 y1 y2 yf HMK
    go_wp2_with fail
    obtain ⟨v0, v1, v2⟩ := set3_at (x := .int .i64 (vars + n)) (y := .int .i64 vars) (z := .slice ca cn cc) p0 p1 p2
    have HBF : Hid (Below w.heap.size w ((((w9.setCell ⟨bb + 2, 2, none⟩ (.slice ca cn cc)).setCell ⟨bb + 1, 0, none⟩ (.int .i64 (vars + n))).setCell ⟨bb + 1, 1, none⟩ (.int .i64 vars)).setCell ⟨bb + 1, 2, none⟩ (.slice ca cn cc))) :=
      Lib.hid (set3_below _ _ _ ((HB3.out.trans (HB9.out.mono (by have := HBB.out; omega))).setCell (by show w.heap.size ≤ bb + 2; have := HBB.out; omega) _) (by have := HBB.out; omega))
    have HCF : Hid (Clss (fun b => w.heap.size ≤ b) ((((w9.setCell ⟨bb + 2, 2, none⟩ (.slice ca cn cc)).setCell ⟨bb + 1, 0, none⟩ (.int .i64 (vars + n))).setCell ⟨bb + 1, 1, none⟩ (.int .i64 vars)).setCell ⟨bb + 1, 2, none⟩ (.slice ca cn cc)) (.slice ca cn cc) (canM (bddC vars root ns))) :=
      Lib.hid (Rows1.mono (fun _ _ _ _ _ h hg => h.mono hg) (Rows1.move (fun _ _ _ _ _ h hm => h.move hm) HC9.out fun b hb hlt => (set3_block _ _ _ (by have : wx1.heap.size ≤ b := hb; omega)).trans (Below.heap_setCell _ _ _ _ (by have : wx1.heap.size ≤ b := hb; show b ≠ bb + 2; omega))) fun b hb => show w.heap.size ≤ b from Nat.le_trans (by have := HBB.out; omega) hb)
    simp only [show bb + 1 + 1 = bb + 2 from rfl]
    refine bodyPost_ret (v := .agg #[.int .i64 (vars + n), .int .i64 vars, .slice ca cn cc]) (by simp [results, Try.results8, go_sem, v0, v1, v2]) rfl ?_
    exact ⟨_, by rw [HN.out], HBF.out, HCF.out⟩
  obtain ⟨f, hf, ed⟩ := drop_at (xs := ns) (k := K) (by have := HN.out; omega)
  have hxr := HX3.out.move (w' := wr) fun b hb hlt => HBX0.out.block b (by have := hb.2; have := HBB.out; omega)
  obtain ⟨fb, fo, rfl, _, hfb, x0, x1, x2, hfo⟩ := hxr.at hf
  obtain ⟨⟨b1, b2⟩, b3, b4⟩ := HBK.out K f hf
  obtain ⟨b5, b6⟩ := HFV.out f (List.mem_of_getElem? hf)
  obtain ⟨fv, flo, fhi⟩ := f
  simp only at x0 x1 x2 b1 b2 b3 b4 b5 b6
  have hdk : decide ((K : Int) < n) = true := by simp; omega
  have hdk' : decide (K < n) = true := decide_eq_true hk
  have HQ2 : Hid (Q = ps0.map Prod.snd ++ (node4S vars ((K : Int) + 2) (-(fv + 1)) flo fhi ++ nodesC vars (ns.drop (K + 1)) (K + 1))) := Lib.hid (by
    rw [HQ.out, ed, node4_same ⟨hv0, hv1⟩ (by omega) (by omega) (by omega) (by omega)]; rfl)
  have hw1 : IntKind.i64.wrap (fv + 1) = fv + 1 := IntWalk.i64_in _ ⟨by omega, by omega⟩
  have hw2 : IntKind.i64.wrap ((K : Int) + 2) = (K : Int) + 2 := IntWalk.i64_in _ ⟨by omega, by omega⟩
  have hw3 : IntKind.i64.wrap (-(fv + 1)) = -(fv + 1) := IntWalk.i64_in _ ⟨by omega, by omega⟩
  have hvr : 0 ≤ fv ∧ fv ≤ 40 := by omega
  have hlor : 0 ≤ flo ∧ flo ≤ 10000 := by omega
  have hhir : 0 ≤ fhi ∧ fhi ≤ 10000 := by omega
  obtain ⟨FB, hFB⟩ : ∃ FB, wr.heap.size = FB := ⟨_, rfl⟩
  have HFB := Lib.hid hFB
  obtain ⟨wf, hwf⟩ : ∃ W, wr.alloc (.cells #[.int .i64 fv, .int .i64 flo, .int .i64 fhi] 48) = W := ⟨_, rfl⟩
  have hbf : Below wr.heap.size wr wf := by rw [← hwf]; exact (Below.refl _ _).alloc (Nat.le_refl _) _
  have o0 : wf.cell? ⟨wr.heap.size, 0, none⟩ = some (.int .i64 fv) := by rw [← hwf]; simp
  have o1 : wf.cell? ⟨wr.heap.size, 1, none⟩ = some (.int .i64 flo) := by rw [← hwf]; simp
  have o2 : wf.cell? ⟨wr.heap.size, 2, none⟩ = some (.int .i64 fhi) := by rw [← hwf]; simp
  have n0 := below_c hbf hltr t0
  have n1 := below_c hbf hltr t1
  have HWF := Lib.hid hwf
  have HBF := Lib.hid hbf
  clear HQ ed hf hxr hfo hwf hbf hFB
  go_upto_region 6 with fail
  rw [HWF.out]
  go_quiet (fail)
  obtain ⟨wx0, hwx⟩ : ∃ W, wf.drewN nq = W := ⟨_, rfl⟩
  have hbw : Below wf.heap.size wf wx0 := by rw [← hwx]; exact below_drewN (Below.refl _ _) nq
  rw [hwx]
  have hwfs : wr.heap.size + 1 = wf.heap.size := by rw [← HWF.out]; simp
  have hba := HBF.out.trans (hbw.mono (by omega))
  have HCa := Lib.hid (HC0.out.below hba)
  have HBXa : Hid (Below (bb + 2) W3 wx0) := Lib.hid (HBX0.out.trans (hba.mono (by omega)))
  have i0 := below_c hbw (by omega) n0
  have o1' := below_c hbw (by omega) o1
  have o2' := below_c hbw (by omega) o2
  have HF0 : Hid (lv0.ownBlock ≠ some wr.heap.size) := Lib.hid fun e => by have := (HC0.out.2.2.2.2.1.1.lt _ e).2; omega
  have hFlt : wr.heap.size < wx0.heap.size := by have := hbw.size; omega
  have hFge : bb + 2 + 1 ≤ wr.heap.size := hszr
  clear HC0 HBX0 n0 n1 o0 o1 o2 hbw hba hwx t0 t1 t2 x0 x1 x2 hw1 hw2 hw3 b1 b2 b3 b4 b5 b6 hltr
  have HC0 := HCa
  have HBX0 := HBXa
  clear HCa HBXa
  have o1_0 := o1'
  have o2_0 := o2'
  have i0_0 := i0
  have hf0 := HF0.out
  clear o1' o2' i0
  go_wp2_with fail
  have hba0 : Below wx0.heap.size wx0 (wx0.alloc (.cells #[.int .i64 (-1), .int .i64 ((K : Int) + 2), .int .i64 (-1), .int .i64 (-(fv + 1)), .int .i64 1, .int .i64 fhi] 66)) := (Below.refl _ _).alloc (Nat.le_refl _) _
  have had0 := ocl_any bb (bb + 2) (bb + 2 + 1) wr.heap.size wx0.heap.size 3 vars (.int .i64 (vars + n)) (.int .i64 vars) lv0 ps0 [(-1, ((K : Int) + 2)), (-1, (-(fv + 1))), (1, fhi)] _ ⟨hv0, hv1⟩ (below_c hba0 (block_lt i0_0) i0_0) (HC0.out.below hba0) (Nat.lt_succ_self _) (pairs_block [(-1, ((K : Int) + 2)), (-1, (-(fv + 1))), (1, fhi)] (new_at wx0 (.cells #[.int .i64 (-1), .int .i64 ((K : Int) + 2), .int .i64 (-1), .int .i64 (-(fv + 1)), .int .i64 1, .int .i64 fhi] 66)) (by simp)) (by intro p hp; simp at hp; rcases hp with rfl | rfl | rfl <;> refine ⟨by simp, ?_, ?_⟩ <;> simp only <;> omega) (by have := HPL0.out; omega) (by simp) ⟨by simp; omega, by omega, hf0⟩
  have HBA0 := Lib.hid hba0
  clear hba0
  refine Calls.mono had0 ?_
  rintro e wx1 ⟨rfl, hb1, hz1, lv1, ps1, hw1, hp1, hk1, hf1⟩
  have hbx1 := (HBA0.out.mono (show bb + 2 ≤ wx0.heap.size by omega)).trans hb1
  have HBX1 : Hid (Below (bb + 2) W3 wx1) := Lib.hid (HBX0.out.trans hbx1)
  have HC1 := Lib.hid hw1
  have HPL1 : Hid (ps1.length ≤ 4 * K + 1) := Lib.hid (by
    have h1 := congrArg List.length hp1
    have h2 := ocl_len vars [(-1, ((K : Int) + 2)), (-1, (-(fv + 1))), (1, fhi)]
    have h3 := HPL0.out
    simp only [List.length_append, List.length_map] at h1
    omega)
  have HPE1 := Lib.hid hp1
  have i0_1 := below_c hbx1 (by omega) i0_0
  have hsz1 : wx0.heap.size < wx1.heap.size := by simp at hz1; omega
  have o1_1 := (World.cell?_of_block (hk1.trans (HBA0.out.block _ (block_lt o1_0)))).trans o1_0
  have o2_1 := (World.cell?_of_block (hk1.trans (HBA0.out.block _ (block_lt o2_0)))).trans o2_0
  clear had0 hb1 hz1 hw1 hp1 HBA0 HPL0 HC0 HBX0 hbx1 o1_0 o2_0 i0_0
  go_wp2_with fail
  have hba1 : Below wx1.heap.size wx1 (wx1.alloc (.cells #[.int .i64 (-1), .int .i64 ((K : Int) + 2), .int .i64 1, .int .i64 (-(fv + 1)), .int .i64 1, .int .i64 flo] 66)) := (Below.refl _ _).alloc (Nat.le_refl _) _
  have had1 := ocl_any bb (bb + 2) (bb + 2 + 1) wr.heap.size wx1.heap.size 3 vars (.int .i64 (vars + n)) (.int .i64 vars) lv1 ps1 [(-1, ((K : Int) + 2)), (1, (-(fv + 1))), (1, flo)] _ ⟨hv0, hv1⟩ (below_c hba1 (block_lt i0_1) i0_1) (HC1.out.below hba1) (Nat.lt_succ_self _) (pairs_block [(-1, ((K : Int) + 2)), (1, (-(fv + 1))), (1, flo)] (new_at wx1 (.cells #[.int .i64 (-1), .int .i64 ((K : Int) + 2), .int .i64 1, .int .i64 (-(fv + 1)), .int .i64 1, .int .i64 flo] 66)) (by simp)) (by intro p hp; simp at hp; rcases hp with rfl | rfl | rfl <;> refine ⟨by simp, ?_, ?_⟩ <;> simp only <;> omega) (by have := HPL1.out; omega) (by simp) ⟨by simp; omega, by omega, hf1⟩
  have HBA1 := Lib.hid hba1
  clear hba1
  refine Calls.mono had1 ?_
  rintro e wx2 ⟨rfl, hb2, hz2, lv2, ps2, hw2, hp2, hk2, hf2⟩
  have hbx2 := (HBA1.out.mono (show bb + 2 ≤ wx1.heap.size by omega)).trans hb2
  have HBX2 : Hid (Below (bb + 2) W3 wx2) := Lib.hid (HBX1.out.trans hbx2)
  have HC2 := Lib.hid hw2
  have HPL2 : Hid (ps2.length ≤ 4 * K + 2) := Lib.hid (by
    have h1 := congrArg List.length hp2
    have h2 := ocl_len vars [(-1, ((K : Int) + 2)), (1, (-(fv + 1))), (1, flo)]
    have h3 := HPL1.out
    simp only [List.length_append, List.length_map] at h1
    omega)
  have HPE2 := Lib.hid hp2
  have i0_2 := below_c hbx2 (by omega) i0_1
  have hsz2 : wx1.heap.size < wx2.heap.size := by simp at hz2; omega
  have o1_2 := (World.cell?_of_block (hk2.trans (HBA1.out.block _ (block_lt o1_1)))).trans o1_1
  have o2_2 := (World.cell?_of_block (hk2.trans (HBA1.out.block _ (block_lt o2_1)))).trans o2_1
  clear had1 hb2 hz2 hw2 hp2 HBA1 HPL1 HC1 HBX1 hbx2 o1_1 o2_1 i0_1
  go_wp2_with fail
  have hba2 : Below wx2.heap.size wx2 (wx2.alloc (.cells #[.int .i64 (-1), .int .i64 fhi, .int .i64 (-1), .int .i64 (-(fv + 1)), .int .i64 1, .int .i64 ((K : Int) + 2)] 66)) := (Below.refl _ _).alloc (Nat.le_refl _) _
  have had2 := ocl_any bb (bb + 2) (bb + 2 + 1) wr.heap.size wx2.heap.size 3 vars (.int .i64 (vars + n)) (.int .i64 vars) lv2 ps2 [(-1, fhi), (-1, (-(fv + 1))), (1, ((K : Int) + 2))] _ ⟨hv0, hv1⟩ (below_c hba2 (block_lt i0_2) i0_2) (HC2.out.below hba2) (Nat.lt_succ_self _) (pairs_block [(-1, fhi), (-1, (-(fv + 1))), (1, ((K : Int) + 2))] (new_at wx2 (.cells #[.int .i64 (-1), .int .i64 fhi, .int .i64 (-1), .int .i64 (-(fv + 1)), .int .i64 1, .int .i64 ((K : Int) + 2)] 66)) (by simp)) (by intro p hp; simp at hp; rcases hp with rfl | rfl | rfl <;> refine ⟨by simp, ?_, ?_⟩ <;> simp only <;> omega) (by have := HPL2.out; omega) (by simp) ⟨by simp; omega, by omega, hf2⟩
  have HBA2 := Lib.hid hba2
  clear hba2
  refine Calls.mono had2 ?_
  rintro e wx3 ⟨rfl, hb3, hz3, lv3, ps3, hw3, hp3, hk3, hf3⟩
  have hbx3 := (HBA2.out.mono (show bb + 2 ≤ wx2.heap.size by omega)).trans hb3
  have HBX3 : Hid (Below (bb + 2) W3 wx3) := Lib.hid (HBX2.out.trans hbx3)
  have HC3 := Lib.hid hw3
  have HPL3 : Hid (ps3.length ≤ 4 * K + 3) := Lib.hid (by
    have h1 := congrArg List.length hp3
    have h2 := ocl_len vars [(-1, fhi), (-1, (-(fv + 1))), (1, ((K : Int) + 2))]
    have h3 := HPL2.out
    simp only [List.length_append, List.length_map] at h1
    omega)
  have HPE3 := Lib.hid hp3
  have i0_3 := below_c hbx3 (by omega) i0_2
  have hsz3 : wx2.heap.size < wx3.heap.size := by simp at hz3; omega
  have o1_3 := (World.cell?_of_block (hk3.trans (HBA2.out.block _ (block_lt o1_2)))).trans o1_2
  have o2_3 := (World.cell?_of_block (hk3.trans (HBA2.out.block _ (block_lt o2_2)))).trans o2_2
  clear had2 hb3 hz3 hw3 hp3 HBA2 HPL2 HC2 HBX2 hbx3 o1_2 o2_2 i0_2
  go_wp2_with fail
  have hba3 : Below wx3.heap.size wx3 (wx3.alloc (.cells #[.int .i64 (-1), .int .i64 flo, .int .i64 1, .int .i64 (-(fv + 1)), .int .i64 1, .int .i64 ((K : Int) + 2)] 66)) := (Below.refl _ _).alloc (Nat.le_refl _) _
  have had3 := ocl_any bb (bb + 2) (bb + 2 + 1) wr.heap.size wx3.heap.size 3 vars (.int .i64 (vars + n)) (.int .i64 vars) lv3 ps3 [(-1, flo), (1, (-(fv + 1))), (1, ((K : Int) + 2))] _ ⟨hv0, hv1⟩ (below_c hba3 (block_lt i0_3) i0_3) (HC3.out.below hba3) (Nat.lt_succ_self _) (pairs_block [(-1, flo), (1, (-(fv + 1))), (1, ((K : Int) + 2))] (new_at wx3 (.cells #[.int .i64 (-1), .int .i64 flo, .int .i64 1, .int .i64 (-(fv + 1)), .int .i64 1, .int .i64 ((K : Int) + 2)] 66)) (by simp)) (by intro p hp; simp at hp; rcases hp with rfl | rfl | rfl <;> refine ⟨by simp, ?_, ?_⟩ <;> simp only <;> omega) (by have := HPL3.out; omega) (by simp) ⟨by simp; omega, by omega, hf3⟩
  have HBA3 := Lib.hid hba3
  clear hba3
  refine Calls.mono had3 ?_
  rintro e wx4 ⟨rfl, hb4, hz4, lv4, ps4, hw4, hp4, hk4, hf4⟩
  have hbx4 := (HBA3.out.mono (show bb + 2 ≤ wx3.heap.size by omega)).trans hb4
  have HBX4 : Hid (Below (bb + 2) W3 wx4) := Lib.hid (HBX3.out.trans hbx4)
  have HC4 := Lib.hid hw4
  have HPL4 : Hid (ps4.length ≤ 4 * K + 4) := Lib.hid (by
    have h1 := congrArg List.length hp4
    have h2 := ocl_len vars [(-1, flo), (1, (-(fv + 1))), (1, ((K : Int) + 2))]
    have h3 := HPL3.out
    simp only [List.length_append, List.length_map] at h1
    omega)
  have HPE4 := Lib.hid hp4
  have i0_4 := below_c hbx4 (by omega) i0_3
  have hsz4 : wx3.heap.size < wx4.heap.size := by simp at hz4; omega
  have o1_4 := (World.cell?_of_block (hk4.trans (HBA3.out.block _ (block_lt o1_3)))).trans o1_3
  have o2_4 := (World.cell?_of_block (hk4.trans (HBA3.out.block _ (block_lt o2_3)))).trans o2_3
  clear had3 hb4 hz4 hw4 hp4 HBA3 HPL3 HC3 HBX3 hbx4 o1_3 o2_3 i0_3
  have HQF : Hid (Q = ps4.map Prod.snd ++ nodesC vars (ns.drop (K + 1)) (K + 1)) := Lib.hid (by
    rw [HQ2.out, HPE4.out, HPE3.out, HPE2.out, HPE1.out, node4S]
    simp only [List.append_assoc])
  clear HQ2 HPE1 HPE2 HPE3 HPE4
  go_wp2_with fail
  go_roundg (gk - 1)
  case measure => omega
  case rel => exact ⟨K + 1, _, _, by omega, by go_num, HBX4, HC4, by have := HPL4.out; omega, HQF⟩
end Go.Proofs.Ytelobilhppoooaa
