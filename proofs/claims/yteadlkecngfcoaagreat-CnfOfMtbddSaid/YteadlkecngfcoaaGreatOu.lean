/- Walk: cnf.OfMtbdd. Few nodes, leaves and words. -/
import Derived.Test.YteadlkecngfcoaaGreatOt
import Derived.BigQuiet
import Derived.Deep.QuietTactic
import Derived.Deep.RegionHeld3
namespace Go.Proofs.YteadlkecngfcoaaGreat
open Go.ChangeShapes Go.WideShapes Go.ChangeAt Go.RowKit
set_option linter.unusedVariables false
set_option linter.unusedSimpArgs false

/-- one clause more -/
theorem add_step (b : Nat) (w5 W : World) (lv : Value) (ps : List (Value × List Int)) (lits : List Int) (arr : Array Value) (n : Nat) (hB : Below b w5 W) (hW : WrAt b (b + 1) W lv ps) (hp : ps.length ≤ 100000) (hl : lits.length ≤ 3) (hx : ∀ x ∈ lits, I64 x ∧ x ≠ 20001 ∧ x ≠ -20001) (harr : arr = (lits.map (.int .i64)).toArray) (hn : n = lits.length) :
    Calls Tryz.prog 22 #[.pointer (some ⟨b, 0, none⟩), .slice (some ⟨W.heap.size, 0, none⟩) n n] (W.alloc (.cells arr 3)) fun e w' =>
      e = .returned (.tuple #[]) ∧ Below b w5 w' ∧ W.heap.size ≤ w'.heap.size ∧ (∀ k, k < W.heap.size → k ≠ b → lv.ownBlock ≠ some k → w'.heap[k]? = W.heap[k]?) ∧ ∃ lv' ps', WrAt b (b + 1) w' lv' ps' ∧ ps'.map Prod.snd = ps.map Prod.snd ++ [lits] ∧ ps'.length = ps.length + 1 := by
  subst harr hn
  have hba : Below W.heap.size W (W.alloc (.cells (lits.map (.int .i64)).toArray 3)) := (Below.refl _ _).alloc (Nat.le_refl _) _
  have hlt := block_lt hW.1
  have h := add2_any _ b (b + 1) lv _ ps lits _ (hW.below hba) (Nat.lt_succ_self _) (ints_block lits lits.length (new_at W (.cells (lits.map (.int .i64)).toArray 3)) (by omega) rfl fun x hx' => (hx x hx').1) (by omega) (by omega)
  refine h.mono ?_
  rintro e w' ⟨rfl, h1, h2, h3, lv', ps', h4, h5, h6⟩
  rw [addM_id fun x hx' => (hx x hx').2] at h5
  refine ⟨rfl, hB.trans ((hba.mono (by omega)).trans h1), by have := hba.size; omega, fun k hk n1 n2 => (h3 k (by have := hba.size; omega) n1 n2).trans (hba.block k hk), lv', ps', h4, h5, ?_⟩
  have := congrArg List.length h5
  simpa using this
theorem ndC_each (fst wd : Int) (L : Nat) : ∀ (ns : List Fork) (i : Nat) (c : List Int), c ∈ ndC fst wd L ns i → c.length ≤ 3
  | [], i, c, h => by simp [ndC] at h
  | f :: r, i, c, h => by
    rw [ndC] at h
    rcases List.mem_cons.1 h with h | h
    · rw [h]; simp
    rcases List.mem_cons.1 h with h | h
    · rw [h]; simp
    · exact ndC_each fst wd L r (i + 1) c h
theorem btC_each (a : Int) : ∀ (bs : List Bool) (k : Nat) (c : List Int), c ∈ btC a bs k → c.length ≤ 3
  | [], k, c, h => by simp [btC] at h
  | b :: r, k, c, h => by
    rw [btC] at h
    rcases List.mem_cons.1 h with h | h
    · rw [h]; simp
    · exact btC_each a r (k + 1) c h
theorem lfC_each (fst : Int) (ws : List (List Bool)) : ∀ (ls : List Int) (i : Nat) (c : List Int), c ∈ lfC fst ws ls i → c.length ≤ 3
  | [], i, c, h => by simp [lfC] at h
  | v :: r, i, c, h => by
    rw [lfC] at h
    rcases List.mem_append.1 h with h | h
    · split at h
      · simp at h; rw [h]; simp
      · exact btC_each _ _ _ c h
    · exact lfC_each fst ws r (i + 1) c h
def noC : Value := .agg #[.int .i64 0, .int .i64 0, .slice none 0 0]
/-- what OfMtbdd hands back -/
def OfmPost (W : World) (vars : Int) (lvs : List Int) (ns : List Fork) (root : Int) (ws : List (List Bool)) (e : Ending) (w' : World) : Prop :=
  ∃ (v : Value) (c : Int), e = .returned (.tuple #[v, .int .i64 c]) ∧ Below W.heap.size W w' ∧ (¬ MtP vars lvs ns root → c ≠ 0 ∧ v = noC) ∧
    (MtP vars lvs ns root → ¬ (SameW ws ∧ FitW lvs ws) → c = 2 ∧ v = noC) ∧
    (MtP vars lvs ns root → SameW ws → FitW lvs ws → makeM (widM ws + vars + lvs.length + ns.length) (widM ws) (mtC vars lvs ns root ws) = 0 →
      c = 0 ∧ ∃ cv, v = .agg #[.int .i64 (widM ws + vars + lvs.length + ns.length), .int .i64 (widM ws), cv] ∧ Clss (fun b => W.heap.size ≤ b) w' cv (canM (mtC vars lvs ns root ws)))
set_option maxRecDepth 100000 in
set_option maxHeartbeats 16000000 in
theorem ofmtbdd_any (F : Nat → Prop) (vars root : Int) (lv0 nv0 wv0 : Value) (lvs : List Int) (ns : List Fork) (ws : List (List Bool)) (w : World) (hlv : Ints F w lv0 lvs) (hnv : Forks F w nv0 ns) (hwv : Wds F w wv0 ws) (hL : lvs.length ≤ 40) (hn : ns.length ≤ 40) (hw : ws.length ≤ 20) (hwl : ∀ x ∈ ws, x.length ≤ 12) (hv : I64 vars) (hr : I64 root) :
    Calls Tryz.prog 5 #[.agg #[.int .i64 vars, lv0, nv0, .int .i64 root], wv0] w (OfmPost w vars lvs ns root ws) := by
  obtain ⟨la, ll, lc, rfl, HLL, _⟩ := hlv.form'
  obtain ⟨na, nl, nc, rfl, HNL, _⟩ := hnv.form
  obtain ⟨wa, wl, wk, rfl, HWL, _⟩ := hwv.form2
  obtain ⟨s, hs⟩ : ∃ b, w.heap.size = b := ⟨_, rfl⟩
  obtain ⟨W1, hW1⟩ : ∃ W1, ((w.alloc (.cells #[.int .i64 vars, .slice la ll lc, .slice na nl nc, .int .i64 root] 25)).alloc (.cells #[.slice wa wl wk] 26)).alloc (.cells #[.int .i64 0, .int .i64 0, .slice none 0 0] 31) = W1 := ⟨_, rfl⟩
  have z1 : (w.alloc (.cells #[.int .i64 vars, .slice la ll lc, .slice na nl nc, .int .i64 root] 25)).heap.size = s + 1 := by rw [World.size_alloc, hs]
  have z2 : ((w.alloc (.cells #[.int .i64 vars, .slice la ll lc, .slice na nl nc, .int .i64 root] 25)).alloc (.cells #[.slice wa wl wk] 26)).heap.size = s + 1 + 1 := by rw [World.size_alloc, z1]
  have hb1 : Below w.heap.size w W1 := by rw [← hW1]; exact (((Below.refl _ _).alloc (Nat.le_refl _) _).alloc (by rw [z1]; omega) _).alloc (by rw [z2]; omega) _
  have hs1 : W1.heap.size = s + 3 := by rw [← hW1, World.size_alloc, z2]
  have hA : W1.heap[s]? = some (.cells #[.int .i64 vars, .slice la ll lc, .slice na nl nc, .int .i64 root] 25) := by rw [← hW1]; exact old_at _ _ _ (old_at _ _ _ (new_at' _ _ hs.symm))
  have hAw : W1.heap[s + 1]? = some (.cells #[.slice wa wl wk] 26) := by rw [← hW1]; exact old_at _ _ _ (new_at' _ _ z1.symm)
  have hAr : W1.heap[s + 1 + 1]? = some (.cells #[.int .i64 0, .int .i64 0, .slice none 0 0] 31) := by rw [← hW1]; exact new_at' _ _ z2.symm
  have k0 : W1.cell? ⟨s, 0, none⟩ = some (.int .i64 vars) := cell_of hA rfl
  have k1 : W1.cell? ⟨s, 1, none⟩ = some (.slice la ll lc) := cell_of hA rfl
  have k2 : W1.cell? ⟨s, 2, none⟩ = some (.slice na nl nc) := cell_of hA rfl
  have k3 : W1.cell? ⟨s, 3, none⟩ = some (.int .i64 root) := cell_of hA rfl
  have k4 : W1.cell? ⟨s + 1, 0, none⟩ = some (.slice wa wl wk) := cell_of hAw rfl
  have r0 : W1.cell? ⟨s + 1 + 1, 0, none⟩ = some (.int .i64 0) := cell_of hAr rfl
  have r1 : W1.cell? ⟨s + 1 + 1, 1, none⟩ = some (.int .i64 0) := cell_of hAr rfl
  have r2 : W1.cell? ⟨s + 1 + 1, 2, none⟩ = some (.slice none 0 0) := cell_of hAr rfl
  have rf : ∀ o, W1.frozen? ⟨s + 1 + 1, o, none⟩ = false := froz_of hAr
  have HCK := Lib.hid (mcheck_any F vars root _ _ lvs ns W1 (hlv.below hb1) (hnv.below hb1) hv hr)
  have HLV := Lib.hid (hlv.below hb1)
  have HNV := Lib.hid (hnv.below hb1)
  have HWV := Lib.hid (hwv.below hb1)
  have HW1 := Lib.hid hW1
  have HB1 := Lib.hid hb1
  have HS := Lib.hid hs
  have HV := Lib.hid hv
  have HR := Lib.hid hr
  have HWLE := Lib.hid hwl
  have hll : ll ≤ 40 := by rw [HLL.out]; exact hL
  have hnl : nl ≤ 40 := by rw [HNL.out]; exact hn
  have hwl2 : wl ≤ 20 := by rw [HWL.out]; exact hw
  clear hlv hnv hwv hs hW1 hb1 hA hAw hAr hv hr hL hn hw hwl z1 z2
  go_enter Tryz.func5, Tryz.ntmps5
  go_upto_region 1 with fail
  rw [HW1.out]
  try rw [HS.out]
  go_wp2_with fail
  refine HCK.out.mono ?_
  rintro e w2 ⟨c, rfl, hc, hb2⟩
  have k0 := below_c hb2 (block_lt k0) k0
  have k1 := below_c hb2 (block_lt k1) k1
  have k2 := below_c hb2 (block_lt k2) k2
  have k3 := below_c hb2 (block_lt k3) k3
  have k4 := below_c hb2 (block_lt k4) k4
  have r0 := below_c hb2 (block_lt r0) r0
  have r1 := below_c hb2 (block_lt r1) r1
  have r2 := below_c hb2 (block_lt r2) r2
  have rf : ∀ o, w2.frozen? ⟨s + 1 + 1, o, none⟩ = false := fun o => below_z hb2 (by omega) (rf o)
  have hs2 : s + 3 ≤ w2.heap.size := by have := hb2.size; omega
  have HB2 : Hid (Below W1.heap.size W1 w2) := Lib.hid hb2
  have HB02 : Hid (Below w.heap.size w w2) := Lib.hid (HB1.out.trans (hb2.mono HB1.out.size))
  have HC := Lib.hid hc
  clear hc hb2 HCK
  by_cases hc0 : c = 0
  case neg =>
    have hd : (c != 0) = true := by simp [hc0]
    have HNO : Hid (¬ MtP vars lvs ns root) := Lib.hid fun h => hc0 (HC.out.2 h)
    have HC0 := Lib.hid hc0
    clear hc0
    go_wp2_with fail
    obtain ⟨v0, v1, v2⟩ := set3_at (x := .int .i64 0) (y := .int .i64 0) (z := .slice none 0 0) r0 r1 r2
    refine bodyPost_ret (v := .tuple #[.agg #[.int .i64 0, .int .i64 0, .slice none 0 0], .int .i64 c]) (by simp [results, Tryz.results5, go_sem, v0, v1, v2]) rfl ?_
    exact ⟨_, c, rfl, set3_below _ _ _ HB02.out (by have := HS.out; omega), fun _ => ⟨HC0.out, rfl⟩, fun h => absurd h HNO.out, fun h => absurd h HNO.out⟩
  subst hc0
  have HMT : Hid (MtP vars lvs ns root) := Lib.hid (HC.out.1 rfl)
  have hv40 : 0 ≤ vars ∧ vars ≤ 40 := ⟨HMT.out.1, HMT.out.2.1⟩
  obtain ⟨hv0, hv1⟩ := hv40
  go_upto_region 5 with fail
  obtain ⟨g, hg⟩ : ∃ g, w2.heap.size = g := ⟨_, rfl⟩
  obtain ⟨w3, hw3⟩ : ∃ W, w2.alloc (.cells #[.int .i64 0] 3) = W := ⟨_, rfl⟩
  have hb3 : Below w2.heap.size w2 w3 := by rw [← hw3]; exact (Below.refl _ _).alloc (Nat.le_refl _) _
  have hs3 : w3.heap.size = g + 1 := by rw [← hw3, World.size_alloc, hg]
  have hgr : w3.heap[g]? = some (.cells #[.int .i64 0] 3) := by rw [← hw3, ← hg]; exact new_at _ _
  have g0 : w3.cell? ⟨g, 0, none⟩ = some (.int .i64 0) := cell_of hgr rfl
  have gf : ∀ o, w3.frozen? ⟨g, o, none⟩ = false := froz_of hgr
  have k4' := below_c hb3 (block_lt k4) k4
  obtain ⟨D, hD⟩ : ∃ d, widM ws = d := ⟨_, rfl⟩
  have HD := Lib.hid hD
  have hD12 : D ≤ 12 := by
    rw [← hD]
    unfold widM
    rcases hx : ws[0]? with _ | x
    · rw [List.getD_eq_getElem?_getD, hx]; simp
    · rw [List.getD_eq_getElem?_getD, hx]; exact HWLE.out x (List.mem_of_getElem? hx)
  have HB3 : Hid (Below w2.heap.size w2 w3) := Lib.hid hb3
  have HB13 : Hid (Below W1.heap.size W1 w3) := Lib.hid (HB2.out.trans (hb3.mono HB2.out.size))
  have HWV3 := Lib.hid (HWV.out.below HB13.out)
  have HW3 := Lib.hid hw3
  have HG := Lib.hid hg
  obtain ⟨B0, hB0⟩ : ∃ b, decide ((0 : Int) < wl) = b := ⟨_, rfl⟩
  obtain ⟨B1, hB1⟩ : ∃ b, decide (0 < wl) = b := ⟨_, rfl⟩
  have HB0 := Lib.hid hB0
  have hB01 : B0 = B1 := by rw [← hB0, ← hB1]; simp
  subst hB01
  clear hw3 hg hb3 hgr hD
  rw [HG.out, HW3.out]
  go_upto_if 28 with fail
  clear hB0 hB1
  go_cut [] from 29 to 33 (fun wx => Hid (Below g w3 wx) ∧ Hid (wx.cell? ⟨g, 0, none⟩ = some (.int .i64 D)) ∧ Hid (w3.heap.size ≤ wx.heap.size))
  case first =>
    rcases bool2 B0 with rfl | rfl
    · have hw0 : 0 < wl := by have := of_decide_eq_true HB0.out; omega
      obtain ⟨x, hx⟩ : ∃ x, ws[0]? = some x := ⟨_, List.getElem?_eq_getElem (by have := HWL.out; omega)⟩
      obtain ⟨xb, xo, xu, rfl, _, _, xc, xr⟩ := HWV3.out.at hx
      obtain ⟨xa, xcp, rfl, _⟩ := xr.form
      have hxD : x.length = D := by rw [← HD.out]; unfold widM; rw [List.getD_eq_getElem?_getD, hx]; rfl
      rw [hxD, Nat.add_zero] at xc
      have hw1 : (0 : Int) < wl := by omega
      have HBS : Hid (Below g w3 (w3.setCell ⟨g, 0, none⟩ (.int .i64 D))) := Lib.hid ((Below.refl g w3).setCell (Nat.le_refl g) _)
      have HCS : Hid ((w3.setCell ⟨g, 0, none⟩ (.int .i64 D)).cell? ⟨g, 0, none⟩ = some (.int .i64 D)) := Lib.hid (set_eq g0)
      have HSS : Hid (w3.heap.size ≤ (w3.setCell ⟨g, 0, none⟩ (.int .i64 D)).heap.size) := Lib.hid (by simp)
      clear hx xr hxD
      go_wp2_with fail
      go_meet
      exact ⟨HBS, HCS, HSS⟩
    · have hD0 : D = 0 := by
        have hw0 := of_decide_eq_false HB0.out
        have : ws = [] := List.eq_nil_of_length_eq_zero (by have := HWL.out; omega)
        rw [← HD.out, this]
        rfl
      subst hD0
      have HBS : Hid (Below g w3 w3) := Lib.hid (Below.refl _ _)
      have HCS := Lib.hid g0
      have HSS : Hid (w3.heap.size ≤ w3.heap.size) := Lib.hid (Nat.le_refl _)
      go_wp2_with fail
      go_meet
      exact ⟨HBS, HCS, HSS⟩
  case rest =>
  obtain ⟨HBC, HCC, HSC⟩ := hcut
  have hsc : g + 1 ≤ wc.heap.size := by have := HSC.out; omega
  have hgs : s + 3 ≤ g := by have := HG.out; omega
  have HBG : Hid (Below g w2 wc) := Lib.hid (by have h := HB3.out; rw [HG.out] at h; exact h.trans HBC.out)
  have HB1C : Hid (Below W1.heap.size W1 wc) := Lib.hid (HB2.out.trans (HBG.out.mono (by have := HG.out; omega)))
  have HB0C : Hid (Below w.heap.size w wc) := Lib.hid (HB1.out.trans (HB1C.out.mono HB1.out.size))
  have k0 := below_c HBG.out (by omega) k0
  have k1 := below_c HBG.out (by omega) k1
  have k2 := below_c HBG.out (by omega) k2
  have k3 := below_c HBG.out (by omega) k3
  have k4 := below_c HBG.out (by omega) k4
  have r0 := below_c HBG.out (by omega) r0
  have r1 := below_c HBG.out (by omega) r1
  have r2 := below_c HBG.out (by omega) r2
  have rf : ∀ o, wc.frozen? ⟨s + 1 + 1, o, none⟩ = false := fun o => below_z HBG.out (by omega) (rf o)
  have kg := HCC.out
  have HLVC := Lib.hid (HLV.out.below HB1C.out)
  have HNVC := Lib.hid (HNV.out.below HB1C.out)
  have HWVC := Lib.hid (HWV.out.below HB1C.out)
  obtain ⟨A1, hA1⟩ : ∃ b, ws.any (fun y => ((y.length : Int) != (D : Int))) = b := ⟨_, rfl⟩
  obtain ⟨A2, hA2⟩ : ∃ b, lvs.any (fun y => decide ((wl : Int) ≤ y)) = b := ⟨_, rfl⟩
  have HCW : Hid (Calls Tryz.prog 11 #[.slice wa wl wk, .func (.func 19) #[] #[.pointer (some ⟨g, 0, none⟩)]] wc (QuietPost wc (.bool A1))) := Lib.hid (by
    rw [← hA1]
    exact containsfW_any F (fun y => ((y.length : Int) != (D : Int))) g _ ws wc HWVC.out fun nq u y hy hr => of1_any F g D u y (wc.drewN nq) kg hr)
  have HCV : Hid (∀ n, Calls Tryz.prog 20 #[.slice la ll lc, .func (.func 21) #[] #[.pointer (some ⟨s + 1, 0, none⟩)]] (wc.drewN n) (QuietPost (wc.drewN n) (.bool A2))) := Lib.hid fun n => by
    rw [← hA2]
    exact containsfV_any F (fun y => decide ((wl : Int) ≤ y)) (s + 1) _ lvs (wc.drewN n) (HLVC.out.below (below_drewN (Below.refl _ _) n)) fun nq u y hy hr => by
      obtain ⟨rfl, _⟩ := hr
      exact of2_any (s + 1) wa wl wk y ((wc.drewN n).drewN nq) k4
  have HFIT : Hid ((A1 = false ↔ SameW ws) ∧ (A2 = false ↔ FitW lvs ws)) := Lib.hid ⟨by
      rw [← hA1, List.any_eq_false]
      unfold SameW
      rw [HD.out]
      constructor
      · intro h x hx
        have := h x hx
        simp at this
        omega
      · intro h x hx
        have := h x hx
        simp
        omega, by
      rw [← hA2, List.any_eq_false]
      unfold FitW
      have hl := HWL.out
      constructor
      · intro h x hx
        have := h x hx
        simp at this
        omega
      · intro h x hx
        have := h x hx
        simp
        omega⟩
  have HNOF : Hid (∀ w', Below w.heap.size w w' → ¬ (SameW ws ∧ FitW lvs ws) → OfmPost w vars lvs ns root ws (.returned (.tuple #[.agg #[.int .i64 0, .int .i64 0, .slice none 0 0], .int .i64 2])) w') := Lib.hid fun w' hb h => ⟨_, 2, rfl, hb, fun hm => absurd HMT.out hm, fun _ _ => ⟨rfl, rfl⟩, fun _ h1 h2 => absurd ⟨h1, h2⟩ h⟩
  clear hA1 hA2 g0 gf k4'
  go_wp2_with fail
  refine HCW.out.mono ?_
  rintro e w4 ⟨rfl, n1, rfl⟩
  rcases bool2 A1 with rfl | rfl
  · have HNF : Hid (¬ (SameW ws ∧ FitW lvs ws)) := Lib.hid fun h => by have := HFIT.out.1.2 h.1; cases this
    go_wp2_with fail
    obtain ⟨v0, v1, v2⟩ := set3_at (w := wc.drewN n1) (x := .int .i64 0) (y := .int .i64 0) (z := .slice none 0 0) r0 r1 r2
    refine bodyPost_ret (v := .tuple #[.agg #[.int .i64 0, .int .i64 0, .slice none 0 0], .int .i64 2]) (by simp [results, Tryz.results5, go_sem, v0, v1, v2]) rfl ?_
    exact HNOF.out _ (set3_below _ _ _ (below_drewN HB0C.out n1) (by have := HS.out; omega)) HNF.out
  go_wp2_with fail
  refine (HCV.out n1).mono ?_
  rintro e w4 ⟨rfl, n2, rfl⟩
  rcases bool2 A2 with rfl | rfl
  · have HNF : Hid (¬ (SameW ws ∧ FitW lvs ws)) := Lib.hid fun h => by have := HFIT.out.2.2 h.2; cases this
    go_wp2_with fail
    obtain ⟨v0, v1, v2⟩ := set3_at (w := wc.drewN (n1 + n2)) (x := .int .i64 0) (y := .int .i64 0) (z := .slice none 0 0) r0 r1 r2
    refine bodyPost_ret (v := .tuple #[.agg #[.int .i64 0, .int .i64 0, .slice none 0 0], .int .i64 2]) (by simp [results, Tryz.results5, go_sem, v0, v1, v2]) rfl ?_
    exact HNOF.out _ (set3_below _ _ _ (below_drewN HB0C.out (n1 + n2)) (by have := HS.out; omega)) HNF.out
  have HSW : Hid (SameW ws) := Lib.hid (HFIT.out.1.1 (by first | trivial | rfl))
  have HFW : Hid (FitW lvs ws) := Lib.hid (HFIT.out.2.1 (by first | trivial | rfl))
  go_upto_region 9 with fail
  obtain ⟨w4, hw4⟩ : ∃ W, wc.drewN (n1 + n2) = W := ⟨_, rfl⟩
  have k0 : w4.cell? ⟨s, 0, none⟩ = some (.int .i64 vars) := by rw [← hw4]; exact k0
  have k1 : w4.cell? ⟨s, 1, none⟩ = some (.slice la ll lc) := by rw [← hw4]; exact k1
  have k2 : w4.cell? ⟨s, 2, none⟩ = some (.slice na nl nc) := by rw [← hw4]; exact k2
  have k3 : w4.cell? ⟨s, 3, none⟩ = some (.int .i64 root) := by rw [← hw4]; exact k3
  have k4 : w4.cell? ⟨s + 1, 0, none⟩ = some (.slice wa wl wk) := by rw [← hw4]; exact k4
  have kg : w4.cell? ⟨g, 0, none⟩ = some (.int .i64 D) := by rw [← hw4]; exact kg
  have r0 : w4.cell? ⟨s + 1 + 1, 0, none⟩ = some (.int .i64 0) := by rw [← hw4]; exact r0
  have r1 : w4.cell? ⟨s + 1 + 1, 1, none⟩ = some (.int .i64 0) := by rw [← hw4]; exact r1
  have r2 : w4.cell? ⟨s + 1 + 1, 2, none⟩ = some (.slice none 0 0) := by rw [← hw4]; exact r2
  have rf : ∀ o, w4.frozen? ⟨s + 1 + 1, o, none⟩ = false := by rw [← hw4]; exact rf
  have HBC4 : Hid (Below wc.heap.size wc w4) := Lib.hid (by rw [← hw4]; exact below_drewN (Below.refl _ _) _)
  have HB04 : Hid (Below w.heap.size w w4) := Lib.hid (by rw [← hw4]; exact below_drewN HB0C.out _)
  have HLV4 := Lib.hid (HLVC.out.below HBC4.out)
  have HNV4 := Lib.hid (HNVC.out.below HBC4.out)
  have HWV4 := Lib.hid (HWVC.out.below HBC4.out)
  have hg4 : g + 1 ≤ w4.heap.size := by have := HBC4.out.size; omega
  have HW4 := Lib.hid hw4
  rw [hw4]
  clear hw4 HCW HCV HFIT HNOF
  have e1 : IntKind.i64.wrap ((D : Int) + vars) = D + vars := IntWalk.i64_in _ ⟨by omega, by omega⟩
  have e2 : IntKind.i64.wrap ((D : Int) + vars + 1) = D + vars + 1 := IntWalk.i64_in _ ⟨by omega, by omega⟩
  have e3 : IntKind.i64.wrap ((D : Int) + vars + ll) = D + vars + ll := IntWalk.i64_in _ ⟨by omega, by omega⟩
  have e4 : IntKind.i64.wrap ((D : Int) + vars + ll + nl) = D + vars + ll + nl := IntWalk.i64_in _ ⟨by omega, by omega⟩
  have hd20 : decide ((20000 : Int) < D + vars + ll + nl) = false := decide_eq_false (by omega)
  go_upto_region 14 with fail
  obtain ⟨b, hb⟩ : ∃ b, w4.heap.size = b := ⟨_, rfl⟩
  obtain ⟨w5, hw5⟩ : ∃ W, w4.alloc (.cells #[.slice none 0 0] 57) = W := ⟨_, rfl⟩
  have hb5 : Below w4.heap.size w4 w5 := by rw [← hw5]; exact (Below.refl _ _).alloc (Nat.le_refl _) _
  have hs5 : w5.heap.size = b + 1 := by rw [← hw5, World.size_alloc, hb]
  have hbr : w5.heap[b]? = some (.cells #[.slice none 0 0] 57) := by rw [← hw5, ← hb]; exact new_at _ _
  have hw0 : WrAt b (b + 1) w5 (.slice none 0 0) [] := ⟨cell_of hbr rfl, froz_of hbr 0, ⟨World.ownsRow_nil _ _ _ _, fun p hp => by simp at hp⟩, by omega⟩
  have HWR5 := Lib.hid hw0
  have HKK : Hid (∀ W, Below b w5 W → W.cell? ⟨s, 0, none⟩ = some (.int .i64 vars) ∧ W.cell? ⟨s, 1, none⟩ = some (.slice la ll lc) ∧ W.cell? ⟨s, 2, none⟩ = some (.slice na nl nc) ∧ W.cell? ⟨s, 3, none⟩ = some (.int .i64 root) ∧ W.cell? ⟨s + 1, 0, none⟩ = some (.slice wa wl wk) ∧ W.cell? ⟨g, 0, none⟩ = some (.int .i64 D)) := Lib.hid fun W hW => by
    have h := (hb5.mono (show b ≤ w4.heap.size by omega)).trans hW
    exact ⟨below_c h (by omega) k0, below_c h (by omega) k1, below_c h (by omega) k2, below_c h (by omega) k3, below_c h (by omega) k4, below_c h (by omega) kg⟩
  have HRR : Hid (∀ W, Below b w5 W → W.cell? ⟨s + 1 + 1, 0, none⟩ = some (.int .i64 0) ∧ W.cell? ⟨s + 1 + 1, 1, none⟩ = some (.int .i64 0) ∧ W.cell? ⟨s + 1 + 1, 2, none⟩ = some (.slice none 0 0) ∧ ∀ o, W.frozen? ⟨s + 1 + 1, o, none⟩ = false) := Lib.hid fun W hW => by
    have h := (hb5.mono (show b ≤ w4.heap.size by omega)).trans hW
    exact ⟨below_c h (by omega) r0, below_c h (by omega) r1, below_c h (by omega) r2, fun o => below_z h (by omega) (rf o)⟩
  have HDD : Hid (∀ W, Below b w5 W → Ints (fun _ => True) W (.slice la ll lc) lvs ∧ Forks (fun _ => True) W (.slice na nl nc) ns ∧ Wds (fun k => k < b) W (.slice wa wl wk) ws) := Lib.hid fun W hW => by
    have h : Below w4.heap.size w4 W := by rw [hb]; exact (hb5.mono (show b ≤ w4.heap.size by omega)).trans hW
    exact ⟨(HLV4.out.below h).mono fun _ _ => trivial, (HNV4.out.below h).mono fun _ _ => trivial, Rows1.mono (fun _ _ _ _ _ h hg => h.mono hg) (HWV4.out.lt2.below h) fun k hk => by omega⟩
  have HB05 : Hid (Below w.heap.size w w5) := Lib.hid (HB04.out.trans (hb5.mono HB04.out.size))
  have hgb : g < b := by omega
  have HW5 := Lib.hid hw5
  have HBE := Lib.hid hb
  obtain ⟨k0', k1', k2', k3', k4', kg'⟩ := HKK.out w5 (Below.refl _ _)
  clear hw5 hb5 hbr hw0 hb k0 k1 k2 k3 k4 kg r0 r1 r2 rf HLV4 HNV4 HWV4 HLVC HNVC HWVC
  rw [HBE.out, HW5.out]
  obtain ⟨f0, hf0⟩ : ∃ f, (D : Int) + vars + 1 = f := ⟨_, rfl⟩
  have hf0r : 1 ≤ f0 ∧ f0 ≤ 53 := by omega
  rw [hf0]
  have HF0 : Hid (fstM vars ws = f0) := Lib.hid (by unfold fstM; rw [HD.out, hf0])
  have e5 : IntKind.i64.wrap (f0 + root) = f0 + root := IntWalk.i64_in _ ⟨by have := HMT.out.2.2.2.2.2.2.1; omega, by have := HMT.out.2.2.2.2.2.2.2.1; have := HLL.out; have := HNL.out; omega⟩
  have hrt : 0 ≤ root ∧ root < ll + nl := ⟨HMT.out.2.2.2.2.2.2.1, by have := HMT.out.2.2.2.2.2.2.2.1; have := HLL.out; have := HNL.out; omega⟩
  have HRT := Lib.hid hrt
  obtain ⟨MC, hMC⟩ : ∃ c, mtC vars lvs ns root ws = c := ⟨_, rfl⟩
  have HMC := Lib.hid hMC
  have HM1 : Hid (MC = ([] : List (List Int)) ++ [[f0 + root]] ++ (ndC f0 D ll ns 0 ++ lfC f0 ws lvs 0)) := Lib.hid (by rw [← hMC]; unfold mtC; rw [HF0.out, HD.out, HLL.out]; simp)
  have HAD0 := Lib.hid (add_step b w5 w5 (.slice none 0 0) [] [f0 + root] #[.int .i64 (f0 + root)] 1 (Below.refl _ _) HWR5.out (by simp) (by simp) (fun x hx => by simp at hx; subst hx; exact ⟨⟨by omega, by omega⟩, by omega, by omega⟩) rfl rfl)
  rw [hs5] at HAD0
  clear hMC
  go_wp2_with fail
  refine HAD0.out.mono ?_
  rintro e w6 ⟨rfl, hb6, -, -, lv6, ps6, hw6, hp6, hl6⟩
  obtain ⟨k0, k1, k2, k3, k4, kg⟩ := HKK.out w6 hb6
  have HW6 := Lib.hid hw6
  have HB6 := Lib.hid hb6
  have HM6 : Hid (MC = ps6.map Prod.snd ++ (ndC f0 D ll (ns.drop 0) 0 ++ lfC f0 ws lvs 0)) := Lib.hid (by rw [HM1.out, hp6, List.drop_zero]; simp)
  have HL6 : Hid (ps6.length = 1 + 2 * 0) := Lib.hid (by rw [hl6]; rfl)
  clear hb6 hw6 hp6 hl6 HAD0 HWR5 k0' k1' k2' k3' k4' kg'
  go_wp2_with fail
  go_loopg [75] nl (fun gg u75 wx => ∃ (q : Nat) (lv : Value) (ps : List (Value × List Int)), q + gg = nl ∧ u75 = .int .i64 q ∧ Hid (Below b w5 wx) ∧ Hid (WrAt b (b + 1) wx lv ps) ∧ Hid (MC = ps.map Prod.snd ++ (ndC f0 D ll (ns.drop q) q ++ lfC f0 ws lvs 0)) ∧ Hid (ps.length = 1 + 2 * q))
  case atStart => exact ⟨0, lv6, ps6, by omega, rfl, HB6, HW6, HM6, HL6⟩
  case round =>
  clear HB6 HW6 HM6 HL6 k0 k1 k2 k3 k4 kg
  obtain ⟨q, lv, ps, hqg, rfl, HB, HWR, HM, HPL⟩ := hrel
  obtain ⟨k0, k1, k2, k3, k4, kg⟩ := HKK.out wr HB.out
  by_cases hq : q < nl
  case neg =>
    have hdq : decide ((q : Int) < nl) = false := by simp; omega
    have hdq' : decide (q < nl) = false := decide_eq_false hq
    have HMF : Hid (MC = ps.map Prod.snd ++ lfC f0 ws (lvs.drop 0) 0) := Lib.hid (by
      rw [HM.out, List.drop_eq_nil_of_le (by have := HNL.out; omega), List.drop_zero]
      simp [ndC])
    have HPF : Hid (ps.length ≤ 100 + 12 * 0) := Lib.hid (by have := HPL.out; omega)
    clear hq HM HPL k0 k2 k3 k4 kg
    go_wp2_with fail
    go_loopg [117] ll (fun gg u117 wx => ∃ (i : Nat) (lv : Value) (ps : List (Value × List Int)), i + gg = ll ∧ u117 = .int .i64 i ∧ Hid (Below b w5 wx) ∧ Hid (WrAt b (b + 1) wx lv ps) ∧ Hid (MC = ps.map Prod.snd ++ lfC f0 ws (lvs.drop i) i) ∧ Hid (ps.length ≤ 100 + 12 * i))
    case atStart => exact ⟨0, lv, ps, by omega, rfl, HB, HWR, HMF, HPF⟩
    case round =>
    clear HB HWR HMF HPF k1
    obtain ⟨i, lv, ps, hig, rfl, HB, HWR, HM, HPL⟩ := hrel
    obtain ⟨k0, k1, k2, k3, k4, kg⟩ := HKK.out wr HB.out
    by_cases hi : i < ll
    case neg =>
      have hdi : decide ((i : Int) < ll) = false := by simp; omega
      have hdi' : decide (i < ll) = false := decide_eq_false hi
      have hil : i = ll := by omega
      have HMF : Hid (ps.map Prod.snd = MC) := Lib.hid (by
        rw [HM.out, List.drop_eq_nil_of_le (by have := HLL.out; omega)]
        simp [lfC])
      obtain ⟨xr0, xr1, xr2, xrf⟩ := HRR.out wr HB.out
      have y0 := HWR.out.1
      have hlx1 := block_lt y0
      obtain ⟨xa, xn, xc, rfl⟩ : ∃ a n c, lv = .slice a n c := by
        obtain ⟨a, c, h⟩ := own_form HWR.out.2.2.1.1
        exact ⟨a, _, c, h⟩
      have hcl := HWR.out.2.2.1.clss (by have := HPL.out; omega)
      rw [HMF.out] at hcl
      have hMCl : MC.length ≤ 1000 := by
        have := congrArg List.length HMF.out
        rw [List.length_map] at this
        have := HPL.out
        omega
      have hMCe : ∀ c ∈ MC, c.length ≤ 3 := fun c hc => by
        rw [← HMC.out] at hc
        unfold mtC at hc
        rcases List.mem_cons.1 hc with h | h
        · rw [h]; simp
        rcases List.mem_append.1 h with h | h
        · exact ndC_each _ _ _ _ _ c h
        · exact lfC_each _ _ _ _ c h
      have hmk := make_any _ ((D : Int) + vars + ll + nl) D (.slice xa xn xc) MC wr.drew (Rows1.move (w' := wr.drew) (fun _ _ _ _ _ h hm => h.move hm) hcl fun _ _ _ => rfl) ⟨by omega, by omega⟩ ⟨by omega, by omega⟩ (by omega) (fun c hc => by have := hMCe c hc; omega)
      have HMK := Lib.hid hmk
      have hlt8 : s + 1 + 1 < wr.heap.size := by have := HB.out.size; omega
      have hlt9 : g < wr.heap.size := by have := HB.out.size; omega
      have hne1 : g ≠ s + 1 + 1 := by omega
      have hne2 : b ≠ s + 1 + 1 := by omega
      have HBWR : Hid (Below w.heap.size w wr) := Lib.hid (HB05.out.trans (HB.out.mono (by have := HS.out; omega)))
      clear hi hcl hmk HM HPL HWR hMCl hMCe k0 k1 k2 k3 hil
      obtain ⟨MK, hMK⟩ : ∃ M, makeM ((D : Int) + vars + ll + nl) D MC = M := ⟨_, rfl⟩
      unfold MakePost at HMK
      rw [hMK] at HMK
      have HMKE := Lib.hid hMK
      clear hMK
      go_upto_region 36 with fail
      by_cases hm : MK = 0
      · have HMZ := Lib.hid hm
        clear hm
        go_region_held3 (fun w' => w'.cell? ⟨g, 0, none⟩ = some (.int .i64 D) ∧ w'.cell? ⟨b, 0, none⟩ = some (.slice xa xn xc))
          (first | exact ⟨kg, y0⟩ | exact ⟨below_c hb9 hlt9 kg, below_c hb9 hlx1 y0⟩ | exact ⟨set_ne (by omega) (set_ne (by omega) (set_ne (by omega) (below_c hb9 hlt9 kg))), set_ne (by omega) (set_ne (by omega) (set_ne (by omega) (below_c hb9 hlx1 y0)))⟩ | go_keep)
          (first | (go_at_call 23; refine HMK.out.mono ?_; rintro e w9 ⟨v9, rfl, hb9, hno9, hyes9⟩; obtain ⟨cv9, rfl, hc9⟩ := hyes9 HMZ.out; obtain ⟨ca, cn, cc, rfl, _, _⟩ := hc9.form'; have HC9 := Lib.hid hc9; have z0 := below_c hb9 hlt8 xr0; have z1 := below_c hb9 hlt8 xr1; have z2 := below_c hb9 hlt8 xr2; have zf : ∀ o, w9.frozen? ⟨s + 1 + 1, o, none⟩ = false := fun o => below_z hb9 hlt8 (xrf o); clear hc9 hyes9 hno9))
        have hb9' : Below wr.heap.size wr w9 := ⟨hb9.os, hb9.tape, hb9.output, hb9.size, hb9.block⟩
        have HBF : Hid (Below w.heap.size w (((w9.setCell ⟨s + 1 + 1, 0, none⟩ (.int .i64 ((D : Int) + vars + ll + nl))).setCell ⟨s + 1 + 1, 1, none⟩ (.int .i64 D)).setCell ⟨s + 1 + 1, 2, none⟩ (.slice ca cn cc))) := Lib.hid (set3_below _ _ _ (HBWR.out.trans (hb9'.mono HBWR.out.size)) (by have := HS.out; omega))
        have HCF : Hid (Clss (fun k => w.heap.size ≤ k) (((w9.setCell ⟨s + 1 + 1, 0, none⟩ (.int .i64 ((D : Int) + vars + ll + nl))).setCell ⟨s + 1 + 1, 1, none⟩ (.int .i64 D)).setCell ⟨s + 1 + 1, 2, none⟩ (.slice ca cn cc)) (.slice ca cn cc) (canM MC)) :=
          Lib.hid (Rows1.mono (fun _ _ _ _ _ h hg => h.mono hg) (Rows1.move (fun _ _ _ _ _ h hm => h.move hm) HC9.out fun k hk hlt => set3_block _ _ _ (by have : wr.heap.size ≤ k := hk; omega)) fun k hk => show w.heap.size ≤ k by have : wr.heap.size ≤ k := hk; have := HS.out; omega)
        obtain ⟨v0, v1, v2⟩ := set3_at (x := .int .i64 ((D : Int) + vars + ll + nl)) (y := .int .i64 D) (z := .slice ca cn cc) z0 z1 z2
        clear hb9 hb9' z0 z1 z2 zf HC9
        go_wp2_with fail
        refine bodyPost_ret (v := .tuple #[.agg #[.int .i64 ((D : Int) + vars + ll + nl), .int .i64 D, .slice ca cn cc], .int .i64 MK]) (by simp [results, Tryz.results5, go_sem, v0, v1, v2]) rfl ?_
        refine ⟨_, MK, rfl, HBF.out, fun h => absurd HMT.out h, fun _ h => absurd ⟨HSW.out, HFW.out⟩ h, fun _ _ _ _ => ⟨HMZ.out, .slice ca cn cc, ?_, ?_⟩⟩
        · rw [HD.out, ← HLL.out, ← HNL.out]
        · rw [HMC.out]; exact HCF.out
      · have HMZ := Lib.hid hm
        clear hm
        go_region_held3 (fun w' => w'.cell? ⟨g, 0, none⟩ = some (.int .i64 D) ∧ w'.cell? ⟨b, 0, none⟩ = some (.slice xa xn xc))
          (first | exact ⟨kg, y0⟩ | exact ⟨below_c hb9 hlt9 kg, below_c hb9 hlx1 y0⟩ | exact ⟨set_ne (by omega) (set_ne (by omega) (set_ne (by omega) (below_c hb9 hlt9 kg))), set_ne (by omega) (set_ne (by omega) (set_ne (by omega) (below_c hb9 hlx1 y0)))⟩ | go_keep)
          (first | (go_at_call 23; refine HMK.out.mono ?_; rintro e w9 ⟨v9, rfl, hb9, hno9, hyes9⟩; obtain rfl := hno9 HMZ.out; have z0 := below_c hb9 hlt8 xr0; have z1 := below_c hb9 hlt8 xr1; have z2 := below_c hb9 hlt8 xr2; have zf : ∀ o, w9.frozen? ⟨s + 1 + 1, o, none⟩ = false := fun o => below_z hb9 hlt8 (xrf o); clear hyes9 hno9))
        have hb9' : Below wr.heap.size wr w9 := ⟨hb9.os, hb9.tape, hb9.output, hb9.size, hb9.block⟩
        have HBF : Hid (Below w.heap.size w (((w9.setCell ⟨s + 1 + 1, 0, none⟩ (.int .i64 0)).setCell ⟨s + 1 + 1, 1, none⟩ (.int .i64 0)).setCell ⟨s + 1 + 1, 2, none⟩ (.slice none 0 0))) := Lib.hid (set3_below _ _ _ (HBWR.out.trans (hb9'.mono HBWR.out.size)) (by have := HS.out; omega))
        obtain ⟨v0, v1, v2⟩ := set3_at (x := .int .i64 0) (y := .int .i64 0) (z := .slice none 0 0) z0 z1 z2
        clear hb9 hb9' z0 z1 z2 zf
        go_wp2_with fail
        refine bodyPost_ret (v := .tuple #[.agg #[.int .i64 0, .int .i64 0, .slice none 0 0], .int .i64 MK]) (by simp [results, Tryz.results5, go_sem, v0, v1, v2]) rfl ?_
        refine ⟨_, MK, rfl, HBF.out, fun h => absurd HMT.out h, fun _ h => absurd ⟨HSW.out, HFW.out⟩ h, fun _ _ _ h => absurd ?_ HMZ.out⟩
        rw [← HMKE.out, ← HMC.out, HLL.out, HNL.out, ← HD.out]
        exact h
    have hdi : decide ((i : Int) < ll) = true := by simp; omega
    have hdi' : decide (i < ll) = true := decide_eq_true hi
    have hi0 : (0 : Int) ≤ i := by omega
    have hin : (i : Int) < ll := by omega
    obtain ⟨v, hv, ed⟩ := drop_at (xs := lvs) (k := i) (by have := HLL.out; omega)
    obtain ⟨eb, eo, rfl, _, hebl, e0, _⟩ := (HDD.out wr HB.out).1.at hv
    have hvw := HFW.out v (List.mem_of_getElem? hv)
    have HVW : Hid (v < wl) := Lib.hid (by have := HWL.out; omega)
    obtain ⟨A, hA⟩ : ∃ a, f0 + (i : Int) = a := ⟨_, rfl⟩
    have hAr : 1 ≤ A ∧ A ≤ 200 := by omega
    have HM2 : Hid (MC = ps.map Prod.snd ++ ((if v < 0 then [[-A]] else btC A (ws.getD v.toNat []) 0) ++ lfC f0 ws (lvs.drop (i + 1)) (i + 1))) := Lib.hid (by rw [HM.out, ed, lfC, hA])
    have uw2 : IntKind.i64.wrap (f0 + (i : Int)) = A := by rw [hA]; exact IntWalk.i64_in _ ⟨by omega, by omega⟩
    have uw5 : IntKind.i64.wrap (-A) = -A := IntWalk.i64_in _ ⟨by omega, by omega⟩
    have hps : ps.length ≤ 100000 := by have := HPL.out; omega
    obtain ⟨GK, hGK⟩ : ∃ G, G = gk := ⟨_, rfl⟩
    subst hGK
    clear hv ed hvw hA HM
    by_cases hv0' : v < 0
    · have hd : decide (v < 0) = true := decide_eq_true hv0'
      have HAD1 := Lib.hid (add_step b w5 wr lv ps [-A] #[.int .i64 (-A)] 1 HB.out HWR.out hps (by simp) (fun x hx => by simp at hx; subst hx; exact ⟨⟨by omega, by omega⟩, by omega, by omega⟩) rfl rfl)
      have HM3 : Hid (MC = ps.map Prod.snd ++ [[-A]] ++ lfC f0 ws (lvs.drop (i + 1)) (i + 1)) := Lib.hid (by rw [HM2.out, if_pos hv0']; simp)
      clear hv0' HM2 hps
      go_wp2_with fail
      refine HAD1.out.mono ?_
      rintro e w9 ⟨rfl, hb9, -, -, lv9, ps9, hw9, hp9, hl9⟩
      have HB9 := Lib.hid hb9
      have HW9 := Lib.hid hw9
      have HM9 : Hid (MC = ps9.map Prod.snd ++ lfC f0 ws (lvs.drop (i + 1)) (i + 1)) := Lib.hid (by rw [HM3.out, hp9])
      have HL9 : Hid (ps9.length ≤ 100 + 12 * (i + 1)) := Lib.hid (by have := HPL.out; omega)
      clear hb9 hw9 hp9 hl9 HAD1
      go_wp2_with fail
      go_roundg (GK - 1)
      case measure => omega
      case rel => exact ⟨i + 1, lv9, ps9, by omega, by go_num, HB9, HW9, HM9, HL9⟩
    have hd : decide (v < 0) = false := decide_eq_false hv0'
    obtain ⟨k, rfl⟩ : ∃ k : Nat, v = k := ⟨v.toNat, by omega⟩
    have hkw : k < wl := by have := HVW.out; omega
    have hkw0 : (0 : Int) ≤ k := by omega
    have hkw1 : (k : Int) < wl := by omega
    obtain ⟨word, hwd⟩ : ∃ x, ws[k]? = some x := ⟨_, List.getElem?_eq_getElem (by have := HWL.out; omega)⟩
    obtain ⟨xb, xo, xu, rfl, _, hxb, xc, xr⟩ := (HDD.out wr HB.out).2.2.at hwd
    obtain ⟨xa, xcp, rfl, _⟩ := xr.form
    have hxD : word.length = D := by rw [HSW.out word (List.mem_of_getElem? hwd), HD.out]
    rw [hxD] at xc xr
    have HXD := Lib.hid hxD
    have hxr5 : Bools (fun k => k < b) wr (.slice xa D xcp) word := xr
    have HXR : Hid (∀ W, Below b wr W → Bools (fun k => k < b) W (.slice xa D xcp) word) := Lib.hid fun W hW => hxr5.move fun k hk _ => hW.block k hk
    have HM3 : Hid (MC = ps.map Prod.snd ++ (btC A (word.drop 0) 0 ++ lfC f0 ws (lvs.drop (i + 1)) (i + 1))) := Lib.hid (by rw [HM2.out, if_neg hv0', show ((k : Int)).toNat = k from rfl, getD_some hwd, List.drop_zero])
    have HL3 : Hid (ps.length ≤ 100 + 12 * i + 0) := Lib.hid HPL.out
    clear hv0' HM2 hwd hxD xr hxr5
    obtain ⟨WO, hWO⟩ : ∃ W, W = wr := ⟨_, rfl⟩
    subst hWO
    have HBW0 : Hid (Below b WO WO) := Lib.hid (Below.refl _ _)
    clear k0 k1 k2 k3
    go_wp2_with fail
    go_loopg [137] D (fun gg u137 wx => ∃ (j : Nat) (lv : Value) (ps : List (Value × List Int)), j + gg = D ∧ u137 = .int .i64 j ∧ Hid (Below b w5 wx) ∧ Hid (Below b WO wx) ∧ Hid (WrAt b (b + 1) wx lv ps) ∧ Hid (MC = ps.map Prod.snd ++ (btC A (word.drop j) j ++ lfC f0 ws (lvs.drop (i + 1)) (i + 1))) ∧ Hid (ps.length ≤ 100 + 12 * i + j))
    case atStart => exact ⟨0, lv, ps, by omega, rfl, HB, HBW0, HWR, HM3, HL3⟩
    case round =>
    clear HB HBW0 HWR HM3 HL3 HPL hps
    obtain ⟨j, lv, ps, hjg, rfl, HB, HBW, HWR, HM, HPL⟩ := hrel
    by_cases hj : j < D
    case neg =>
      have hdj : decide ((j : Int) < D) = false := by simp; omega
      have hdj' : decide (j < D) = false := decide_eq_false hj
      have HMF : Hid (MC = ps.map Prod.snd ++ lfC f0 ws (lvs.drop (i + 1)) (i + 1)) := Lib.hid (by
        rw [HM.out, List.drop_eq_nil_of_le (by have := HXD.out; omega)]
        simp [btC])
      have HPF : Hid (ps.length ≤ 100 + 12 * (i + 1)) := Lib.hid (by have := HPL.out; omega)
      clear hj HM HPL
      go_wp2_with fail
      go_roundg (GK - 1)
      case measure => omega
      case rel => exact ⟨i + 1, lv, ps, by omega, by go_num, HB, HWR, HMF, HPF⟩
    have hdj : decide ((j : Int) < D) = true := by simp; omega
    have hdj' : decide (j < D) = true := decide_eq_true hj
    have hj0 : (0 : Int) ≤ j := by omega
    have hjn : (j : Int) < D := by omega
    obtain ⟨bt, hbt, ebt⟩ := drop_at (xs := word) (k := j) (by rw [HXD.out]; exact hj)
    obtain ⟨yb, yo, rfl, _, _, yc⟩ := (HXR.out wr HBW.out).at hbt
    have uw1 : IntKind.i64.wrap ((j : Int) + 1) = j + 1 := IntWalk.i64_in _ ⟨by omega, by omega⟩
    have uw3 : IntKind.i64.wrap (-(j : Int)) = -j := IntWalk.i64_in _ ⟨by omega, by omega⟩
    have uw4 : IntKind.i64.wrap (-(j : Int) - 1) = -j - 1 := IntWalk.i64_in _ ⟨by omega, by omega⟩
    have hps : ps.length ≤ 100000 := by have := HPL.out; omega
    have HMB : Hid (MC = ps.map Prod.snd ++ [[-A, if bt = true then (j : Int) + 1 else -(j : Int) - 1]] ++ (btC A (word.drop (j + 1)) (j + 1) ++ lfC f0 ws (lvs.drop (i + 1)) (i + 1))) := Lib.hid (by rw [HM.out, ebt, btC]; simp)
    clear hbt ebt HM
    rcases bool2 bt with rfl | rfl
    · have HAD1 := Lib.hid (add_step b w5 wr lv ps [-A, (j : Int) + 1] #[.int .i64 (-A), .int .i64 ((j : Int) + 1)] 2 HB.out HWR.out hps (by simp) (fun x hx => by simp at hx; rcases hx with rfl | rfl <;> exact ⟨⟨by omega, by omega⟩, by omega, by omega⟩) rfl rfl)
      have HSZ : Hid (b ≤ wr.heap.size) := Lib.hid (by have := HB.out.size; omega)
      clear hps
      go_wp2_with fail
      refine HAD1.out.mono ?_
      rintro e w9 ⟨rfl, hb9, hz9, hk9, lv9, ps9, hw9, hp9, hl9⟩
      have HB9 := Lib.hid hb9
      have HBW9 : Hid (Below b WO w9) := Lib.hid (HBW.out.trans ⟨hb9.os.trans HB.out.os.symm, hb9.tape.trans HB.out.tape.symm, hb9.output.trans HB.out.output.symm, hz9, fun k hk => by
        have h1 := HB.out.block k hk
        have h2 := hb9.block k hk
        rw [h1, h2]⟩)
      have HW9 := Lib.hid hw9
      have HM9 : Hid (MC = ps9.map Prod.snd ++ (btC A (word.drop (j + 1)) (j + 1) ++ lfC f0 ws (lvs.drop (i + 1)) (i + 1))) := Lib.hid (by rw [HMB.out, hp9]; rfl)
      have HL9 : Hid (ps9.length ≤ 100 + 12 * i + (j + 1)) := Lib.hid (by have := HPL.out; omega)
      clear hb9 hw9 hp9 hl9 HAD1 hk9 hz9
      go_wp2_with fail
      go_roundg (gk - 1)
      case measure => omega
      case rel => exact ⟨j + 1, lv9, ps9, by omega, by go_num, HB9, HBW9, HW9, HM9, HL9⟩
    · have HAD1 := Lib.hid (add_step b w5 wr lv ps [-A, -(j : Int) - 1] #[.int .i64 (-A), .int .i64 (-(j : Int) - 1)] 2 HB.out HWR.out hps (by simp) (fun x hx => by simp at hx; rcases hx with rfl | rfl <;> exact ⟨⟨by omega, by omega⟩, by omega, by omega⟩) rfl rfl)
      clear hps
      go_wp2_with fail
      refine HAD1.out.mono ?_
      rintro e w9 ⟨rfl, hb9, hz9, hk9, lv9, ps9, hw9, hp9, hl9⟩
      have HB9 := Lib.hid hb9
      have HBW9 : Hid (Below b WO w9) := Lib.hid (HBW.out.trans ⟨hb9.os.trans HB.out.os.symm, hb9.tape.trans HB.out.tape.symm, hb9.output.trans HB.out.output.symm, hz9, fun k hk => by
        have h1 := HB.out.block k hk
        have h2 := hb9.block k hk
        rw [h1, h2]⟩)
      have HW9 := Lib.hid hw9
      have HM9 : Hid (MC = ps9.map Prod.snd ++ (btC A (word.drop (j + 1)) (j + 1) ++ lfC f0 ws (lvs.drop (i + 1)) (i + 1))) := Lib.hid (by rw [HMB.out, hp9]; rfl)
      have HL9 : Hid (ps9.length ≤ 100 + 12 * i + (j + 1)) := Lib.hid (by have := HPL.out; omega)
      clear hb9 hw9 hp9 hl9 HAD1 hk9 hz9
      go_wp2_with fail
      go_roundg (gk - 1)
      case measure => omega
      case rel => exact ⟨j + 1, lv9, ps9, by omega, by go_num, HB9, HBW9, HW9, HM9, HL9⟩
  have hdq : decide ((q : Int) < nl) = true := by simp; omega
  have hdq' : decide (q < nl) = true := decide_eq_true hq
  have hq0 : (0 : Int) ≤ q := by omega
  have hqn : (q : Int) < nl := by omega
  obtain ⟨f, hf, ed⟩ := drop_at (xs := ns) (k := q) (by have := HNL.out; omega)
  obtain ⟨fb, fo, rfl, _, hfb, c0, c1, c2, hfo⟩ := (HDD.out wr HB.out).2.1.at hf
  obtain ⟨n1', n2', n3', n4', _, _, n7', _, _⟩ := HMT.out.2.2.2.2.2.1 q f hf
  have hfv := (FrmP.dia (root := root) (vars := vars) HV.out HMT.out.2.2.1 HMT.out.2.2.2.1 HMT.out.2.2.2.2.1 HMT.out.2.2.2.2.2.1).vr f (List.mem_of_getElem? hf)
  obtain ⟨fv, flo, fhi⟩ := f
  simp only at c0 c1 c2 n1' n2' n3' n4' n7' hfv
  rw [← HLL.out] at n2' n4'
  obtain ⟨z, hz⟩ : ∃ z, wr.heap.size = z := ⟨_, rfl⟩
  obtain ⟨w7, hw7⟩ : ∃ W, wr.alloc (.cells #[.int .i64 fv, .int .i64 flo, .int .i64 fhi] 49) = W := ⟨_, rfl⟩
  have hb7 : Below wr.heap.size wr w7 := by rw [← hw7]; exact (Below.refl _ _).alloc (Nat.le_refl _) _
  have hbz : b + 1 ≤ z := by have := HB.out.size; omega
  have g0 : w7.cell? ⟨z, 0, none⟩ = some (.int .i64 fv) := by rw [← hw7, ← hz]; exact cell_of (new_at _ _) rfl
  have g1 : w7.cell? ⟨z, 1, none⟩ = some (.int .i64 flo) := by rw [← hw7, ← hz]; exact cell_of (new_at _ _) rfl
  have g2 : w7.cell? ⟨z, 2, none⟩ = some (.int .i64 fhi) := by rw [← hw7, ← hz]; exact cell_of (new_at _ _) rfl
  have hs7 : w7.heap.size = z + 1 := by rw [← hw7, World.size_alloc, hz]
  have HB7 : Hid (Below b w5 w7) := Lib.hid (HB.out.trans (hb7.mono (by omega)))
  have HW7 : Hid (WrAt b (b + 1) w7 lv ps) := Lib.hid (HWR.out.below hb7)
  have HOW : Hid (∀ k, lv.ownBlock = some k → k < z) := Lib.hid fun k e => by have := (HWR.out.2.2.1.1.lt k e).2; omega
  obtain ⟨y0, y1, y2, y3, y4, yg⟩ := HKK.out w7 HB7.out
  obtain ⟨A, hA⟩ : ∃ a, f0 + (ll : Int) + (q : Int) = a := ⟨_, rfl⟩
  obtain ⟨X, hX⟩ : ∃ x, (D : Int) + fv + 1 = x := ⟨_, rfl⟩
  have hAr : 1 ≤ A ∧ A ≤ 200 := by omega
  have hXr : 1 ≤ X ∧ X ≤ 200 := by omega
  have HMQ : Hid (MC = ps.map Prod.snd ++ [[-A, -X, f0 + fhi]] ++ [[-A, X, f0 + flo]] ++ (ndC f0 D ll (ns.drop (q + 1)) (q + 1) ++ lfC f0 ws lvs 0)) := Lib.hid (by rw [HM.out, ed, ndC, hA, hX]; simp)
  have uw1 : IntKind.i64.wrap (f0 + (ll : Int)) = f0 + ll := IntWalk.i64_in _ ⟨by omega, by omega⟩
  have uw2 : IntKind.i64.wrap (f0 + (ll : Int) + q) = A := by rw [hA]; exact IntWalk.i64_in _ ⟨by omega, by omega⟩
  have uw3 : IntKind.i64.wrap ((D : Int) + fv) = D + fv := IntWalk.i64_in _ ⟨by omega, by omega⟩
  have uw4 : IntKind.i64.wrap ((D : Int) + fv + 1) = X := by rw [hX]; exact IntWalk.i64_in _ ⟨by omega, by omega⟩
  have uw5 : IntKind.i64.wrap (-A) = -A := IntWalk.i64_in _ ⟨by omega, by omega⟩
  have uw6 : IntKind.i64.wrap (-X) = -X := IntWalk.i64_in _ ⟨by omega, by omega⟩
  have uw7 : IntKind.i64.wrap (f0 + fhi) = f0 + fhi := IntWalk.i64_in _ ⟨by omega, by omega⟩
  have uw8 : IntKind.i64.wrap (f0 + flo) = f0 + flo := IntWalk.i64_in _ ⟨by omega, by omega⟩
  have HLIM : Hid ((0 ≤ flo ∧ flo ≤ 80) ∧ (0 ≤ fhi ∧ fhi ≤ 80)) := Lib.hid ⟨⟨n1', by omega⟩, n3', by omega⟩
  have HW7e := Lib.hid hw7
  have HZ := Lib.hid hz
  clear hf ed hfo n1' n2' n3' n4' n7' hfv hw7 hb7 hz hA hX HM HWR HB
  go_upto_region 18 with fail
  rw [HZ.out, HW7e.out]
  go_quiet (fail)
  obtain ⟨w8, hw8⟩ : ∃ W, w7.drewN nq = W := ⟨_, rfl⟩
  have hb8 : Below w7.heap.size w7 w8 := by rw [← hw8]; exact below_drewN (Below.refl _ _) _
  have hs8 : w8.heap.size = z + 1 := by rw [← hw8]; exact hs7
  have HB8 : Hid (Below b w5 w8) := Lib.hid (HB7.out.trans (hb8.mono (by omega)))
  have HW8 : Hid (WrAt b (b + 1) w8 lv ps) := Lib.hid (HW7.out.below hb8)
  have g1 := below_c hb8 (block_lt g1) g1
  have g2 := below_c hb8 (block_lt g2) g2
  obtain ⟨l1, l2⟩ := HLIM.out
  have hps : ps.length ≤ 100000 := by have := HPL.out; omega
  have HAD1 := Lib.hid (add_step b w5 w8 lv ps [-A, -X, f0 + fhi] #[.int .i64 (-A), .int .i64 (-X), .int .i64 (f0 + fhi)] 3 HB8.out HW8.out hps (by simp) (fun x hx => by simp at hx; rcases hx with rfl | rfl | rfl <;> exact ⟨⟨by omega, by omega⟩, by omega, by omega⟩) rfl rfl)
  rw [hs8] at HAD1
  have HW8e := Lib.hid hw8
  rw [hw8]
  clear hw8 hb8 g0 y0 y1 y2 y3 y4 yg c0 c1 c2 HW7 HB7
  go_wp2_with fail
  refine HAD1.out.mono ?_
  rintro e w9 ⟨rfl, hb9, hz9, hk9, lv9, ps9, hw9, hp9, hl9⟩
  have g1 : w9.cell? ⟨z, 1, none⟩ = some (.int .i64 flo) := (World.cell?_of_block (hk9 z (by omega) (by omega) (fun e => by have := HOW.out z e; omega))).trans g1
  have HB9 := Lib.hid hb9
  have HW9 := Lib.hid hw9
  have HP9 := Lib.hid hp9
  have HL9 := Lib.hid hl9
  have hps9 : ps9.length ≤ 100000 := by have := HPL.out; omega
  have HAD2 := Lib.hid (add_step b w5 w9 lv9 ps9 [-A, X, f0 + flo] #[.int .i64 (-A), .int .i64 X, .int .i64 (f0 + flo)] 3 hb9 hw9 hps9 (by simp) (fun x hx => by simp at hx; rcases hx with rfl | rfl | rfl <;> exact ⟨⟨by omega, by omega⟩, by omega, by omega⟩) rfl rfl)
  clear hb9 hw9 hp9 hl9 hk9 HAD1 g2 hps hps9
  go_wp2_with fail
  refine HAD2.out.mono ?_
  rintro e w10 ⟨rfl, hb10, -, -, lv10, ps10, hw10, hp10, hl10⟩
  have HB10 := Lib.hid hb10
  have HW10 := Lib.hid hw10
  have HM10 : Hid (MC = ps10.map Prod.snd ++ (ndC f0 D ll (ns.drop (q + 1)) (q + 1) ++ lfC f0 ws lvs 0)) := Lib.hid (by rw [HMQ.out, hp10, HP9.out])
  have HL10 : Hid (ps10.length = 1 + 2 * (q + 1)) := Lib.hid (by rw [hl10, HL9.out, HPL.out]; omega)
  clear hb10 hw10 hp10 hl10 HAD2
  go_wp2_with fail
  go_roundg (gk - 1)
  case measure => omega
  case rel => exact ⟨q + 1, lv10, ps10, by omega, by go_num, HB10, HW10, HM10, HL10⟩
end Go.Proofs.YteadlkecngfcoaaGreat
