/- Walk: the statement's mtbddRight. No condition but the sizes. -/
import Derived.Test.YteadlkecngfcoaaGreatOd
import Derived.Test.YteadlkecngfcoaaGreatO9
namespace Go.Proofs.YteadlkecngfcoaaGreat
open Go.ChangeShapes Go.WideShapes Go.ChangeAt Go.RowKit
set_option linter.unusedVariables false
set_option linter.unusedSimpArgs false

/-- which leaves are marked -/
def RchS (w : World) (base g ll : Nat) (refs : List Int) : Prop :=
  ∃ rs : List Bool, w.ownsRow base 4 1 (.slice (some ⟨g, 0, none⟩) ll ll) ll (rs.map .bool) ∧ ∀ j, j < ll → ∃ b, rs[j]? = some b ∧ (b = true ↔ (j : Int) ∈ refs)
theorem RchS.below {w w' : World} {base g ll : Nat} {refs : List Int} (h : RchS w base g ll refs) (hb : Below w.heap.size w w') : RchS w' base g ll refs := by
  obtain ⟨rs, h1, h2⟩ := h
  exact ⟨rs, own_below h1 hb, h2⟩
theorem RchS.skip {w : World} {base g ll : Nat} {refs : List Int} {r : Int} (h : RchS w base g ll refs) (hr : r < 0 ∨ (ll : Int) ≤ r) : RchS w base g ll (refs ++ [r]) := by
  obtain ⟨rs, h1, h2⟩ := h
  refine ⟨rs, h1, fun j hj => ?_⟩
  obtain ⟨b, hb, hi⟩ := h2 j hj
  refine ⟨b, hb, hi.trans ?_⟩
  simp
  omega
theorem RchS.put {w : World} {base g ll : Nat} {refs : List Int} {r : Nat} (h : RchS w base g ll refs) (hr : r < ll) : (∃ v, w.cell? ⟨g, r, none⟩ = some v) ∧ w.frozen? ⟨g, r, none⟩ = false ∧ base ≤ g ∧ g < w.heap.size ∧ RchS (w.setCell ⟨g, r, none⟩ (.bool true)) base g ll (refs ++ [(r : Int)]) := by
  obtain ⟨rs, h1, h2⟩ := h
  obtain ⟨x, a1, a2, a3, a4, a5, a6⟩ := own_at .bool h1 hr
  refine ⟨⟨_, a2⟩, a3, a4, a5, rs.set r true, a6 true, fun j hj => ?_⟩
  have hl : rs.length = ll := by simpa using h1.1
  by_cases e : j = r
  · subst e
    exact ⟨true, by rw [List.getElem?_set_self (by omega)], by simp⟩
  · obtain ⟨b, hb, hi⟩ := h2 j hj
    refine ⟨b, by rw [List.getElem?_set_ne (fun h => e h.symm)]; exact hb, hi.trans ?_⟩
    simp
    omega
theorem RchS.get {w : World} {base g ll : Nat} {refs : List Int} {r : Nat} (h : RchS w base g ll refs) (hr : r < ll) : ∃ b, w.cell? ⟨g, r, none⟩ = some (.bool b) ∧ (b = true ↔ (r : Int) ∈ refs) := by
  obtain ⟨rs, h1, h2⟩ := h
  obtain ⟨x, a1, a2, _⟩ := own_at .bool h1 hr
  obtain ⟨b, hb, hi⟩ := h2 r hr
  rw [a1] at hb
  injection hb with hb
  subst hb
  exact ⟨x, a2, hi⟩
def refsM (root : Int) (ns : List Fork) : List Int := root :: ns.flatMap fun f => [f.2.1, f.2.2]
theorem refsM_snoc (root : Int) (ns : List Fork) (f : Fork) : refsM root (ns ++ [f]) = (refsM root ns ++ [f.2.1]) ++ [f.2.2] := by simp [refsM]
/-- mtbddRight -/
def RigP (vars : Int) (lvs : List Int) (ns : List Fork) (root : Int) : Prop :=
  0 ≤ vars ∧ vars ≤ 40 ∧ 1 ≤ lvs.length ∧ 0 ≤ root ∧ root < lvs.length + ns.length ∧ (∀ j, LvAt lvs j) ∧ (∀ j, j < lvs.length → (j : Int) ∈ refsM root ns) ∧ diaL vars lvs.length ns root = true
set_option maxRecDepth 100000 in
set_option maxHeartbeats 16000000 in
theorem mright_any (F : Nat → Prop) (vars root : Int) (lv0 nv0 : Value) (lvs : List Int) (ns : List Fork) (w : World) (hlv : Ints F w lv0 lvs) (hnv : Forks F w nv0 ns) (hL : lvs.length ≤ 40) (hn : ns.length ≤ 40) (hv : I64 vars) (hr : I64 root) (hcap : ∀ a n c, nv0 = .slice a n c → n ≤ c) :
    Calls Tryz.prog 6 #[.agg #[.int .i64 vars, lv0, nv0, .int .i64 root]] w (FrmPost w (RigP vars lvs ns root)) := by
  obtain ⟨P, hP⟩ : ∃ P, RigP vars lvs ns root = P := ⟨_, rfl⟩
  rw [hP]
  obtain ⟨la, ll, lc, rfl, HLL, _⟩ := hlv.form'
  obtain ⟨na, nl, nc, rfl, HNL, _⟩ := hnv.form
  have hcap' := hcap na nl nc rfl
  obtain ⟨s, hs⟩ : ∃ b, w.heap.size = b := ⟨_, rfl⟩
  obtain ⟨W1, hW1⟩ : ∃ W1, w.alloc (.cells #[.int .i64 vars, .slice la ll lc, .slice na nl nc, .int .i64 root] 25) = W1 := ⟨_, rfl⟩
  have hb1 : Below w.heap.size w W1 := by rw [← hW1]; exact (Below.refl _ _).alloc (Nat.le_refl _) _
  have hs1 : W1.heap.size = s + 1 := by rw [← hW1, World.size_alloc, hs]
  have hA : W1.heap[s]? = some (.cells #[.int .i64 vars, .slice la ll lc, .slice na nl nc, .int .i64 root] 25) := by rw [← hW1, ← hs]; exact new_at _ _
  have k0 : W1.cell? ⟨s, 0, none⟩ = some (.int .i64 vars) := cell_of (o := 0) hA rfl
  have k1 : W1.cell? ⟨s, 1, none⟩ = some (.slice la ll lc) := cell_of (o := 1) hA rfl
  have k2 : W1.cell? ⟨s, 2, none⟩ = some (.slice na nl nc) := cell_of (o := 2) hA rfl
  have k3 : W1.cell? ⟨s, 3, none⟩ = some (.int .i64 root) := cell_of (o := 3) hA rfl
  have HLV := Lib.hid (hlv.below hb1)
  have HNV := Lib.hid (hnv.below hb1)
  have HP := Lib.hid hP
  have HW1 := Lib.hid hW1
  have HB1 := Lib.hid hb1
  have HS := Lib.hid hs
  have HV := Lib.hid hv
  have HR := Lib.hid hr
  have hll : ll ≤ 40 := by rw [HLL.out]; exact hL
  have hnl : nl ≤ 40 := by rw [HNL.out]; exact hn
  have HCAP := Lib.hid hcap'
  clear hP hlv hnv hs hW1 hb1 hA hv hr hL hn hcap hcap'
  go_enter Tryz.func6, Tryz.ntmps6
  go_upto_region 1 with fail
  rw [HW1.out, HS.out]
  have hrf : IntKind.i64.wrap ((ll : Int) + nl) = ll + nl := IntWalk.i64_in _ ⟨by omega, by omega⟩
  have d1 : decide ((4096 : Int) < nl) = false := decide_eq_false (by omega)
  have d2 : decide ((4096 : Int) < ll) = false := decide_eq_false (by omega)
  have HNO : Hid (¬ RigP vars lvs ns root → FrmPost w P (.returned (.bool false)) W1) := Lib.hid fun h => frm_no HP.out h HB1.out
  by_cases h1 : vars < 0
  · have hd : decide (vars < 0) = true := decide_eq_true h1
    have HF : Hid (FrmPost w P (.returned (.bool false)) W1) := Lib.hid (HNO.out (fun h => by have := h.1; omega))
    clear h1
    go_wp2_with fail
    go_ret
    exact HF.out
  have dh1 : decide (vars < 0) = false := decide_eq_false h1
  by_cases h2 : 40 < vars
  · have hd : decide (40 < vars) = true := decide_eq_true h2
    have HF : Hid (FrmPost w P (.returned (.bool false)) W1) := Lib.hid (HNO.out (fun h => by have := h.2.1; omega))
    clear h2
    go_wp2_with fail
    go_ret
    exact HF.out
  have dh2 : decide (40 < vars) = false := decide_eq_false h2
  by_cases h3 : (ll : Int) < 1
  · have hd : decide ((ll : Int) < 1) = true := decide_eq_true h3
    have HF : Hid (FrmPost w P (.returned (.bool false)) W1) := Lib.hid (HNO.out (fun h => by have := h.2.2.1; have := HLL.out; omega))
    clear h3
    go_wp2_with fail
    go_ret
    exact HF.out
  have dh3 : decide ((ll : Int) < 1) = false := decide_eq_false h3
  by_cases h4 : root < 0
  · have hd : decide (root < 0) = true := decide_eq_true h4
    have HF : Hid (FrmPost w P (.returned (.bool false)) W1) := Lib.hid (HNO.out (fun h => by have := h.2.2.2.1; omega))
    clear h4
    go_wp2_with fail
    go_ret
    exact HF.out
  have dh4 : decide (root < 0) = false := decide_eq_false h4
  by_cases h5 : (ll : Int) + nl ≤ root
  · have hd : decide ((ll : Int) + nl ≤ root) = true := decide_eq_true h5
    have HF : Hid (FrmPost w P (.returned (.bool false)) W1) := Lib.hid (HNO.out (fun h => by have := h.2.2.2.2.1; have := HLL.out; have := HNL.out; omega))
    clear h5
    go_wp2_with fail
    go_ret
    exact HF.out
  have dh5 : decide ((ll : Int) + nl ≤ root) = false := decide_eq_false h5
  have HH := Lib.hid (⟨h1, h2, h3, h4, h5⟩ : ¬ vars < 0 ∧ ¬ 40 < vars ∧ ¬ (ll : Int) < 1 ∧ ¬ root < 0 ∧ ¬ (ll : Int) + nl ≤ root)
  have hroot0 : 0 ≤ root := by omega
  clear h1 h2 h3 h4 h5
  obtain ⟨i0, g1, g2, g3, g4⟩ := info_parts (show (Tryz.prog.info? 4).map (fun i => (i.zero, i.size, i.bytes)) = some (some (.bool false), 1, 1) by kernel_rfl)
  have G1 := Lib.hid g1
  have G2 := Lib.hid g2
  have G3 := Lib.hid g3
  have G4 := Lib.hid g4
  clear g1 g2 g3 g4
  go_upto_region 4 with (at_make; refine wpList_make_full _ rfl _ _ 28 rfl (s + 1) 4 i0 (.bool false) 1 Tryz.underlying28 G1.out G2.out G3.out .i64 .i64 _ _ ll rfl rfl (by simp) (by simp) (by rw [G4.out]; omega) (by unfold maxLen; omega) (by omega) ?_; intro w2 hown2 hg2)
  have hb2 : Below W1.heap.size W1 w2 := (Below.refl _ _).grown hg2 (Nat.le_refl _) (fun k e => by cases e)
  have hR0 : RchS w2 (s + 1) (s + 1) ll [] := by
    refine ⟨List.replicate ll false, by rw [made_bools] at hown2; simpa [hs1] using hown2, fun j hj => ⟨false, by rw [List.getElem?_replicate, if_pos hj], by simp⟩⟩
  have HR0 := Lib.hid hR0
  have HB2 : Hid (Below (s + 1) W1 w2) := Lib.hid (by rw [hs1] at hb2; exact hb2)
  have HK1 := Lib.hid (⟨k0, k1, k2, k3⟩ : W1.cell? ⟨s, 0, none⟩ = some (.int .i64 vars) ∧ W1.cell? ⟨s, 1, none⟩ = some (.slice la ll lc) ∧ W1.cell? ⟨s, 2, none⟩ = some (.slice na nl nc) ∧ W1.cell? ⟨s, 3, none⟩ = some (.int .i64 root))
  have k0 := below_c hb2 (block_lt k0) k0
  have k1 := below_c hb2 (block_lt k1) k1
  have k2 := below_c hb2 (block_lt k2) k2
  have k3 := below_c hb2 (block_lt k3) k3
  clear hown2 hg2 hb2 hR0 G1 G2 G3 G4
  obtain ⟨B0, hB0⟩ : ∃ b, decide (root < (ll : Int)) = b := ⟨_, rfl⟩
  have HB0 := Lib.hid hB0
  go_upto_if 61 with fail
  clear hB0
  go_cut [] from 62 to 66 (fun wx => Hid (Below (s + 1) W1 wx) ∧ Hid (RchS wx (s + 1) (s + 1) ll [root]))
  case first =>
    rcases bool2 B0 with rfl | rfl
    · have hrl : root < ll := of_decide_eq_true HB0.out
      obtain ⟨r, hr⟩ : ∃ r : Nat, root = r := ⟨root.toNat, by omega⟩
      obtain ⟨⟨v0, hv0⟩, hf0, _, _, hput⟩ := HR0.out.put (show r < ll by omega)
      have hr0 : (0 : Int) ≤ r := by omega
      have HPUT : Hid (RchS (w2.setCell ⟨s + 1, r, none⟩ (.bool true)) (s + 1) (s + 1) ll [root]) := Lib.hid (by rw [hr]; exact hput)
      have HBS : Hid (Below (s + 1) W1 (w2.setCell ⟨s + 1, r, none⟩ (.bool true))) := Lib.hid (HB2.out.setCell (Nat.le_refl _) _)
      have hrl2 : r < ll := by omega
      have hrl3 : (r : Int) < ll := by omega
      rw [hr] at k3
      clear hput hrl hr
      go_wp2_with fail
      go_meet
      exact ⟨HBS, HPUT⟩
    · have hrl : ¬ root < ll := of_decide_eq_false HB0.out
      have HSK : Hid (RchS w2 (s + 1) (s + 1) ll [root]) := Lib.hid (HR0.out.skip (.inr (by omega)))
      clear hrl
      go_wp2_with fail
      go_meet
      exact ⟨HB2, HSK⟩
  case rest =>
  obtain ⟨HBC, HRC⟩ := hcut
  have hsc := HBC.out.size
  clear k0 k1 k2 k3 HR0 HB2
  have k2 := below_c HBC.out (by omega) HK1.out.2.2.1
  have hl1 : 1 ≤ ll := by have := HH.out.2.2.1; omega
  go_wp2_with fail
  go_loopg [69] nl (fun gg u69 wx => ∃ (q : Nat), q + gg = nl ∧ u69 = .int .i64 q ∧ Hid (Below (s + 1) W1 wx) ∧ Hid (RchS wx (s + 1) (s + 1) ll (refsM root (ns.take q))))
  case atStart => exact ⟨0, by omega, rfl, HBC, Lib.hid HRC.out⟩
  case round =>
  obtain ⟨q, hqg, rfl, HB, HRR⟩ := hrel
  have hszr := HB.out.size
  by_cases hq : q < nl
  case neg =>
    have hdq : decide ((q : Int) < nl) = false := by simp; omega
    have hdq' : decide (q < nl) = false := decide_eq_false hq
    have HRF : Hid (RchS wr (s + 1) (s + 1) ll (refsM root ns)) := Lib.hid (by
      have := HRR.out
      rwa [List.take_of_length_le (by have := HNL.out; omega)] at this)
    have k0 := below_c HB.out (by omega) HK1.out.1
    have k1 := below_c HB.out (by omega) HK1.out.2.1
    have k2' := below_c HB.out (by omega) HK1.out.2.2.1
    have k3 := below_c HB.out (by omega) HK1.out.2.2.2
    have HBW : Hid (Below w.heap.size w wr) := Lib.hid (HB1.out.trans (HB.out.mono (by have := HS.out; omega)))
    have HNB : Hid (Below W1.heap.size W1 wr) := Lib.hid (by rw [hs1]; exact HB.out)
    obtain ⟨w6, hw6⟩ : ∃ W, W = wr := ⟨_, rfl⟩
    have HLV6 := Lib.hid (HLV.out.below HNB.out)
    have HNV6 := Lib.hid (HNV.out.below HNB.out)
    have HNO6 : Hid (¬ RigP vars lvs ns root → FrmPost w P (.returned (.bool false)) wr) := Lib.hid fun h => frm_no HP.out h HBW.out
    subst hw6
    clear HRR k2 hq HRC HBC
    go_wp2_with fail
    go_loopg [99] ll (fun gg u99 wx => ∃ (j : Nat), j + gg = ll ∧ u99 = .int .i64 j ∧ Hid (w6 = wx) ∧ Hid (∀ i, i < j → LvAt lvs i ∧ (i : Int) ∈ refsM root ns))
    case atStart => exact ⟨0, by omega, rfl, Lib.hid rfl, Lib.hid fun i hi => by omega⟩
    case round =>
    obtain ⟨j, hjg, rfl, HWX, HOK⟩ := hrel
    obtain rfl := HWX.out
    clear HWX
    by_cases hj : j < ll
    case neg =>
      have hdj : decide ((j : Int) < ll) = false := by simp; omega
      have hdj' : decide (j < ll) = false := decide_eq_false hj
      have HALL : Hid (∀ i, i < ll → LvAt lvs i ∧ (i : Int) ∈ refsM root ns) := Lib.hid fun i hi => HOK.out i (by omega)
      have HDG := Lib.hid (diagramL_any _ vars root ll (by omega) (.slice na nl nc) ns w6 HNV6.out (by have := HNL.out; omega) HV.out ⟨hroot0, by have := HH.out.2.2.2.2; have := HNL.out; omega⟩ (fun a n c e => by injection e with e1 e2 e3; subst e2 e3; exact HCAP.out))
      clear HOK hj
      go_wp2_with fail
      refine HDG.out.mono ?_
      rintro e w7 ⟨rfl, hb7⟩
      obtain ⟨B, hB⟩ : ∃ b, diaL vars ll ns root = b := ⟨_, rfl⟩
      rw [hB]
      have HRES : Hid (FrmPost w P (.returned (.bool B)) w7) := Lib.hid (by
        refine ⟨B, rfl, ?_, HBW.out.trans (hb7.mono HBW.out.size)⟩
        rw [← HP.out, ← hB]
        have h := HH.out
        have hl := HLL.out
        have hn := HNL.out
        constructor
        · intro hd
          exact ⟨by omega, by omega, by omega, by omega, by omega, fun i v hv => (HALL.out i (by have := (List.getElem?_eq_some_iff.1 hv).1; omega)).1 v hv, fun i hi => (HALL.out i (by omega)).2, by rw [← hl]; exact hd⟩
        · rintro ⟨_, _, _, _, _, _, _, h8⟩
          rw [hl]
          exact h8)
      clear hb7 HDG hB
      go_wp2_with fail
      go_ret
      exact HRES.out
    have hdj : decide ((j : Int) < ll) = true := by simp; omega
    have hdj' : decide (j < ll) = true := decide_eq_true hj
    have hj0 : (0 : Int) ≤ j := by omega
    have hjn : (j : Int) < ll := by omega
    obtain ⟨v, hv⟩ : ∃ v, lvs[j]? = some v := ⟨_, List.getElem?_eq_getElem (by have := HLL.out; omega)⟩
    obtain ⟨eb, eo, rfl, _, hebl, e0, _⟩ := HLV6.out.at hv
    have HVV := Lib.hid hv
    obtain ⟨rb, hrc, hri⟩ := HRF.out.get hj
    have HRI := Lib.hid hri
    clear hv hri
    by_cases h1 : v < -1099511627776
    · have hd : decide (v < -1099511627776) = true := decide_eq_true h1
      have HF := Lib.hid (HNO6.out (fun h => by have := (h.2.2.2.2.2.1 j v HVV.out).1; unfold rngM at this; simp only [Bool.and_eq_true, decide_eq_true_eq] at this; omega))
      clear h1
      go_wp2_with fail
      try rw [Exit.noGoto_ret]
      go_ret
      exact HF.out
    have hd1 : decide (v < -1099511627776) = false := decide_eq_false h1
    by_cases h2 : 1099511627776 < v
    · have hd : decide (1099511627776 < v) = true := decide_eq_true h2
      have HF := Lib.hid (HNO6.out (fun h => by have := (h.2.2.2.2.2.1 j v HVV.out).1; unfold rngM at this; simp only [Bool.and_eq_true, decide_eq_true_eq] at this; omega))
      clear h1 h2
      go_wp2_with fail
      try rw [Exit.noGoto_ret]
      go_ret
      exact HF.out
    have hd2 : decide (1099511627776 < v) = false := decide_eq_false h2
    have HRG : Hid (rngM v = true) := Lib.hid (by unfold rngM; rw [decide_eq_true (by omega), decide_eq_true (by omega)]; rfl)
    clear h1 h2
    by_cases hj00 : j = 0
    · subst hj00
      rw [Nat.add_zero] at e0
      rcases bool2 rb with rfl | rfl
      · go_wp2_with fail
        go_roundg (gk - 1)
        case measure => omega
        case rel => exact ⟨1, by omega, by go_num, Lib.hid rfl, Lib.hid fun i hi => (by
          have hi0 : i = 0 := by omega
          subst hi0
          refine ⟨fun x hx => ?_, HRI.out.1 (by first | trivial | rfl)⟩
          rw [HVV.out] at hx
          injection hx with hx
          subst hx
          exact ⟨HRG.out, fun u h0 _ => by omega⟩)⟩
      · have HF := Lib.hid (HNO6.out (fun h => by have := HRI.out.2 (h.2.2.2.2.2.2.1 0 (by have := HLL.out; omega)); cases this))
        go_wp2_with fail
        try rw [Exit.noGoto_ret]
        go_ret
        exact HF.out
    obtain ⟨u, hu⟩ : ∃ u, lvs[j - 1]? = some u := ⟨_, List.getElem?_eq_getElem (by have := HLL.out; omega)⟩
    obtain ⟨eb', eo', he, _, _, e1, _⟩ := HLV6.out.at hu
    injection he with he
    injection he with he1 he2
    subst he1 he2
    have hg2 : decide (0 < j) = true := decide_eq_true (by omega)
    have HK0 : Hid (0 < j) := Lib.hid (by omega)
    have hg1 : decide ((0 : Int) < j) = true := decide_eq_true (by omega)
    have hkw : IntKind.i64.wrap ((j : Int) - 1) = ((j - 1 : Nat) : Int) := by rw [IntWalk.i64_in _ ⟨by omega, by omega⟩]; omega
    have hkw0 : wrap64 ((j : Int) - 1) = ((j - 1 : Nat) : Int) := by rw [IntWalk.wrap64_in _ ⟨by omega, by omega⟩]; omega
    obtain ⟨k', hk'⟩ : ∃ k', j - 1 = k' := ⟨_, rfl⟩
    rw [hk'] at hkw hkw0 e1 hu
    have HUU := Lib.hid hu
    have HK' := Lib.hid hk'
    have hkk : k' < ll := by omega
    have hkk0 : (0 : Int) ≤ k' := by omega
    have hkk1 : (k' : Int) < ll := by omega
    clear hu hk' hj00
    by_cases huv : v ≤ u
    · have hd : decide (v ≤ u) = true := decide_eq_true huv
      have HF := Lib.hid (HNO6.out (fun h => by have := (h.2.2.2.2.2.1 j v HVV.out).2 u HK0.out (by rw [HK'.out]; exact HUU.out); omega))
      clear huv
      go_wp2_with fail
      try rw [Exit.noGoto_ret]
      go_ret
      exact HF.out
    have hd : decide (v ≤ u) = false := decide_eq_false huv
    have HUV := Lib.hid huv
    clear huv
    rcases bool2 rb with rfl | rfl
    · go_wp2_with fail
      go_roundg (gk - 1)
      case measure => omega
      case rel => exact ⟨j + 1, by omega, by go_num, Lib.hid rfl, Lib.hid fun i hi => (by
        by_cases hij : i < j
        · exact HOK.out i hij
        · have hi0 : i = j := by omega
          subst hi0
          refine ⟨fun x hx => ?_, HRI.out.1 (by first | trivial | rfl)⟩
          rw [HVV.out] at hx
          injection hx with hx
          subst hx
          exact ⟨HRG.out, fun u' _ hu' => by rw [HK'.out, HUU.out] at hu'; injection hu' with hu'; have := HUV.out; omega⟩)⟩
    · have HF := Lib.hid (HNO6.out (fun h => by have := HRI.out.2 (h.2.2.2.2.2.2.1 j (by have := HLL.out; omega)); cases this))
      go_wp2_with fail
      try rw [Exit.noGoto_ret]
      go_ret
      exact HF.out
  have hdq : decide ((q : Int) < nl) = true := by simp; omega
  have hdq' : decide (q < nl) = true := decide_eq_true hq
  have hq0 : (0 : Int) ≤ q := by omega
  have hqn : (q : Int) < nl := by omega
  obtain ⟨f, hf⟩ : ∃ f, ns[q]? = some f := ⟨_, List.getElem?_eq_getElem (by have := HNL.out; omega)⟩
  obtain ⟨fb, fo, rfl, _, hfb, c0, c1, c2, hfo⟩ := (HNV.out.below (show Below W1.heap.size W1 wr by rw [hs1]; exact HB.out)).at hf
  obtain ⟨fv, flo, fhi⟩ := f
  simp only at c0 c1 c2
  have HFF := Lib.hid hf
  obtain ⟨w5, hw5⟩ : ∃ W, (wr.alloc (.cells #[.int .i64 fv, .int .i64 flo, .int .i64 fhi] 49)).alloc (.cells #[.int .i64 flo, .int .i64 fhi] 3) = W := ⟨_, rfl⟩
  obtain ⟨z, hz⟩ : ∃ z, wr.heap.size = z := ⟨_, rfl⟩
  have hb5 : Below wr.heap.size wr w5 := by rw [← hw5]; exact ((Below.refl _ _).alloc (Nat.le_refl _) _).alloc (by rw [World.size_alloc]; omega) _
  have g0 : w5.cell? ⟨z + 1, 0, none⟩ = some (.int .i64 flo) := by rw [← hw5]; exact cell_of (new_at' _ _ (by rw [World.size_alloc, hz])) rfl
  have g1 : w5.cell? ⟨z + 1, 1, none⟩ = some (.int .i64 fhi) := by rw [← hw5]; exact cell_of (new_at' _ _ (by rw [World.size_alloc, hz])) rfl
  have HB5 : Hid (Below (s + 1) W1 w5) := Lib.hid (HB.out.trans (hb5.mono (by omega)))
  have HR5 : Hid (RchS w5 (s + 1) (s + 1) ll (refsM root (ns.take q) ++ [flo, fhi].take 0)) := Lib.hid (by simpa using HRR.out.below hb5)
  have hz5 : w5.heap.size = z + 2 := by rw [← hw5, World.size_alloc, World.size_alloc, hz]
  have hzs : s + 1 < z := by
    have := HRR.out
    obtain ⟨rs, h1, _⟩ := this
    have := (h1.lt (s + 1) (by simp [Value.ownBlock])).2
    omega
  have HW5 := Lib.hid hw5
  have HZ := Lib.hid hz
  clear hf hw5 hz hb5 HRR
  go_upto_region 9 with fail
  go_wp2_with fail
  rw [HZ.out, HW5.out]
  obtain ⟨GK, hGK⟩ : ∃ G, G = gk := ⟨_, rfl⟩
  subst hGK
  obtain ⟨WO, hWO⟩ : ∃ W, W = wr := ⟨_, rfl⟩
  subst hWO
  have HG01 : Hid (w5.cell? ⟨z + 1, 0, none⟩ = some (.int .i64 flo) ∧ w5.cell? ⟨z + 1, 1, none⟩ = some (.int .i64 fhi)) := Lib.hid ⟨g0, g1⟩
  clear g0 g1 c0 c1 c2
  go_loopg [79] 2 (fun gg u79 wx => ∃ (j : Nat), j + gg = 2 ∧ u79 = .int .i64 j ∧ Hid (Below (s + 1) W1 wx) ∧ Hid (wx.cell? ⟨z + 1, 0, none⟩ = some (.int .i64 flo) ∧ wx.cell? ⟨z + 1, 1, none⟩ = some (.int .i64 fhi)) ∧ Hid (RchS wx (s + 1) (s + 1) ll (refsM root (ns.take q) ++ [flo, fhi].take j)))
  case atStart => exact ⟨0, by omega, rfl, HB5, HG01, HR5⟩
  case round =>
  clear HB5 HG01 HR5
  obtain ⟨j, hjg, rfl, HBI, HGI, HRI⟩ := hrel
  by_cases hj : j < 2
  case neg =>
    obtain rfl : j = 2 := by omega
    have HRN : Hid (RchS wr (s + 1) (s + 1) ll (refsM root (ns.take (q + 1)))) := Lib.hid (by
      rw [List.take_add_one, HFF.out, show (some (fv, flo, fhi)).toList = [(fv, flo, fhi)] from rfl, refsM_snoc]
      simpa using HRI.out)
    clear HRI
    go_wp2_with fail
    go_roundg (GK - 1)
    case measure => omega
    case rel => exact ⟨q + 1, by omega, by go_num, HBI, HRN⟩
  have hdj : decide ((j : Int) < 2) = true := by simp; omega
  have hdj' : decide (j < 2) = true := decide_eq_true hj
  have hj0 : (0 : Int) ≤ j := by omega
  have hjn : (j : Int) < 2 := by omega
  obtain ⟨x, hx, hxc⟩ : ∃ x, [flo, fhi][j]? = some x ∧ wr.cell? ⟨z + 1, j, none⟩ = some (.int .i64 x) := by
    match j, hj with
    | 0, _ => exact ⟨_, rfl, HGI.out.1⟩
    | 1, _ => exact ⟨_, rfl, HGI.out.2⟩
  have HXX : Hid ([flo, fhi].take (j + 1) = [flo, fhi].take j ++ [x]) := Lib.hid (by rw [List.take_add_one, hx]; rfl)
  clear hx
  by_cases h1 : 0 ≤ x
  case neg =>
    have hd : decide (0 ≤ x) = false := decide_eq_false h1
    have HRN : Hid (RchS wr (s + 1) (s + 1) ll (refsM root (ns.take q) ++ [flo, fhi].take (j + 1))) := Lib.hid (by
      rw [HXX.out, ← List.append_assoc]
      exact HRI.out.skip (.inl (by omega)))
    clear HRI h1
    go_wp2_with fail
    go_roundg (gk - 1)
    case measure => omega
    case rel => exact ⟨j + 1, by omega, by go_num, HBI, HGI, HRN⟩
  have hd : decide (0 ≤ x) = true := decide_eq_true h1
  by_cases h2 : x < ll
  case neg =>
    have hd2 : decide (x < (ll : Int)) = false := decide_eq_false h2
    have HRN : Hid (RchS wr (s + 1) (s + 1) ll (refsM root (ns.take q) ++ [flo, fhi].take (j + 1))) := Lib.hid (by
      rw [HXX.out, ← List.append_assoc]
      exact HRI.out.skip (.inr (by omega)))
    clear HRI h1 h2
    go_wp2_with fail
    go_roundg (gk - 1)
    case measure => omega
    case rel => exact ⟨j + 1, by omega, by go_num, HBI, HGI, HRN⟩
  have hd2 : decide (x < (ll : Int)) = true := decide_eq_true h2
  obtain ⟨r, rfl⟩ : ∃ r : Nat, x = r := ⟨x.toNat, by omega⟩
  obtain ⟨⟨v0, hv0⟩, hf0, _, _, hput⟩ := HRI.out.put (show r < ll by omega)
  have HRN : Hid (RchS (wr.setCell ⟨s + 1, r, none⟩ (.bool true)) (s + 1) (s + 1) ll (refsM root (ns.take q) ++ [flo, fhi].take (j + 1))) := Lib.hid (by
    rw [HXX.out, ← List.append_assoc]
    exact hput)
  have HBS : Hid (Below (s + 1) W1 (wr.setCell ⟨s + 1, r, none⟩ (.bool true))) := Lib.hid (HBI.out.setCell (Nat.le_refl _) _)
  have HGS : Hid ((wr.setCell ⟨s + 1, r, none⟩ (.bool true)).cell? ⟨z + 1, 0, none⟩ = some (.int .i64 flo) ∧ (wr.setCell ⟨s + 1, r, none⟩ (.bool true)).cell? ⟨z + 1, 1, none⟩ = some (.int .i64 fhi)) := Lib.hid ⟨set_ne (by omega) HGI.out.1, set_ne (by omega) HGI.out.2⟩
  have hr2 : r < ll := by omega
  have hd3 : decide (r < ll) = true := decide_eq_true hr2
  clear hput HRI HGI
  go_wp2_with fail
  go_roundg (gk - 1)
  case measure => omega
  case rel => exact ⟨j + 1, by omega, by go_num, HBS, HGS, HRN⟩
end Go.Proofs.YteadlkecngfcoaaGreat
