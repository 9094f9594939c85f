/- (Ddnnf) Walk: make, of the compiler. Condition: the table of powers lies as laid. -/
import Derived.Test.YteadlkecngfcoaaGreatDoorJ3
import Derived.Shelf.Slices.CompactI
import Derived.Deep.QuietTactic
import Derived.BigQuiet
import Derived.Deep.RegionHeld3
namespace Go.Proofs.YteadlkecngfcoaaGreatDoor
open Go.ChangeShapes Go.WideShapes Go.ChangeAt Go.RowKit Go.Lib
set_option linter.unusedVariables false
set_option linter.unusedSimpArgs false

section cos
variable {V B pb mb cn n : Nat} {w w7 : World} {pv : Value} {ps : List Part}
theorem CoS.push (h : CoS V B w pb mb pv ps cn n) {g cap N : Nat} {kv : Value} {p : Part} {us : List (Value × Value × Value)} (hn : N = ps.length) (h1 : w.ownsRow B 43 3 pv N (cells3 us)) (h2 : us.length = ps.length)
    (h3 : ∀ (j : Nat) u p, us[j]? = some u → ps[j]? = some p → PartV (fun b => b < w.heap.size ∧ ApartB B pb mb pv b) w u p) (hr : Ints (fun b => b < w.heap.size ∧ ApartB B pb mb pv b) w kv p.kids) (i1 : I64 p.kind) (i2 : I64 p.lit)
    (hown : w7.ownsRow B 43 3 (.slice (some ⟨g, 0, none⟩) (N + 1) cap) (N + 1) (cells3 us ++ [.int .i64 p.kind, .int .i64 p.lit, kv])) (hg : w.grownBy w7 pv.ownBlock) (hat : pv.ownBlock = some g ∨ w.heap.size ≤ g) (ho : PsOk V (ps ++ [p])) :
    CoS V B (w7.setCell ⟨pb, 0, none⟩ (.slice (some ⟨g, 0, none⟩) (N + 1) cap)) pb mb (.slice (some ⟨g, 0, none⟩) (N + 1) cap) (ps ++ [p]) cn n ∧ Grw pb mb pv w (.slice (some ⟨g, 0, none⟩) (N + 1) cap) (w7.setCell ⟨pb, 0, none⟩ (.slice (some ⟨g, 0, none⟩) (N + 1) cap)) := by
  subst hn
  obtain ⟨d1, d2, d3⟩ := h.diff
  have hlt := block_lt h.c0
  have hml := h.known.lt
  have hpn : some pb ≠ pv.ownBlock := fun e => d2 e.symm
  have hmn : some mb ≠ pv.ownBlock := fun e => d3 e.symm
  have hgp : g ≠ pb := fun e => by
    subst e
    rcases hat with h | h
    · exact d2 h
    · omega
  have hgm : g ≠ mb := fun e => by
    subst e
    rcases hat with h | h
    · exact d3 h
    · omega
  have mv : ∀ (u : Value) (l : List Int), Ints (fun b => b < w.heap.size ∧ ApartB B pb mb pv b) w u l → Ints (fun b => b < (w7.setCell ⟨pb, 0, none⟩ (.slice (some ⟨g, 0, none⟩) (ps.length + 1) cap)).heap.size ∧ ApartB B pb mb (.slice (some ⟨g, 0, none⟩) (ps.length + 1) cap) b) (w7.setCell ⟨pb, 0, none⟩ (.slice (some ⟨g, 0, none⟩) (ps.length + 1) cap)) u l := fun u l hu =>
    (hu.move fun b hb _ => (set_heap hb.2.1).trans (hg.block b hb.1 (fun e => hb.2.2.2.1 e.symm))).mono fun b hb => ⟨by have := hg.size; have := hb.1; simp; omega, hb.2.1, hb.2.2.1, by
      simp only [Value.ownBlock]
      intro e
      injection e with e
      subst e
      rcases hat with h | h
      · exact hb.2.2.2.1 h
      · have := hb.1; omega, hb.2.2.2.2⟩
  refine ⟨⟨set_eq (grown_c2 hg hpn h.c0), set_ne (.inr (by omega)) (grown_c2 hg hpn h.c1), set_ne (.inr (by omega)) (grown_c2 hg hpn h.c2), fun o => ?_, ⟨us ++ [(.int .i64 p.kind, .int .i64 p.lit, kv)], ?_, by simp [h2], fun j u x hu hx => ?_⟩, ?_, ⟨d1, fun e => hgp (by injection e), fun e => hgm (by injection e)⟩, ⟨h.low.1, h.low.2.1, by have := h.low.2.2; have := hg.size; simp; omega⟩, ho⟩, ?_⟩
  · rw [World.frozen?_setCell]
    exact (World.frozen?_of_block (a := ⟨pb, o, none⟩) (hg.block pb hlt hpn)).trans (h.free o)
  · rw [List.length_append, cells3_snoc]
    refine own_same hown fun b e => set_heap ?_
    have : g = b := by simpa [Value.ownBlock] using e
    show b ≠ pb
    omega
  · rcases Nat.lt_or_ge j us.length with hj | hj
    · rw [List.getElem?_append_left hj] at hu
      rw [List.getElem?_append_left (by omega)] at hx
      obtain ⟨a, b, c, d⟩ := h3 j u x hu hx
      exact ⟨a, b, mv _ _ c, d⟩
    · rw [List.getElem?_append_right hj] at hu
      rw [List.getElem?_append_right (by omega)] at hx
      rw [h2] at hu
      rcases hk : j - ps.length with _ | k
      · rw [hk] at hu hx
        simp at hu hx
        subst hu hx
        exact ⟨rfl, rfl, mv _ _ hr, i1, i2⟩
      · rw [hk] at hu
        simp at hu
  · exact ((h.known.kept hg hmn).kept (set_grown _ _ _ _) (fun e => d1 (by injection e with e; exact e.symm))).more h.ok ho
  · refine ⟨hg.os, hg.tape, hg.output, by simpa using hg.size, fun b hb ha => (set_heap ha.1).trans (hg.block b hb (fun e => ha.2.2 e.symm)), fun b hb => ?_⟩
    have : g = b := by simpa [Value.ownBlock] using hb
    subst this
    exact hat
end cos
theorem I64_wf {n : Int} (h : I64 n) : (Lit.int .i64 n).wf = true := by
  obtain ⟨h1, h2⟩ := h
  simp [Lit.wf, IntKind.min, IntKind.max, IntKind.signed, IntKind.bits]
  omega
theorem canJ_len (cs : List (List Int)) : (canM cs).length ≤ cs.length := by
  have h1 := cptG_len none (srtC clsC ((cs.map claM).filter fun c => !oppM c))
  rw [(srtC_perm clsC _).length_eq] at h1
  have h2 := List.length_filter_le (fun c => !oppM c) (cs.map claM)
  rw [List.length_map] at h2
  exact Nat.le_trans h1 h2
theorem resJ_len (cs : List (List Int)) (lit : Int) : (resM cs lit).length ≤ cs.length := Nat.le_trans (canJ_len _) (resG_len lit cs)
theorem resJ_each {cs : List (List Int)} {lit : Int} {d : List Int} {m : Nat} (hm : ∀ c ∈ cs, c.length ≤ m) (h : d ∈ resM cs lit) : d.length ≤ m := by
  unfold resM at h
  obtain ⟨_, c, hc, rfl⟩ := canM_iff.1 h
  obtain ⟨x, hx, _, rfl⟩ := resG_mem lit cs c hc
  exact Nat.le_trans (claM_len _) (Nat.le_trans (rstM_len lit x) (hm x hx))
/-- what make asks -/
structure MkPre (V B B0 k : Nat) (S : List Int) (cs : List (List Int)) (cv : Value) (w : World) (pb mb : Nat) (pv : Value) (ps : List Part) (cn n : Nat) : Prop where
  st : CoS V B w pb mb pv ps cn n
  cl : Clss (Apart pb mb pv) w cv cs
  tab : TabT B0 w
  tb : B0 ≤ B
  sk : S.length = k
  vs : Vs S cs
  sv : ∀ v ∈ S, 1 ≤ v ∧ v ≤ (V : Int)
  vv : V ≤ 1000
  lc : cs.length ≤ 100
  ll : ∀ c ∈ cs, c.length ≤ 100
  cb : cn + 2 ^ (k + 1) ≤ 10000
  pl : ps.length + 2 ^ k ≤ 10000
  nb : n ≤ cn
def MkPost (V B k : Nat) (W : World) (cs : List (List Int)) (pb mb : Nat) (pv : Value) (ps : List Part) (cn n : Nat) (e : Ending) (w' : World) : Prop :=
  ∃ (i : Nat) (pv' : Value) (qs : List Part) (cn' n' : Nat), e = .returned (.int .i64 i) ∧ CoS V B w' pb mb pv' (ps ++ qs) cn' n' ∧ Grw pb mb pv W pv' w' ∧ Meets V (ps ++ qs) cs i ∧ cn' + 1 ≤ cn + 2 ^ (k + 1) ∧ (ps ++ qs).length + 1 ≤ ps.length + 2 ^ k ∧ n' + cn ≤ n + cn'
def MakeOk (V B B0 k : Nat) : Prop := ∀ (S : List Int) (cs : List (List Int)) (cv : Value) (w : World) (pb mb : Nat) (pv : Value) (ps : List Part) (cn n : Nat), MkPre V B B0 k S cs cv w pb mb pv ps cn n →
  Calls Tryz.prog 14 #[.pointer (some ⟨pb, 0, none⟩), cv] w (MkPost V B k w cs pb mb pv ps cn n)
set_option maxRecDepth 100000 in
set_option maxHeartbeats 16000000 in
theorem make_step (V B B0 k : Nat) (ih : ∀ j, k = j + 1 → MakeOk V B B0 j) : MakeOk V B B0 k := by
  intro S cs cv w pb mb pv ps cn n hp
  obtain ⟨hS, hC, hT, hB0, hsk, hvs, hsv, hvv, hlc, hll, hcb, hpl, hnb⟩ := hp
  obtain ⟨ca, cN, cc, rfl, HCN, _⟩ := hC.form'
  have hpow : 1 ≤ 2 ^ k := Nat.one_le_two_pow
  have hpow2 : 2 ^ (k + 1) = 2 ^ k * 2 := Nat.pow_succ 2 k
  have hcn : cn ≤ 10000 := by omega
  have hps : ps.length ≤ 10000 := by omega
  have hw1 : wrap64 ((cn : Int) + 1) = (cn : Int) + 1 := IntWalk.wrap64_in _ ⟨by omega, by omega⟩
  have ecn : ((cn + 1 : Nat) : Int) = (cn : Int) + 1 := by simp
  have c2 := hS.c2
  have cf := hS.free 2
  have HS1 : Hid (CoS V B (w.setCell ⟨pb, 2, none⟩ (.int .i64 ((cn : Int) + 1))) pb mb pv ps (cn + 1) n) := Lib.hid (by rw [← ecn]; exact hS.set2 (cn + 1))
  obtain ⟨W1, hW1⟩ : ∃ W, w.setCell ⟨pb, 2, none⟩ (.int .i64 ((cn : Int) + 1)) = W := ⟨_, rfl⟩
  have HG1 : Hid (Grw pb mb pv w pv W1) := Lib.hid (by rw [← hW1]; exact Grw.set _ _ _)
  have HT1 : Hid (TabT B0 W1) := Lib.hid (hT.on ((hS.under HG1.out).mono hB0))
  rw [hW1] at HS1
  have HC1 : Hid (Clss (Apart pb mb pv) W1 (.slice ca cN cc) cs) := Lib.hid (clss_grw hC HG1.out)
  have HW1 := Lib.hid hW1
  have HIH := Lib.hid ih
  have HVS := Lib.hid hvs
  have HSV := Lib.hid hsv
  have HLL := Lib.hid hll
  have HSK := Lib.hid hsk
  have HLC := Lib.hid hlc
  have HCB := Lib.hid hcb
  have HPL := Lib.hid hpl
  have HPW : Hid (1 ≤ 2 ^ k ∧ 2 ≤ 2 ^ (k + 1)) := Lib.hid ⟨hpow, by omega⟩
  have HPS := Lib.hid hps
  clear hS hC hT hW1 ih ecn hvs hsv hll hsk hlc hcb hpl hpow hpow2 hps
  go_enter Tryz.func14, Tryz.ntmps14
  go_upto_region 2 with fail
  try rw [HW1.out]
  by_cases h0 : cN = 0
  · have hcs : cs = [] := List.eq_nil_of_length_eq_zero (by rw [← HCN.out]; exact h0)
    have hz : ((cN : Int) == 0) = true := by simp; omega
    have HF : Hid (MkPost V B k w cs pb mb pv ps cn n (.returned (.int .i64 1)) W1) := Lib.hid ⟨1, pv, [], cn + 1, n, rfl, by rw [List.append_nil]; exact HS1.out, HG1.out, by rw [List.append_nil, hcs]; exact meets_true HS1.out.ok, by have := HPW.out.2; omega, by have := HPW.out.1; rw [List.append_nil]; omega, by omega⟩
    clear h0 hcs
    go_wp2_with fail
    go_ret
    exact HF.out
  have hz : ((cN : Int) == 0) = false := by simp; omega
  obtain ⟨c, hc⟩ : ∃ c, cs[0]? = some c := ⟨_, List.getElem?_eq_getElem (by rw [← HCN.out]; omega)⟩
  have hmem := List.mem_of_getElem? hc
  obtain ⟨xb, xo, xv, rfl, hxa, hxb, hxc, hxi⟩ := HC1.out.at hc
  obtain ⟨xa, xn, xcp, rfl, HXN, _⟩ := hxi.form'
  have hxc0 : W1.cell? ⟨xb, xo, none⟩ = some (.slice xa xn xcp) := by simpa using hxc
  have HXI := Lib.hid hxi
  have HCC := Lib.hid hc
  have HME := Lib.hid hmem
  have hpos : (0 : Int) < cN := by omega
  clear hc hmem hxi hxc
  by_cases hx0 : xn = 0
  · have hzx : ((xn : Int) == 0) = true := by simp; omega
    have HF : Hid (MkPost V B k w cs pb mb pv ps cn n (.returned (.int .i64 0)) W1) := Lib.hid ⟨0, pv, [], cn + 1, n, rfl, by rw [List.append_nil]; exact HS1.out, HG1.out, by
      rw [List.append_nil]
      refine meets_false HS1.out.ok ?_
      have e : c = [] := List.eq_nil_of_length_eq_zero (by rw [← HXN.out]; exact hx0)
      rw [← e]
      exact HME.out, by have := HPW.out.2; omega, by have := HPW.out.1; rw [List.append_nil]; omega, by omega⟩
    clear hx0
    go_wp2_with fail
    go_ret
    exact HF.out
  have hzx : ((xn : Int) == 0) = false := by simp; omega
  have HOV := Lib.hid (over_any V B pb mb pv ps (cn + 1) n W1 HS1.out (by omega) (by have := HPS.out; omega))
  go_wp2_with fail
  refine HOV.out.mono ?_
  rintro e w2 ⟨rfl, hww⟩
  subst hww
  have hI64 : ∀ c ∈ cs, ∀ x ∈ c, I64 x := fun c hc x hx => by
    obtain ⟨h0, h1⟩ := HVS.out c hc x hx
    have h2 := HSV.out _ h1
    unfold varM at h2
    unfold I64
    split at h2 <;> omega
  have hnz : NZ cs := fun c hc x hx => (HVS.out c hc x hx).1
  have hkl : (keyS cs).length ≤ 4000000 := by
    have h1 := keyS_len hI64 HLL.out
    have h2 := Nat.mul_le_mul_right (21 * 100 + 1) HLC.out
    omega
  have HKY := Lib.hid (key_any (Apart pb mb pv) B0 _ cs w2 HC1.out hkl HT1.out (by have := HS1.out.low.2.2; omega))
  have HNZ := Lib.hid hnz
  have HKL := Lib.hid hkl
  clear hI64 hnz hkl HOV
  go_wp2_with fail
  refine HKY.out.mono ?_
  rintro e w3 ⟨KS, rfl, HKS, hb3⟩
  have HS3 := Lib.hid (HS1.out.below hb3)
  have HG3 := Lib.hid (HG1.out.trans (Grw.of_below (pb := pb) (mb := mb) (cv := pv) hb3))
  have HT3 := Lib.hid (HT1.out.below hb3 (by have := HS1.out.low.2.2; omega))
  have HC3 := Lib.hid (Clss.below HC1.out hb3)
  have HXI3 := Lib.hid (HXI.out.below hb3)
  have hxc0 : w3.cell? ⟨xb, xo, none⟩ = some (.slice xa xn xcp) := below_c hb3 hxb hxc0
  have hKS : KS = BA (keyS cs) := HKS.out
  subst hKS
  obtain ⟨lc, E, hrun, hE⟩ := HS3.out.known.look HKL.out HNZ.out (by have := HPS.out; omega)
  have c1 := HS3.out.c1
  have HEE := Lib.hid hE
  clear hb3 HKY HKS hE HS1 HG1 HT1 HC1 HXI HW1
  rcases bool2 E with rfl | rfl
  · obtain ⟨j, rfl, hj⟩ := HEE.out rfl
    have HF : Hid (MkPost V B k w cs pb mb pv ps cn n (.returned (.int .i64 (j : Int))) w3) := Lib.hid ⟨j, pv, [], cn + 1, n, rfl, by rw [List.append_nil]; exact HS3.out, HG3.out, by rw [List.append_nil]; exact hj, by have := HPW.out.2; omega, by have := HPW.out.1; rw [List.append_nil]; omega, by omega⟩
    clear HEE hj
    go_wp2_with fail
    go_ret
    exact HF.out
  clear HEE
  obtain ⟨x, hx⟩ : ∃ x, c[0]? = some x := ⟨_, List.getElem?_eq_getElem (by rw [← HXN.out]; omega)⟩
  obtain ⟨yb, yo, rfl, hya, hyb, hyc, hx64⟩ := HXI3.out.at hx
  have hyc0 : w3.cell? ⟨yb, yo, none⟩ = some (.int .i64 x) := by simpa using hyc
  obtain ⟨hx0', hxS⟩ := HVS.out c HME.out x (List.mem_of_getElem? hx)
  obtain ⟨v, hv⟩ : ∃ v, varM x = v := ⟨_, rfl⟩
  rw [hv] at hxS
  have hvV := HSV.out v hxS
  have hposx : (0 : Int) < xn := by omega
  have hnx : wrap64 (-x) = -x := IntWalk.wrap64_in _ (by unfold varM at hv; split at hv <;> constructor <;> omega)
  have hmx : max x (-x) = v := by unfold varM at hv; split at hv <;> omega
  have hnv : wrap64 (-v) = -v := IntWalk.wrap64_in _ ⟨by omega, by omega⟩
  have HV := Lib.hid (And.intro hxS hvV)
  have HOC : Hid (Occ cs v) := Lib.hid ⟨c, HME.out, x, List.mem_of_getElem? hx, hv⟩
  clear hx hyc hv
  go_upto_region 10 with fail
  clear hrun
  go_quiet (fail)
  obtain ⟨j, rfl⟩ : ∃ j, k = j + 1 := ⟨k - 1, by have h1 := List.length_pos_of_mem HV.out.1; have h2 := HSK.out; omega⟩
  have hMk := HIH.out j rfl
  have hpw : 2 ^ (j + 1 + 1) = 2 ^ (j + 1) * 2 := Nat.pow_succ 2 (j + 1)
  have hpw1 : 2 ^ (j + 1) = 2 ^ j * 2 := Nat.pow_succ 2 j
  have hpw0 : 1 ≤ 2 ^ j := Nat.one_le_two_pow
  have HPOW := Lib.hid (And.intro hpw (And.intro hpw1 hpw0))
  have HMK := Lib.hid hMk
  have hsm : Sm v := ⟨by omega, by omega⟩
  have hsn : Sm (-v) := ⟨by omega, by omega⟩
  have hvn : varM (-v) = v := by unfold varM; split <;> omega
  have hvv2 : varM v = v := by unfold varM; split <;> omega
  have hel : (S.erase v).length = j := by rw [List.length_erase_of_mem HV.out.1, HSK.out]; rfl
  have HVL : Hid (Vs (S.erase v) (resM cs (-v))) := Lib.hid (by have h := Vs.res HVS.out hsn (by omega); rwa [hvn] at h)
  have HVR : Hid (Vs (S.erase v) (resM cs v)) := Lib.hid (by have h := Vs.res HVS.out hsm (by omega); rwa [hvv2] at h)
  have HEL : Hid ((S.erase v).length = j ∧ ∀ u ∈ S.erase v, 1 ≤ u ∧ u ≤ (V : Int)) := Lib.hid ⟨hel, fun u hu => HSV.out u (List.mem_of_mem_erase hu)⟩
  have HSM := Lib.hid hsm
  have hvI : I64 v := ⟨by omega, by omega⟩
  have hnI : I64 (-v) := ⟨by omega, by omega⟩
  have hb4 : Below w3.heap.size w3 (w3.drewN nq) := below_drewN (Below.refl _ _) nq
  obtain ⟨w4, hw4⟩ : ∃ W, w3.drewN nq = W := ⟨_, rfl⟩
  rw [hw4] at hb4
  have HC4 := Lib.hid (Clss.below HC3.out hb4)
  have HS4 := Lib.hid (HS3.out.below hb4)
  have HG4 := Lib.hid (HG3.out.trans (Grw.of_below (pb := pb) (mb := mb) (cv := pv) hb4))
  have HT4 := Lib.hid (HT3.out.below hb4 (by have := HS3.out.low.2.2; omega))
  have HRL := Lib.hid (residual_any _ _ cs (-v) w4 HC4.out hnI (by have := HLC.out; omega) (fun c hc => by have := HLL.out c hc; omega))
  have HW4 := Lib.hid hw4
  clear hb4 hw4 HC3 HS3 HG3 HT3 HXI3 hyc0 hxc0 hya hyb hMk hpw hpw1 hpw0 hsm hsn hvn hvv2 hel hnx hmx hxS hvV HIH c1 hx64 hx0'
  go_wp2_with fail
  try rw [HW4.out]
  refine HRL.out.mono ?_
  rintro e w5 ⟨rv, rfl, hrc, hb5⟩
  obtain ⟨ra, rn, rc, rfl, _, _⟩ := hrc.form'
  have HS5 := Lib.hid (HS4.out.below hb5)
  have HG5 := Lib.hid (HG4.out.trans (Grw.of_below (pb := pb) (mb := mb) (cv := pv) hb5))
  have HT5 := Lib.hid (HT4.out.below hb5 (by have := HS4.out.low.2.2; omega))
  have HC5 := Lib.hid (Clss.below HC4.out hb5)
  have HRC : Hid (Clss (Apart pb mb pv) w5 (.slice ra rn rc) (resM cs (-v))) := Lib.hid (clss_mono hrc fun b hb => ⟨by have := block_lt HS4.out.c0; omega, by have := HS4.out.known.lt; omega, fun e => by have := (HS4.out.own b e).2; omega⟩)
  have HLO := Lib.hid (HMK.out _ _ _ w5 pb mb pv ps (cn + 1) n ⟨HS5.out, HRC.out, HT5.out, hB0, HEL.out.1, HVL.out, HEL.out.2, hvv, Nat.le_trans (resJ_len _ _) HLC.out, fun c hc => resJ_each HLL.out hc, by have h1 := HPOW.out; have h2 := HCB.out; omega, by have h1 := HPOW.out; have h2 := HPL.out; omega, by omega⟩)
  have HS5B := HS5
  clear hb5 hrc HRL HC4 HS4 HG4 HT4 HRC HS5 HW4
  go_wp2_with fail
  refine HLO.out.mono ?_
  rintro e w6 ⟨lo, pv2, qs2, cn2, n2, rfl, hS6, hG6, hM6, hb61, hb62, hb63⟩
  have HS6 := Lib.hid hS6
  have HC6 := Lib.hid (clss_grw HC5.out hG6)
  have HG6 := Lib.hid (HG5.out.trans hG6)
  have HT6 : Hid (TabT B0 w6) := Lib.hid (HT5.out.on ((HS5B.out.under hG6).mono hB0))
  have HM6 := Lib.hid hM6
  have HB6 := Lib.hid (And.intro hb61 (And.intro hb62 hb63))
  have HRR := Lib.hid (residual_any _ _ cs v w6 HC6.out hvI (by have := HLC.out; omega) (fun c hc => by have := HLL.out c hc; omega))
  clear hS6 hG6 hM6 hb61 hb62 hb63 HLO HC5 HG5 HT5 HS5B
  go_wp2_with fail
  refine HRR.out.mono ?_
  rintro e w7 ⟨rv, rfl, hrc, hb7⟩
  obtain ⟨sa, sn, sc, rfl, _, _⟩ := hrc.form'
  have HS7 := Lib.hid (HS6.out.below hb7)
  have HG7 := Lib.hid (HG6.out.trans (Grw.of_below (pb := pb) (mb := mb) (cv := pv2) hb7))
  have HT7 := Lib.hid (HT6.out.below hb7 (by have := HS6.out.low.2.2; omega))
  have HRC : Hid (Clss (Apart pb mb pv2) w7 (.slice sa sn sc) (resM cs v)) := Lib.hid (clss_mono hrc fun b hb => ⟨by have := block_lt HS6.out.c0; omega, by have := HS6.out.known.lt; omega, fun e => by have := (HS6.out.own b e).2; omega⟩)
  have HHI := Lib.hid (HMK.out _ _ _ w7 pb mb pv2 (ps ++ qs2) cn2 n2 ⟨HS7.out, HRC.out, HT7.out, hB0, HEL.out.1, HVR.out, HEL.out.2, hvv, Nat.le_trans (resJ_len _ _) HLC.out, fun c hc => resJ_each HLL.out hc, by have h1 := HPOW.out; have h2 := HCB.out; have h3 := HB6.out; omega, by have h1 := HPOW.out; have h2 := HPL.out; have h3 := HB6.out; omega, by have h3 := HB6.out; omega⟩)
  clear hb7 hrc HRR HC6 HT6 HRC HG6
  go_wp2_with fail
  refine HHI.out.mono ?_
  rintro e w8 ⟨hi, pv3, qs3, cn3, n3, rfl, hS8, hG8, hM8, hb81, hb82, hb83⟩
  obtain ⟨ps3, hps3⟩ : ∃ l, ps ++ qs2 ++ qs3 = l := ⟨_, rfl⟩
  have HM6b : Hid (Meets V ps3 (resM cs (-v)) lo) := Lib.hid (by rw [← hps3]; exact HM6.out.more HS7.out.ok hS8.ok)
  rw [hps3] at hS8 hM8
  have HS8 := Lib.hid hS8
  have HM8 := Lib.hid hM8
  have HG8 := Lib.hid (HG7.out.trans hG8)
  have HP3 : Hid (ps3 = ps ++ (qs2 ++ qs3)) := Lib.hid (by rw [← hps3, List.append_assoc])
  have HN3 : Hid (cn3 ≤ 10000 ∧ n3 ≤ cn3 ∧ cn3 + 1 ≤ cn + 2 ^ (j + 1 + 1) ∧ n3 + 1 + cn ≤ n + cn3) := Lib.hid (by have h1 := HPOW.out; have h2 := HCB.out; have h3 := HB6.out; omega)
  have HL3 : Hid (ps3.length + 2 ≤ ps.length + 2 ^ (j + 1) ∧ ps3.length ≤ 10000) := Lib.hid (by
    have h1 := HPOW.out; have h2 := HPL.out; have h3 := HB6.out
    rw [← hps3]
    simp only [List.length_append] at hb82 h3 ⊢
    omega)
  clear hS8 hM8 hG8 hb81 hb82 hb83 hps3 HHI HS7 HG7 HT7 HM6 HS6 HVL HVR HMK HB6
  by_cases heq : lo = hi
  · subst heq
    have hne : ((lo : Int) != lo) = false := by simp
    have HMS : Hid (Meets V ps3 cs lo) := Lib.hid (meets_same (by have := HV.out; omega) HSM.out HM6b.out HM8.out)
    have d1 := HS8.out.c1
    obtain ⟨D, hown, hD2, hD3⟩ := HS8.out.known
    have HD2 := Lib.hid hD2
    have HD3 := Lib.hid hD3
    have hkk := keyOf_s HKL.out
    have hnb9 : n3 + 1 ≤ 9000000000 := by have := HN3.out; omega
    have hiI : I64 (lo : Int) := by have h := HMS.out.1; have := HL3.out; unfold I64; omega
    clear hD2 hD3
    go_wp2_with (at_mapUpdate; go_loud (refine wpList_mapUpdate_own _ rfl _ _ _ 47 rfl 9 3 law_str Tryz.underlying47 (plainElem Tryz.prog 3) mb n3 D rfl hown (by unfold maxLen; omega) _ _ (.string (keyS cs)) rfl rfl hkk (.lit (.int .i64 lo)) [] (plainElem_int Tryz.underlying3 (I64_wf hiI)) ?_); intro w12 hown12 hgrow12; have HK12 : Hid (KnownC V w12 mb (n3 + 1) (ps3)) := Lib.hid (known_put HMS.out HNZ.out hown12 HD2.out HD3.out); have HG12 := Lib.hid hgrow12; clear hown12 hgrow12 hown)
    have HF : Hid (MkPost V B (j + 1) w cs pb mb pv ps cn n (.returned (.int .i64 (lo : Int))) w12) := Lib.hid (by
      obtain ⟨q1, q2⟩ := HS8.out.put HG12.out HK12.out
      have h1 := HPOW.out
      have h2 := HL3.out
      have h3 := HN3.out
      have h4 := HG8.out.trans q2
      have h5 := HMS.out
      exact ⟨lo, pv3, qs2 ++ qs3, cn3, n3 + 1, rfl, by rw [← HP3.out]; exact q1, h4, by rw [← HP3.out]; exact h5, by omega, by rw [← HP3.out]; omega, by omega⟩)
    go_wp2_with fail
    go_ret
    exact HF.out
  have hne : ((lo : Int) != hi) = true := by simp; omega
  obtain ⟨ho9, hm9⟩ := meets_new HS8.out.ok (by have := HV.out; omega) HV.out.2.2 HSM.out HOC.out HM6b.out HM8.out
  have HO9 := Lib.hid ho9
  have HM9 := Lib.hid hm9
  obtain ⟨pa, pc, rfl⟩ := HS8.out.form
  obtain ⟨N, hN⟩ : ∃ N, ps3.length = N := ⟨_, rfl⟩
  rw [hN] at HS8 HG8
  have HNN := Lib.hid hN
  have hb9 : Below w8.heap.size w8 (w8.alloc (.cells #[.int .i64 lo, .int .i64 hi] 3)) := (Below.refl _ _).alloc (Nat.le_refl _) _
  have HS9 := Lib.hid (HS8.out.below hb9)
  have HG9 := Lib.hid (HG8.out.trans (Grw.of_below (pb := pb) (mb := mb) (cv := .slice pa N pc) hb9))
  have k0 := HS8.out.c0
  have HRI : Hid (Ints (fun b => b < (w8.alloc (.cells #[.int .i64 lo, .int .i64 hi] 3)).heap.size ∧ ApartB B pb mb (.slice pa N pc) b) (w8.alloc (.cells #[.int .i64 lo, .int .i64 hi] 3)) (.slice (some ⟨w8.heap.size, 0, none⟩) 2 2) [(lo : Int), (hi : Int)]) := Lib.hid (by
    have h := own_new (base := w8.heap.size) (w := w8) #[.int .i64 lo, .int .i64 hi] 3 (Nat.le_refl _) (show 2 ≤ 9223372036854775807 by decide)
    have h2 := ownsRow_sl1 (us := ([(lo : Int), (hi : Int)].map (.int .i64))) h (by show 2 ≤ 9223372036854775807; omega)
    refine ⟨(h2.lt.mono fun b hb => ⟨hb.2, ?_⟩), fun x hx => ?_⟩
    · have h3 := hb.1.1
      exact ⟨by have := block_lt HS8.out.c0; omega, by have := HS8.out.known.lt; omega, fun e => by have := (HS8.out.own b e).2; omega, by have := HS8.out.low.2.2; omega⟩
    · have q1 := HM6b.out.1; have q2 := HM8.out.1; have q3 := HL3.out
      simp only [List.mem_cons, List.not_mem_nil, or_false] at hx
      unfold I64
      rcases hx with rfl | rfl <;> omega)
  obtain ⟨us, r1, r2, r3⟩ := HS9.out.rows
  rw [hN] at r1
  have HR2 := Lib.hid r2
  have HR3 := Lib.hid r3
  have HR1 := Lib.hid r1
  have HI3 := Lib.hid (show (Tryz.prog.info? 43).map (fun i => (i.zero, i.size, i.bytes)) = some (some (.agg #[.int .i64 0, .int .i64 0, .slice none 0 0]), 3, 40) by kernel_rfl)
  have hbase : B ≤ (w8.alloc (.cells #[.int .i64 lo, .int .i64 hi] 3)).heap.size := HS9.out.low.2.2
  have hNb : N ≤ 10000 := by have := HL3.out; omega
  have HZI : Hid (I64 4 ∧ I64 v) := Lib.hid ⟨by unfold I64; omega, hvI⟩
  clear heq ho9 hm9 r2 r3 hN hb9
  go_upto_region 17 with (at_builtin; go_loud (refine wpList_push3 rfl _ _ 27 rfl 43 (.agg #[.int .i64 0, .int .i64 0, .slice none 0 0]) 40 Tryz.underlying27 HI3.out rfl B (.slice pa N pc) N (cells3 us) (w8.alloc (.cells #[.int .i64 lo, .int .i64 hi] 3)) (.int .i64 4) (.int .i64 v) (.slice (some ⟨w8.heap.size, 0, none⟩) 2 2) rfl (by rw [World.size_alloc]; rfl) r1 rfl rfl rfl (by omega) (by omega) hbase ?_); intro g9 cap9 w10 hown10 hg10 hs10 hgb hgl hat; have hpn : some pb ≠ (Value.slice pa N pc).ownBlock := fun e => HS9.out.diff.2.1 e.symm; have e2 : w10.cell? ⟨pb, 0, none⟩ = some (.slice pa N pc) := grown_c2 hg10 hpn HS9.out.c0; have ef : w10.frozen? ⟨pb, 0, none⟩ = false := (World.frozen?_of_block (a := ⟨pb, 0, none⟩) (hg10.block pb (block_lt HS9.out.c0) hpn)).trans (HS9.out.free 0); have HP10 := Lib.hid (HS9.out.push HNN.out.symm HR1.out HR2.out HR3.out HRI.out HZI.out.1 HZI.out.2 hown10 hg10 hat HO9.out); clear hown10 hg10 hs10 hgb hgl hat hpn r1)
  obtain ⟨W11, hW11⟩ : ∃ W, w10.setCell ⟨pb, 0, none⟩ (.slice (some ⟨g9, 0, none⟩) (N + 1) cap9) = W := ⟨_, rfl⟩
  rw [hW11] at HP10
  have HS11 := Lib.hid HP10.out.1
  have HG11 := Lib.hid (HG9.out.trans HP10.out.2)
  have hM9 := HM9.out
  rw [HNN.out] at hM9
  have HM9 := Lib.hid hM9
  try rw [hW11]
  clear hM9 HP10 hW11 HS9 HG9 HS8 HG8 HM6b HM8 HR1 HR2 HR3 HRI HI3 HO9 e2 ef k0
  have d1 := HS11.out.c1
  obtain ⟨D, hown, hD2, hD3⟩ := HS11.out.known
  have HD2 := Lib.hid hD2
  have HD3 := Lib.hid hD3
  have hkk := keyOf_s HKL.out
  have hnb9 : n3 + 1 ≤ 9000000000 := by have := HN3.out; omega
  have hiI : I64 (N : Int) := by unfold I64; omega
  clear hD2 hD3
  go_wp2_with (at_mapUpdate; go_loud (refine wpList_mapUpdate_own _ rfl _ _ _ 47 rfl 9 3 law_str Tryz.underlying47 (plainElem Tryz.prog 3) mb n3 D rfl hown (by unfold maxLen; omega) _ _ (.string (keyS cs)) rfl rfl hkk (.lit (.int .i64 N)) [] (plainElem_int Tryz.underlying3 (I64_wf hiI)) ?_); intro w12 hown12 hgrow12; have HK12 : Hid (KnownC V w12 mb (n3 + 1) ((ps3 ++ [⟨4, v, [(lo : Int), (hi : Int)]⟩]))) := Lib.hid (known_put HM9.out HNZ.out hown12 HD2.out HD3.out); have HG12 := Lib.hid hgrow12; clear hown12 hgrow12 hown)
  have HF : Hid (MkPost V B (j + 1) w cs pb mb pv ps cn n (.returned (.int .i64 (N : Int))) w12) := Lib.hid (by
    obtain ⟨q1, q2⟩ := HS11.out.put HG12.out HK12.out
    have h1 := HPOW.out
    have h2 := HL3.out
    have h3 := HN3.out
    have h4 := HG11.out.trans q2
    have h5 := HM9.out
    have e9 : ps ++ (qs2 ++ qs3 ++ [⟨4, v, [(lo : Int), (hi : Int)]⟩]) = ps3 ++ [⟨4, v, [(lo : Int), (hi : Int)]⟩] := by rw [HP3.out]; simp
    exact ⟨N, _, qs2 ++ qs3 ++ [⟨4, v, [(lo : Int), (hi : Int)]⟩], cn3, n3 + 1, rfl, by rw [e9]; exact q1, h4, by rw [e9]; exact h5, by omega, by rw [e9, List.length_append, List.length_singleton]; omega, by omega⟩)
  go_wp2_with fail
  go_ret
  exact HF.out
end Go.Proofs.YteadlkecngfcoaaGreatDoor
