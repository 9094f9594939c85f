/- Walk: Cheapest. -/
import Derived.Test.YtljljagkccmogaaEw3
namespace Go.Proofs.Ytljljagkccmogaa
open Go.ChangeShapes Go.WideShapes Go.ChangeAt Go.RowKit
set_option linter.unusedVariables false

/-- the code of Cheapest for a valid normal form -/
def chC (V : Nat) (no yes : List Int) (ok : Bool) : Int :=
  if no.length ≠ V ∨ yes.length ≠ V then 2 else if no.any outB = true ∨ yes.any outB = true then 3 else if ok = false then 11 else 0
def ChPost (W : World) (c n : Int) (R : List Bool) (e : Ending) (w' : World) : Prop :=
  ∃ (z : Int) (v : Value), e = .returned (.tuple #[.int .i64 z, v, .int .i64 c]) ∧ Below W.heap.size W w' ∧ (c ≠ 0 → z = 0 ∧ v = .slice none 0 0) ∧ (c = 0 → z = n ∧ Bools (fun _ => True) w' v R)
theorem costOk_of {V : Nat} {l : List Int} (h1 : l.length = V) (h2 : l.any outB = false) : CostOk V l := ⟨h1, fun x hx => by
  have := List.any_eq_false.1 h2 x hx
  unfold outB at this
  simp at this
  omega⟩
/-- the least cost, and whether there is a model -/
def cheapV (no yes : List Int) (V : Nat) (ps : List Part) : Best := cheapM no yes V ps (checkedM ⟨V, ps⟩).2

set_option maxRecDepth 100000 in
set_option maxHeartbeats 16000000 in
theorem cheapest_any {F G1 G2 : Nat → Prop} (V : Nat) (pv nv yv : Value) (ps : List Part) (no yes : List Int) (w : World) (hp : Parts F w pv ps) (hn : Ints G1 w nv no) (hy : Ints G2 w yv yes) (h0 : (checkedM ⟨V, ps⟩).1 = 0)
    (hks : ∀ p ∈ ps, p.kids.length ≤ 16384) (hnl : no.length ≤ 16777216) (hyl : yes.length ≤ 16777216) :
    Calls Try.prog 30 #[.agg #[.int .i64 V, pv], nv, yv] w (ChPost w (chC V no yes (cheapV no yes V ps).2) (cheapV no yes V ps).1 (cgo (evalM ps) (costL no yes 0) (cheapV no yes V ps).1 V [])) := by
  obtain ⟨pa, pn, pc, rfl, HPN⟩ : ∃ a n c, pv = .slice a n c ∧ Hid (n = ps.length) := by
    obtain ⟨a, c, h1, h2⟩ := hp.form
    exact ⟨a, _, c, h1, rfl⟩
  obtain ⟨na, nn, nc, rfl, HNN, hnm⟩ := hn.form'
  obtain ⟨ya, yn, yc, rfl, HYN, hym⟩ := hy.form'
  have hinfo : (Try.prog.info? 3).map (fun i => (i.zero, i.size, i.bytes)) = some (some (.int .i64 0), 1, 8) := by kernel_rfl
  have HI := Lib.hid hinfo
  obtain ⟨hsh, hv00, hV40, hp00, hpl⟩ := sh_of_checkedM _ h0
  have hV : V ≤ 40 := by simp only at hV40; omega
  simp only [Int.toNat_natCast] at hsh
  simp only at hp00 hpl
  have hbel : Below w.heap.size w (w.alloc (.cells #[.int .i64 V, .slice pa pn pc] 24)) := (Below.refl _ _).alloc (Nat.le_refl _) _
  have hck := checked_any F V _ ps _ (hp.below hbel) (by unfold I64; omega)
  have H0 := Lib.hid h0
  obtain ⟨Bv, hBv⟩ : ∃ b, cheapV no yes V ps = b := ⟨_, rfl⟩
  have HOKV : Hid (CostOk V no → CostOk V yes → (checkedM ⟨V, ps⟩).2.length = ps.length ∧ cheapS no yes V (checkedM ⟨V, ps⟩).2 ps [] ∧ IsMin no yes V (evalM ps) Bv ∧ 0 ≤ Bv.1 ∧ Bv.1 ≤ 1099511627776) := Lib.hid fun h1 h2 => by
    have := cheap_ok h0 h1 h2
    rw [show cheapM no yes V ps (checkedM ⟨V, ps⟩).2 = Bv from hBv] at this
    exact this
  have HBV : Hid (cheapM no yes V ps (checkedM ⟨V, ps⟩).2 = Bv) := Lib.hid hBv
  rw [hBv]
  obtain ⟨M, hM⟩ : ∃ M, checkedM ⟨(V : Int), ps⟩ = M := ⟨_, rfl⟩
  rw [hM] at hck HOKV HBV h0
  obtain ⟨c0, ms⟩ := M
  simp only at h0 HOKV HBV
  subst h0
  obtain ⟨cst, ok⟩ := Bv
  simp only at HOKV HBV
  simp only
  obtain ⟨CC, hCC⟩ : ∃ c, chC V no yes ok = c := ⟨_, rfl⟩
  obtain ⟨R, hR⟩ : ∃ R, cgo (evalM ps) (costL no yes 0) cst V [] = R := ⟨_, rfl⟩
  rw [hCC, hR]
  have HCC : Hid (CC = if nn ≠ V ∨ yn ≠ V then 2 else if no.any outB = true ∨ yes.any outB = true then 3 else if ok = false then 11 else 0) := Lib.hid (by rw [← hCC, HNN.out, HYN.out]; rfl)
  have HR : Hid (R = cgo (evalM ps) (costL no yes 0) cst (V - 0) []) := Lib.hid hR.symm
  have HCK := Lib.hid hck
  have HB := Lib.hid hbel
  have HP := Lib.hid (hp.below hbel)
  have HN := Lib.hid (hn.below hbel)
  have HY := Lib.hid (hy.below hbel)
  have HKS := Lib.hid hks
  have HSH := Lib.hid hsh
  clear hinfo hck hbel hp hn hy hks hsh hBv hM hCC hR hV40 hv00
  go_enter Try.func30, Try.ntmps30
  go_wp2_with fail
  refine HCK.out.mono ?_
  rintro e w1 ⟨fv, rfl, hb1, hxx, hf⟩
  clear hxx
  have c0 := below_c hb1 (show w.heap.size < _ by simp) (o := 0) (v := .int .i64 V) (by simp)
  have c1 := below_c hb1 (show w.heap.size < _ by simp) (o := 1) (v := .slice pa pn pc) (by simp)
  have HB1 : Hid (Below w.heap.size w w1) := Lib.hid (HB.out.trans (hb1.mono (by simp)))
  have HP1 := Lib.hid (HP.out.below hb1)
  have HN1 := Lib.hid (HN.out.below hb1)
  have HY1 := Lib.hid (HY.out.below hb1)
  have hs1 := block_lt c0
  obtain ⟨fb, mv, rfl, hfb, k0, k1, k2, kn⟩ := hf rfl
  have HKN := Lib.hid kn
  clear hf kn hb1 HCK HP HN HY HB hfb
  by_cases hlen : nn ≠ V ∨ yn ≠ V
  · have HF : Hid (CC = 2) := Lib.hid (by rw [HCC.out, if_pos hlen])
    by_cases hl1 : nn = V
    · have hl2 : ((yn : Int) != (V : Int)) = true := by rw [bne_iff_ne]; omega
      have hl3 : ((nn : Int) != (V : Int)) = false := by rw [bne_eq_false_iff_eq]; omega
      clear hlen hl1
      go_wp2_with fail
      go_ret3
      rw [HF.out]
      exact ⟨_, _, rfl, HB1.out, fun _ => ⟨rfl, rfl⟩, fun h => absurd h (by decide)⟩
    · have hl3 : ((nn : Int) != (V : Int)) = true := by rw [bne_iff_ne]; omega
      clear hlen hl1
      go_wp2_with fail
      go_ret3
      rw [HF.out]
      exact ⟨_, _, rfl, HB1.out, fun _ => ⟨rfl, rfl⟩, fun h => absurd h (by decide)⟩
  have hnV : nn = V := by omega
  have hyV : yn = V := by omega
  have HCC2 : Hid (CC = if no.any outB = true ∨ yes.any outB = true then 3 else if ok = false then 11 else 0) := Lib.hid (by rw [HCC.out, if_neg hlen])
  clear hlen HCC
  subst hnV
  obtain rfl : yn = nn := hyV
  have hl2 : ((yn : Int) != (yn : Int)) = false := by simp
  have hcn := containsf_any G1 _ no w1 HN1.out
  have hcy := containsf_any G2 _ yes w1 HY1.out
  obtain ⟨o1, ho1⟩ : ∃ o, no.any outB = o := ⟨_, rfl⟩
  obtain ⟨o2, ho2⟩ : ∃ o, yes.any outB = o := ⟨_, rfl⟩
  rw [ho1] at hcn HCC2
  rw [ho2] at hcy HCC2
  have HCN := Lib.hid hcn
  have HCY := Lib.hid hcy
  have HO1 := Lib.hid ho1
  have HO2 := Lib.hid ho2
  clear hcn hcy ho1 ho2
  rcases bool2 o1 with rfl | rfl
  · have HF : Hid (CC = 3) := Lib.hid (by rw [HCC2.out]; simp)
    go_wp2_with fail
    refine HCN.out.mono ?_
    rintro e w' ⟨rfl, rfl⟩
    go_wp2_with fail
    go_ret3
    rw [HF.out]
    exact ⟨_, _, rfl, HB1.out, fun _ => ⟨rfl, rfl⟩, fun h => absurd h (by decide)⟩
  rcases bool2 o2 with rfl | rfl
  · have HF : Hid (CC = 3) := Lib.hid (by rw [HCC2.out]; simp)
    go_wp2_with fail
    refine HCN.out.mono ?_
    rintro e w' ⟨rfl, rfl⟩
    go_wp2_with fail
    refine HCY.out.mono ?_
    rintro e w' ⟨rfl, rfl⟩
    go_wp2_with fail
    go_ret3
    rw [HF.out]
    exact ⟨_, _, rfl, HB1.out, fun _ => ⟨rfl, rfl⟩, fun h => absurd h (by decide)⟩
  have HCC3 : Hid (CC = if ok = false then 11 else 0) := Lib.hid (by rw [HCC2.out]; simp)
  have hok1 : CostOk yn no := costOk_of HNN.out.symm HO1.out
  have hok2 : CostOk yn yes := costOk_of HYN.out.symm HO2.out
  obtain ⟨m1, m2, m3, m4, m5⟩ := HOKV.out hok1 hok2
  have hch := cheap_any yn _ mv _ _ ps ms no yes fb w1 HP1.out HKN.out k0 k1 k2 HN1.out HY1.out hok1 hok2 hV m1 hp00 hpl m2
  rw [HBV.out] at hch
  have HCH := Lib.hid hch
  have HM3 := Lib.hid m3
  have HK1 := Lib.hid hok1
  have HK2 := Lib.hid hok2
  clear hch m1 m2 m3 hok1 hok2 HOKV k0 k1 k2 HCC2
  go_wp2_with fail
  refine HCN.out.mono ?_
  rintro e w' ⟨rfl, rfl⟩
  go_wp2_with fail
  refine HCY.out.mono ?_
  rintro e w' ⟨rfl, rfl⟩
  go_wp2_with fail
  refine HCH.out.mono ?_
  rintro e w2 ⟨rfl, hb2⟩
  have d0 := below_c hb2 hs1 c0
  have d1 := below_c hb2 hs1 c1
  have HB2 : Hid (Below w.heap.size w w2) := Lib.hid (HB1.out.trans (hb2.mono HB1.out.size))
  have HP2 := Lib.hid (HP1.out.below hb2)
  have HN2 := Lib.hid (HN1.out.below hb2)
  have HY2 := Lib.hid (HY1.out.below hb2)
  have hs2 := block_lt d0
  clear hb2 c0 c1 HCN HCY HCH HP1 HN1 HY1 HKN
  rcases bool2 ok with rfl | rfl
  case inr =>
    have HF : Hid (CC = 11) := Lib.hid (by rw [HCC3.out]; simp)
    go_wp2_with fail
    go_ret3
    rw [HF.out]
    exact ⟨_, _, rfl, HB2.out, fun _ => ⟨rfl, rfl⟩, fun h => absurd h (by decide)⟩
  have HF : Hid (CC = 0) := Lib.hid (by rw [HCC3.out]; simp)
  clear HCC3
  -- the clones
  go_wp2_with fail
  refine (clone_own G1 _ no w2 HN2.out hnl).mono ?_
  rintro e w3 ⟨n3, rfl, hon, hb3⟩
  go_wp2_with fail
  refine (clone_own G2 _ yes w3 (HY2.out.below hb3) hyl).mono ?_
  rintro e w4 ⟨y4, rfl, hoy, hb4⟩
  have hon4 : w4.ownsRow w2.heap.size 3 1 n3 yn (no.map (.int .i64)) := by rw [HNN.out]; exact own_below hon hb4
  have hoy4 : w4.ownsRow w3.heap.size 3 1 y4 yn (yes.map (.int .i64)) := by rw [HYN.out]; exact hoy
  have hs34 := hb4.size
  have hs23 := hb3.size
  have HLN : Hid (∀ k, n3.ownBlock = some k → w2.heap.size ≤ k ∧ k < w3.heap.size) := Lib.hid hon.lt
  have HLY : Hid (∀ k, y4.ownBlock = some k → w3.heap.size ≤ k ∧ k < w4.heap.size) := Lib.hid hoy.lt
  have HB24 : Hid (Below w2.heap.size w2 w4) := Lib.hid (hb3.trans (hb4.mono hs23))
  have HON := Lib.hid hon4
  have HOY := Lib.hid hoy4
  have HST0 := Lib.hid (StOk.start HK1.out HK2.out)
  have hcb : 0 ≤ cst ∧ cst ≤ 1099511627776 := ⟨m4, m5⟩
  have HMIN : Hid (∀ a, a.length = yn → evalM ps a = true → cst ≤ costL no yes 0 a) := Lib.hid fun a ha hf => by
    have := (HM3.out.1 a ha hf).2
    rw [costA_list ha] at this
    exact this
  clear hon hoy hon4 hoy4 hb3 hb4 HN2 HY2 m4 m5 HM3 HBV
  go_wp2_with fail
  go_loopg [14, 15] yn (fun g u14 u15 wx => ∃ (p : List Bool) (n' y' : List Int) (j : Nat), Hid (p.length = j) ∧ j + g = yn ∧ u15 = .int .i64 ((j : Int) + 1) ∧ Hid (R = cgo (evalM ps) (costL no yes 0) cst (yn - j) p) ∧ Hid (StOk no yes yn p n' y') ∧
    Hid (wx.ownsRow w4.heap.size 3 1 u14 j ((litsGo 0 p).map (.int .i64))) ∧ Hid (wx.ownsRow w2.heap.size 3 1 n3 yn (n'.map (.int .i64))) ∧ Hid (wx.ownsRow w3.heap.size 3 1 y4 yn (y'.map (.int .i64))) ∧ Hid (Below w2.heap.size w2 wx) ∧ w4.heap.size ≤ wx.heap.size)
  case atStart => exact ⟨[], no, yes, 0, Lib.hid rfl, by omega, by go_num, HR, HST0, Lib.hid (World.ownsRow_nil _ _ _ _), HON, HOY, HB24, Nat.le_refl _⟩
  case round =>
  obtain ⟨p, n', y', j, HJ, hjg, rfl, hinv, HST, HOL, HON', HOY', HBX, hsx⟩ := hrel
  have e0 := below_c HBX.out hs2 d0
  have e1 := below_c HBX.out hs2 d1
  have HBR : Hid (Below w.heap.size w wr) := Lib.hid (HB2.out.trans (HBX.out.mono (by omega)))
  by_cases hlt : j < yn
  case neg =>
    have hjV : yn - j = 0 := by omega
    have HRF : Hid (R = p) := Lib.hid (by rw [hinv.out, hjV]; rfl)
    have hli : Ints (fun _ => True) wr u14 (litsGo 0 p) := ⟨(ownsRow_sl1 HOL.out (by omega)).mono fun _ _ => trivial, fun x hx => by
      have := litsGo_ok yn p 0 (by rw [HJ.out]; omega) x hx
      unfold I64; omega⟩
    have hla := asg_any u14 (litsGo 0 p) wr hli (by rw [litsGo_len, HJ.out]; omega)
    rw [litsGo_asg] at hla
    have HLA := Lib.hid hla
    have hlt4 : (yn : Int) < (j : Int) + 1 := by omega
    have hlt3 : decide ((j : Int) + 1 ≤ yn) = false := by simp; omega
    clear hinv hjV hli hla
    go_wp2_with fail
    refine HLA.out.mono ?_
    rintro e w5 ⟨v, rfl, hb, hb5⟩
    go_wp2_with fail
    go_ret3
    rw [HF.out, HRF.out]
    exact ⟨_, _, rfl, HBR.out.trans (hb5.mono HBR.out.size), fun h => absurd rfl h, fun _ => ⟨rfl, hb.mono fun _ _ => trivial⟩⟩
  have hlt3 : decide ((j : Int) + 1 ≤ yn) = true := by simp; omega
  obtain ⟨gn, capn, nx, rfl, hnx, _, hgn1, hgn2⟩ := own_any (.int .i64) HON'.out hlt
  obtain ⟨gy, capy, yx, rfl, hyx, _, hgy1, hgy2⟩ := own_any (.int .i64) HOY'.out hlt
  have hgn3 := HLN.out gn rfl
  have hgy3 := HLY.out gy rfl
  have hown := HOL.out
  have hj40 : j ≤ 40 := by omega
  have hVp : yn - j = (yn - (j + 1)) + 1 := by omega
  have HIN := hinv
  rw [hVp] at HIN
  have HSN : Hid (litsGo 0 (p ++ [false]) = litsGo 0 p ++ [-((j : Int) + 1)]) := Lib.hid (by rw [litsGo_snoc, HJ.out]; simp)
  have HSE : Hid ((litsGo 0 (p ++ [false])).set j ((j : Int) + 1) = litsGo 0 (p ++ [true])) := Lib.hid (by have := litsGo_set p; rwa [HJ.out] at this)
  have HNX := Lib.hid hnx
  have HYX := Lib.hid hyx
  clear hinv hVp hnx hyx
  go_upto_region 18 with (at_builtin; go_loud (refine wpList_push1 rfl _ _ 35 rfl 3 (.int .i64 0) 8 Try.underlying35 HI.out rfl w4.heap.size u14 j _ wr _ rfl rfl hown rfl (by omega) (by omega) (by omega) ?_); intro g3 cap3 w5 hown3 hg3 hs5 hgb hgl hat; have HO3 := Lib.hid hown3; have HB35 := Lib.hid ((Below.refl w4.heap.size wr).grown hg3 (by omega) (fun k hk => (hown.lt k hk).1)); clear hown3 hg3 hown)
  have HOL5 : Hid (w5.ownsRow w4.heap.size 3 1 (.slice (some ⟨g3, 0, none⟩) (j + 1) cap3) (j + 1) ((litsGo 0 (p ++ [false])).map (.int .i64))) := Lib.hid (by rw [HSN.out]; simpa using HO3.out)
  have HON5 : Hid (w5.ownsRow w2.heap.size 3 1 (.slice (some ⟨gn, 0, none⟩) yn capn) yn (n'.map (.int .i64))) := Lib.hid (own_lt HON'.out (fun k hk => by have := HLN.out k hk; omega) HB35.out)
  have HOY5 : Hid (w5.ownsRow w3.heap.size 3 1 (.slice (some ⟨gy, 0, none⟩) yn capy) yn (y'.map (.int .i64))) := Lib.hid (own_lt HOY'.out (fun k hk => by have := HLY.out k hk; omega) HB35.out)
  have hs5b := HB35.out.size
  have f0 := below_c HB35.out (by omega) e0
  have f1 := below_c HB35.out (by omega) e1
  obtain ⟨nx2, hn2, hnc, hnf, _, _, hnset⟩ := own_at (.int .i64) HON5.out hlt
  obtain ⟨yx2, hy2, hyc, hyf, _, _, hyset⟩ := own_at (.int .i64) HOY5.out hlt
  rw [HNX.out] at hn2
  injection hn2 with hn2
  subst hn2
  rw [HYX.out] at hy2
  injection hy2 with hy2
  subst hy2
  have HYS := Lib.hid (hyset nx)
  have hst := HST.out
  have hjj := (hst.2.2 j).2 (by rw [HJ.out]; omega)
  have hnxe : nx = no.getD j 0 := by rw [← hjj.1]; simp [List.getD, HNX.out]
  have hyxe : yx = yes.getD j 0 := by rw [← hjj.2]; simp [List.getD, HYX.out]
  have hnb := HK1.out.at (n := j)
  have hyb := HK2.out.at (n := j)
  rw [← hnxe] at hnb
  rw [← hyxe] at hyb
  have HNXE := Lib.hid hnxe
  have HYXE := Lib.hid hyxe
  have hj0 : (0 : Int) ≤ j := by omega
  have hj1 : (j : Int) < yn := by omega
  have hgny : gn ≠ gy := by omega
  have hglw : w4.heap.size ≤ g3 := hgb
  clear hnset hyset hst hjj hnxe hyxe HO3
  go_upto_region 20 with fail
  obtain ⟨W6, hW6⟩ : ∃ W6, w5.setCell ⟨gy, j, none⟩ (.int .i64 nx) = W6 := ⟨_, rfl⟩
  have hb6 : Below w3.heap.size w5 W6 := by rw [← hW6]; exact (Below.refl _ _).setCell (by show w3.heap.size ≤ gy; omega) _
  have hs6 : W6.heap.size = w5.heap.size := by rw [← hW6]; simp
  have HOY6 : Hid (W6.ownsRow w3.heap.size 3 1 (.slice (some ⟨gy, 0, none⟩) yn capy) yn ((y'.set j nx).map (.int .i64))) := Lib.hid (by rw [← hW6]; exact HYS.out)
  have HON6 : Hid (W6.ownsRow w2.heap.size 3 1 (.slice (some ⟨gn, 0, none⟩) yn capn) yn (n'.map (.int .i64))) := Lib.hid (by rw [← hW6]; exact own_set HON5.out (by simp [Value.ownBlock]; exact hgny) _)
  have HOL6 : Hid (W6.ownsRow w4.heap.size 3 1 (.slice (some ⟨g3, 0, none⟩) (j + 1) cap3) (j + 1) ((litsGo 0 (p ++ [false])).map (.int .i64))) := Lib.hid (by rw [← hW6]; exact own_set HOL5.out (by simp [Value.ownBlock]; omega) _)
  have HBX6 : Hid (Below w2.heap.size w2 W6) := Lib.hid ((HBX.out.trans (HB35.out.mono (by omega))).trans (hb6.mono (by omega)))
  have k0 := below_c hb6 (by omega) f0
  have k1 := below_c hb6 (by omega) f1
  have hs6a : w5.heap.size ≤ W6.heap.size ∧ W6.heap.size ≤ w5.heap.size := by omega
  rw [hW6]
  clear hW6 hb6 hs6 HYS HOL5 HON5 HOY5 f0 f1 e0 e1 hnc hyc hnf hyf
  -- the new costs, with the value false
  have HST2 : Hid (StOk no yes yn (p ++ [false]) n' (y'.set j nx)) := Lib.hid (by
    have hst := HST.out
    refine hst.step false _ _ hst.1 (costOk_set hst.2.1 j hnb) (fun i => ?_) (fun i => ?_)
    · by_cases hi : i = p.length
      · rw [if_pos hi, hi, ((hst.2.2 p.length).2 (Nat.le_refl _)).1]; rfl
      · rw [if_neg hi]
    · rw [set_getD _ _ _ _ (by rw [hst.2.1.1]; exact hlt), HJ.out]
      by_cases hi : i = j
      · rw [if_pos hi, if_pos hi, HNXE.out]; rfl
      · rw [if_neg hi, if_neg hi])
  have hlo : LitsOk yn (litsGo 0 (p ++ [false])) := litsGo_ok yn _ 0 (by rw [List.length_append, HJ.out]; simp; omega)
  have hPW : Parts F W6 (.slice pa pn pc) ps := HP2.out.below HBX6.out
  have hli : Ints (fun _ => True) W6 (.slice (some ⟨g3, 0, none⟩) (j + 1) cap3) (litsGo 0 (p ++ [false])) := ⟨(ownsRow_sl1 HOL6.out (by omega)).mono fun _ _ => trivial, fun x hx => by
    have := hlo x hx
    unfold I64; omega⟩
  have hcd := conditioned_any yn _ _ ps (litsGo 0 (p ++ [false])) W6 hPW hli hV HSH.out hlo hpl HKS.out
  obtain ⟨D, hD⟩ : ∃ D, condM ⟨(yn : Int), ps⟩ (litsGo 0 (p ++ [false])) = D := ⟨_, rfl⟩
  have hDc : (checkedM D).1 = 0 := by rw [← hD]; exact condM_checked _ _ H0.out
  have hDv : D.vars = yn := by rw [← hD]; rfl
  have hDe : ∀ a, a.length = yn → evalM D.parts a = evalM ps (chGo (litsGo 0 (p ++ [false])) a) := fun a ha => by
    rw [← hD]
    exact eval_cond (fixed_by _ hlo ha) (by simpa using HSH.out)
  have hDl : D.parts.length = ps.length := by rw [← hD]; simp [condM]
  rw [hD] at hcd
  obtain ⟨dv, dp⟩ := D
  simp only at hDv hDe hDl
  subst hDv
  have hqk : ∀ (Fq : Nat → Prop) (qv : Value) (wx : World), Parts Fq wx qv dp → Calls Try.prog 31 #[.agg #[.int .i64 yn, qv]] wx (CheckedPost wx yn qv (checkedM ⟨yn, dp⟩)) := fun Fq qv wx h => checked_any Fq yn qv dp wx h (by unfold I64; omega)
  obtain ⟨q1, q2, q3, q4, q5⟩ := cheap_ok hDc HST2.out.1 HST2.out.2.1
  have htest := fun b (hb : IsMin n' (y'.set j nx) yn (evalM dp) b) => test_eq (b := b) (c := cst) HST2.out (by rw [List.length_append, HJ.out]; simp; omega) (show IsMin n' (y'.set j nx) yn (fun a => evalM ps (chGo (litsGo 0 (p ++ [false])) a)) b from
    ⟨fun a ha hf => hb.1 a ha (by rw [hDe a ha]; exact hf), fun hb2 => by obtain ⟨a, ha, hf, hc⟩ := hb.2 hb2; exact ⟨a, ha, by simp only; rw [← hDe a ha]; exact hf, hc⟩⟩) HMIN.out
  have htb := htest _ q3
  rw [show (p ++ [false]).length = j + 1 by rw [List.length_append, HJ.out]; rfl] at htb
  obtain ⟨M2, hM2⟩ : ∃ M, checkedM ⟨(yn : Int), dp⟩ = M := ⟨_, rfl⟩
  rw [hM2] at hqk q1 q2 q4 q5 htb hDc
  obtain ⟨c2, ms2⟩ := M2
  simp only at hDc q1 q2 q4 q5 htb
  subst hDc
  obtain ⟨Bq, hBq⟩ : ∃ b, cheapM n' (y'.set j nx) yn dp ms2 = b := ⟨_, rfl⟩
  rw [hBq] at htb q4 q5
  have HIN2 : Hid (R = if hasC (evalM ps) (costL no yes 0) cst (yn - (j + 1)) (p ++ [false]) = true then cgo (evalM ps) (costL no yes 0) cst (yn - (j + 1)) (p ++ [false]) else cgo (evalM ps) (costL no yes 0) cst (yn - (j + 1)) (p ++ [true])) := Lib.hid (by rw [HIN.out, cgo])
  obtain ⟨T, hT⟩ : ∃ t, hasC (evalM ps) (costL no yes 0) cst (yn - (j + 1)) (p ++ [false]) = t := ⟨_, rfl⟩
  rw [hT] at htb HIN2
  have HTB := Lib.hid htb
  have HCD := Lib.hid hcd
  have HQK := Lib.hid hqk
  have HBQ := Lib.hid hBq
  have HQ1 := Lib.hid q1
  have HQ2 := Lib.hid q2
  have HDL := Lib.hid hDl
  clear hlo hPW hli hcd hD hDe hDl hqk q1 q2 q3 htest htb hM2 hBq hT HIN
  go_wp2_with fail
  refine HCD.out.mono ?_
  rintro e w7 ⟨qv, rfl, hqp, hb7⟩
  have hs7 := hb7.size
  have r0 := below_c hb7 (by omega) k0
  have r1 := below_c hb7 (by omega) k1
  have HOY7 := Lib.hid (own_below HOY6.out hb7)
  have HON7 := Lib.hid (own_below HON6.out hb7)
  have HOL7 := Lib.hid (own_below HOL6.out hb7)
  have HBX7 : Hid (Below w2.heap.size w2 w7) := Lib.hid (HBX6.out.trans (hb7.mono (by omega)))
  have HQP := Lib.hid hqp
  clear hb7 hqp k0 k1 HOY6 HON6 HOL6 HCD
  go_wp2_with fail
  refine (HQK.out _ qv w7 HQP.out).mono ?_
  rintro e w8 ⟨gv, rfl, hb8, hx8, hf8⟩
  have hs8 := hb8.size
  have s0 := below_c hb8 (by omega) r0
  have s1 := below_c hb8 (by omega) r1
  have HOY8 := Lib.hid (own_below HOY7.out hb8)
  have HON8 := Lib.hid (own_below HON7.out hb8)
  have HOL8 := Lib.hid (own_below HOL7.out hb8)
  have HBX8 : Hid (Below w2.heap.size w2 w8) := Lib.hid (HBX7.out.trans (hb8.mono (by omega)))
  have HQP8 := Lib.hid (HQP.out.below hb8)
  obtain ⟨qb, qmv, rfl, hqb, t0, t1, t2, tn⟩ := hf8 rfl
  have hni : Ints (fun _ => True) w8 (.slice (some ⟨gn, 0, none⟩) yn capn) n' := ⟨(ownsRow_sl1 HON8.out (by omega)).mono fun _ _ => trivial, fun x hx => by have := HST2.out.1.2 x hx; unfold I64; omega⟩
  have hyi : Ints (fun _ => True) w8 (.slice (some ⟨gy, 0, none⟩) yn capy) (y'.set j nx) := ⟨(ownsRow_sl1 HOY8.out (by omega)).mono fun _ _ => trivial, fun x hx => by have := HST2.out.2.1.2 x hx; unfold I64; omega⟩
  have hch := cheap_any yn _ qmv _ _ dp ms2 n' (y'.set j nx) qb w8 HQP8.out tn t0 t1 t2 hni hyi HST2.out.1 HST2.out.2.1 hV HQ1.out (by rw [HDL.out]; exact hp00) (by rw [HDL.out]; exact hpl) HQ2.out
  rw [HBQ.out] at hch
  have HCH := Lib.hid hch
  clear hb8 hx8 hf8 hch hni hyi t0 t1 t2 tn r0 r1 HOY7 HON7 HOL7 HQK hqb
  go_wp2_with fail
  refine HCH.out.mono ?_
  rintro e w9 ⟨rfl, hb9⟩
  have hs9 := hb9.size
  have HOY9 := Lib.hid (own_below HOY8.out hb9)
  have HON9 := Lib.hid (own_below HON8.out hb9)
  have HOL9 := Lib.hid (own_below HOL8.out hb9)
  have HBX9 : Hid (Below w2.heap.size w2 w9) := Lib.hid (HBX8.out.trans (hb9.mono (by omega)))
  obtain ⟨bc, bo⟩ := Bq
  simp only at q4 q5
  have HTB2 : Hid ((bo = true ∧ bc = cst) ↔ T = true) := HTB
  clear hb9 HCH s0 s1 HOY8 HON8 HOL8 HBQ HTB
  have hgn9 : gn < w9.heap.size ∧ gy < w9.heap.size ∧ g3 < w9.heap.size := by omega
  rcases bool2 T with rfl | rfl
  · obtain ⟨rfl, rfl⟩ := HTB2.out.2 rfl
    have HRF : Hid (R = cgo (evalM ps) (costL no yes 0) bc (yn - (j + 1)) (p ++ [false])) := Lib.hid (by rw [HIN2.out, if_pos rfl])
    have hbb : (bc != bc) = false := by simp
    go_wp2_with fail
    go_roundg (gk - 1)
    case measure => omega
    case rel => exact ⟨p ++ [false], n', y'.set j nx, j + 1, Lib.hid (by rw [List.length_append, HJ.out]; rfl), by omega, by go_num, HRF, HST2, HOL9, HON9, HOY9, HBX9, by omega⟩
  · have HRF : Hid (R = cgo (evalM ps) (costL no yes 0) cst (yn - (j + 1)) (p ++ [true])) := Lib.hid (by rw [HIN2.out, if_neg (by simp)])
    obtain ⟨_, _, hlc, hlf, _, _, hlset⟩ := own_at (.int .i64) HOL9.out (show j < j + 1 by omega)
    obtain ⟨_, _, hnc, hnf, _, _, hnset⟩ := own_at (.int .i64) HON9.out hlt
    have HL1 := Lib.hid (hlset ((j : Int) + 1))
    rw [HSE.out] at HL1
    have HN1 := Lib.hid (own_set HON9.out (p := ⟨g3, j, none⟩) (by simp [Value.ownBlock]; omega) (.int .i64 ((j : Int) + 1)))
    have HY1 := Lib.hid (own_set HOY9.out (p := ⟨g3, j, none⟩) (by simp [Value.ownBlock]; omega) (.int .i64 ((j : Int) + 1)))
    obtain ⟨_, _, _, _, _, _, hnset2⟩ := own_at (.int .i64) HN1.out hlt
    have HN2 := Lib.hid (hnset2 yx)
    have HL2 := Lib.hid (own_set HL1.out (p := ⟨gn, j, none⟩) (by simp [Value.ownBlock]; omega) (.int .i64 yx))
    have HY2 := Lib.hid (own_set HY1.out (p := ⟨gn, j, none⟩) (by simp [Value.ownBlock]; omega) (.int .i64 yx))
    obtain ⟨_, _, hyc, hyf, _, _, _⟩ := own_at (.int .i64) HOY9.out hlt
    obtain ⟨_, _, _, _, _, _, hyset2⟩ := own_at (.int .i64) HY2.out hlt
    have HY3 := Lib.hid (hyset2 yx)
    have HL3 := Lib.hid (own_set HL2.out (p := ⟨gy, j, none⟩) (by simp [Value.ownBlock]; omega) (.int .i64 yx))
    have HN3 := Lib.hid (own_set HN2.out (p := ⟨gy, j, none⟩) (by simp [Value.ownBlock]; omega) (.int .i64 yx))
    have HBE : Hid (Below w2.heap.size w2 (((w9.setCell ⟨g3, j, none⟩ (.int .i64 ((j : Int) + 1))).setCell ⟨gn, j, none⟩ (.int .i64 yx)).setCell ⟨gy, j, none⟩ (.int .i64 yx))) :=
      Lib.hid (((HBX9.out.setCell (by show w2.heap.size ≤ g3; omega) _).setCell (by show w2.heap.size ≤ gn; omega) _).setCell (by show w2.heap.size ≤ gy; omega) _)
    have hsE : w4.heap.size ≤ (((w9.setCell ⟨g3, j, none⟩ (.int .i64 ((j : Int) + 1))).setCell ⟨gn, j, none⟩ (.int .i64 yx)).setCell ⟨gy, j, none⟩ (.int .i64 yx)).heap.size := by simp; omega
    have HSZ := Lib.hid hsE
    have HST3 : Hid (StOk no yes yn (p ++ [true]) (n'.set j yx) ((y'.set j nx).set j yx)) := Lib.hid (by
      have hst := HST.out
      refine hst.step true _ _ (costOk_set hst.1 j hyb) (costOk_set (costOk_set hst.2.1 j hnb) j hyb) (fun i => ?_) (fun i => ?_)
      · rw [set_getD _ _ _ _ (by rw [hst.1.1]; exact hlt), HJ.out]
        by_cases hi : i = j
        · rw [if_pos hi, if_pos hi, HYXE.out]; rfl
        · rw [if_neg hi, if_neg hi]
      · rw [set_getD _ _ _ _ (by rw [List.length_set, hst.2.1.1]; exact hlt), HJ.out]
        by_cases hi : i = j
        · rw [if_pos hi, if_pos hi, HYXE.out]; rfl
        · rw [if_neg hi, if_neg hi, set_getD _ _ _ _ (by rw [hst.2.1.1]; exact hlt), if_neg hi])
    have hgl : g3 ≠ gn ∧ g3 ≠ gy := by omega
    clear hlset hnset hnset2 hyset2 hsE hnb hyb
    rcases bool2 bo with rfl | rfl
    · have hbb : (bc != cst) = true := by
        rw [bne_iff_ne]
        intro e
        have := HTB2.out.1 ⟨rfl, e⟩
        cases this
      go_wp2_with fail
      go_roundg (gk - 1)
      case measure => omega
      case rel => exact ⟨p ++ [true], _, _, j + 1, Lib.hid (by rw [List.length_append, HJ.out]; rfl), by omega, by go_num, HRF, HST3, HL3, HN3, HY3, HBE, HSZ.out⟩
    · go_wp2_with fail
      go_roundg (gk - 1)
      case measure => omega
      case rel => exact ⟨p ++ [true], _, _, j + 1, Lib.hid (by rw [List.length_append, HJ.out]; rfl), by omega, by go_num, HRF, HST3, HL3, HN3, HY3, HBE, HSZ.out⟩
end Go.Proofs.Ytljljagkccmogaa
