/- Walks: the assignment of literals, slices.Equal of bools, Nth, Least. -/
import Derived.Test.YtljljagkccmogaaMd
namespace Go.Proofs.Ytljljagkccmogaa
open Go.ChangeShapes Go.WideShapes Go.ChangeAt Go.RowKit
set_option linter.unusedVariables false

set_option maxHeartbeats 2000000 in
theorem asg_any {F : Nat → Prop} (v : Value) (xs : List Int) (w : World) (hx : Ints F w v xs) (hl : xs.length ≤ 16384) :
    Calls Try.prog 37 #[v] w (BoolsPost w (xs.map fun l => decide (0 < l))) := by
  obtain ⟨a, n, c, rfl, HN, hn⟩ := hx.form'
  have hn2 : n ≤ 16384 := by rw [HN.out]; exact hl
  have hinfo : (Try.prog.info? 4).map (fun i => (i.zero, i.size, i.bytes)) = some (some (.bool false), 1, 1) := by kernel_rfl
  have HI := Lib.hid hinfo
  have hown0 : (w.alloc (.cells #[] 4)).ownsRow w.heap.size 4 1 (.slice (some ⟨w.heap.size, 0, none⟩) 0 0) 0 [] := by
    simpa using own_new (base := w.heap.size) (w := w) #[] 4 (Nat.le_refl _) (by simp)
  have HO0 := Lib.hid hown0
  have HB0 : Hid (Below w.heap.size w (w.alloc (.cells #[] 4))) := Lib.hid ((Below.refl _ _).alloc (Nat.le_refl _) _)
  clear hinfo hown0
  go_enter Try.func37, Try.ntmps37
  go_wp2
  go_loopg [3, 9] n (fun g u3 u9 wx => ∃ k : Nat, k + g = n ∧ u9 = .int .i64 k ∧ wx.ownsRow w.heap.size 4 1 u3 k (((xs.take k).map fun l => decide (0 < l)).map .bool) ∧ Hid (Below w.heap.size w wx))
  case atStart => exact ⟨0, by omega, rfl, by simpa using HO0.out, HB0⟩
  case round =>
  obtain ⟨k, hkg, rfl, hown, HBX⟩ := hrel
  have HOX := Lib.hid hown
  clear hown
  have hsx := HBX.out.size
  by_cases hk : k < n
  case neg =>
    have hkn : n = k := by omega
    have HF := HOX.out
    rw [List.take_of_length_le (by have := HN.out; omega)] at HF
    have HFF := Lib.hid HF
    subst hkn
    clear hk HF HOX
    go_wp2
    go_ret
    exact ⟨_, rfl, (ownsRow_sl1 HFF.out (by omega)).mono fun b hb => hb.1, HBX.out⟩
  obtain ⟨x, hxx⟩ : ∃ y, xs[k]? = some y := ⟨_, List.getElem?_eq_getElem (by have := HN.out; omega)⟩
  obtain ⟨xb, xo, rfl, _, hxb, hxc, _⟩ := (hx.below HBX.out).at hxx
  have HT : Hid (xs.take (k + 1) = xs.take k ++ [x]) := Lib.hid (by
    obtain ⟨hlt, he⟩ := List.getElem?_eq_some_iff.1 hxx
    rw [List.take_succ_eq_append_getElem hlt, he])
  have hown := HOX.out
  clear hxx
  go_wp2_with (at_builtin; go_loud (refine wpList_push1 rfl _ _ 29 rfl 4 (.bool false) 1 Try.underlying29 HI.out rfl w.heap.size u3 k _ wr (.bool (decide (0 < x))) rfl rfl hown rfl (by omega) (by omega) (by omega) ?_); intro g3 cap3 w4 hown3 hg3 hs4 hgb hgl hat; have HO3 := Lib.hid hown3; have HB3 := Lib.hid (HBX.out.grown hg3 (by omega) (fun k hk => (hown.lt k hk).1)); clear hown3 hg3 hown)
  go_roundg (gk - 1)
  case measure => omega
  case rel =>
    refine ⟨k + 1, by omega, by go_num, ?_, HB3⟩
    rw [HT.out]
    simpa using HO3.out

set_option maxHeartbeats 2000000 in
theorem equalb_any {F G : Nat → Prop} (v u : Value) (xs ys : List Bool) (w : World) (hx : Bools F w v xs) (hy : Bools G w u ys) :
    Calls Try.prog 25 #[v, u] w (QuietPost w (.bool (xs == ys))) := by
  obtain ⟨a, n, c, rfl, HN, hn⟩ : ∃ a n c, v = .slice a n c ∧ Hid (n = xs.length) ∧ n ≤ 9223372036854775807 := by
    obtain ⟨a, c, h1, h2⟩ := hx.form
    exact ⟨a, _, c, h1, rfl, h2⟩
  obtain ⟨b, m, d, rfl, HM, hm⟩ : ∃ a n c, u = .slice a n c ∧ Hid (n = ys.length) ∧ n ≤ 9223372036854775807 := by
    obtain ⟨a, c, h1, h2⟩ := hy.form
    exact ⟨a, _, c, h1, rfl, h2⟩
  obtain ⟨R, hR⟩ : ∃ R, (xs == ys) = R := ⟨_, rfl⟩
  rw [hR]
  by_cases hnm : n = m
  case neg =>
    have hne : ((n : Int) != (m : Int)) = true := by rw [bne_iff_ne]; omega
    have HR : Hid (R = false) := Lib.hid (by
      rw [← hR, beq_eq_false_iff_ne]
      intro e
      exact hnm (by rw [HN.out, HM.out, e]))
    clear hR hnm
    go_enter Try.func25, Try.ntmps25
    go_wp2
    go_ret
    exact ⟨by rw [HR.out]; rfl, 0, rfl⟩
  subst hnm
  have hne : ((n : Int) != (n : Int)) = false := by simp
  have HR : Hid (R = (xs.drop 0 == ys.drop 0)) := Lib.hid hR.symm
  clear hR
  go_enter Try.func25, Try.ntmps25
  go_wp2
  go_loopg [13] n (fun g u13 wx => ∃ (k nq : Nat), k + g = n ∧ u13 = .int .i64 k ∧ wx = w.drewN nq ∧ Hid (R = (xs.drop k == ys.drop k)))
  case atStart => exact ⟨0, 0, by omega, rfl, rfl, HR⟩
  case round =>
  obtain ⟨k, nq, hkg, rfl, rfl, hinv⟩ := hrel
  by_cases hk : k < n
  · obtain ⟨x, hxx⟩ : ∃ y, xs[k]? = some y := ⟨_, List.getElem?_eq_getElem (by have := HN.out; omega)⟩
    obtain ⟨y, hyy⟩ : ∃ y, ys[k]? = some y := ⟨_, List.getElem?_eq_getElem (by have := HM.out; omega)⟩
    obtain ⟨xb, xo, rfl, _, _, hxc⟩ := hx.at hxx
    obtain ⟨yb, yo, rfl, _, _, hyc⟩ := hy.at hyy
    have ex : xs.drop k = x :: xs.drop (k + 1) := by
      obtain ⟨hlt, he⟩ := List.getElem?_eq_some_iff.1 hxx
      rw [List.drop_eq_getElem_cons hlt, he]
    have ey : ys.drop k = y :: ys.drop (k + 1) := by
      obtain ⟨hlt, he⟩ := List.getElem?_eq_some_iff.1 hyy
      rw [List.drop_eq_getElem_cons hlt, he]
    have hk0 : (0 : Int) ≤ k := by omega
    have hk1 : (k : Int) < n := by omega
    by_cases hxy : x = y
    · have HF : Hid (R = (xs.drop (k + 1) == ys.drop (k + 1))) := Lib.hid (by rw [hinv.out, ex, ey, hxy]; simp)
      subst hxy
      clear hinv ex ey hxx hyy
      go_upto_region 6 with fail
      go_quiet (fail)
      go_wp2
      go_roundg (gk - 1)
      case measure => omega
      case rel => exact ⟨k + 1, _, by omega, by go_num, rfl, HF⟩
    · have HF : Hid (R = false) := Lib.hid (by rw [hinv.out, ex, ey]; simp [hxy])
      have hxy2 : x = !y := by cases x <;> cases y <;> simp_all
      subst hxy2
      clear hinv ex ey hxx hyy hxy
      cases y
      all_goals
        go_upto_region 6 with fail
        go_quiet (fail)
        go_wp2
        go_ret
        exact ⟨by rw [HF.out]; rfl, _, by rw [World.drewN_drewN]⟩
  · have HF : Hid (R = true) := Lib.hid (by rw [hinv.out, List.drop_eq_nil_of_le (by have := HN.out; omega), List.drop_eq_nil_of_le (by have := HM.out; omega)]; rfl)
    clear hinv
    go_wp2
    go_ret
    exact ⟨by rw [HF.out]; rfl, nq, rfl⟩

/-- Nth and Least answer a code, and a list of bools -/
def NthPost (W : World) (c : Int) (R : List Bool) (e : Ending) (w' : World) : Prop :=
  ∃ v, e = .returned (.tuple #[v, .int .i64 c]) ∧ Below W.heap.size W w' ∧ (c ≠ 0 → v = .slice none 0 0) ∧ (c = 0 → Bools (fun _ => True) w' v R)
/-- the code of Nth -/
def nthC (V : Nat) (ps : List Part) (n : Int) : Int := if n < 0 ∨ ((Cn V (evalM ps) : Nat) : Int) ≤ n then 3 else 0

set_option maxRecDepth 100000 in
set_option maxHeartbeats 8000000 in
theorem nth_any {F : Nat → Prop} (V : Nat) (pv : Value) (ps : List Part) (n : Int) (w : World) (hp : Parts F w pv ps) (h0 : (checkedM ⟨V, ps⟩).1 = 0) (hks : ∀ p ∈ ps, p.kids.length ≤ 16384) (hn : I64 n) :
    Calls Try.prog 24 #[.agg #[.int .i64 V, pv], .int .i64 n] w (NthPost w (nthC V ps n) (nthGo (evalM ps) V [] n.toNat)) := by
  obtain ⟨pa, pn, pc, rfl, HPN⟩ : ∃ a n c, pv = .slice a n c ∧ Hid (n = ps.length) := by
    obtain ⟨a, c, h1, h2⟩ := hp.form
    exact ⟨a, _, c, h1, rfl⟩
  have hinfo : (Try.prog.info? 3).map (fun i => (i.zero, i.size, i.bytes)) = some (some (.int .i64 0), 1, 8) := by kernel_rfl
  have HI := Lib.hid hinfo
  obtain ⟨hsh, hv00, hV40, hp00, hpl⟩ := sh_of_checkedM _ h0
  have hV : V ≤ 40 := by simp only at hV40; omega
  have hbel : Below w.heap.size w (w.alloc (.cells #[.int .i64 V, .slice pa pn pc] 24)) := (Below.refl _ _).alloc (Nat.le_refl _) _
  have hck := checked_any F V _ ps _ (hp.below hbel) (by unfold I64; omega)
  obtain ⟨hc2, hc3⟩ := count_ok h0
  obtain ⟨M, hM⟩ : ∃ M, checkedM ⟨(V : Int), ps⟩ = M := ⟨_, rfl⟩
  have H0 := Lib.hid h0
  rw [hM] at hck hc2 hc3 h0
  obtain ⟨c, ms⟩ := M
  simp only at h0 hc2 hc3
  subst h0
  have HCK := Lib.hid hck
  have HC2 := Lib.hid hc2
  have HC3 := Lib.hid hc3
  have HB := Lib.hid hbel
  have HP := Lib.hid (hp.below hbel)
  have HKS := Lib.hid hks
  obtain ⟨C, hC⟩ : ∃ C, Cn V (evalM ps) = C := ⟨_, rfl⟩
  have HNC : Hid (nthC V ps n = if n < 0 ∨ (C : Int) ≤ n then 3 else 0) := Lib.hid (by rw [← hC]; rfl)
  have hCle : C ≤ 1099511627776 := by
    rw [← hC]
    refine Nat.le_trans (Cn_le V _) ?_
    rw [show (1099511627776 : Nat) = 2 ^ 40 by decide]
    exact Nat.pow_le_pow_right (by decide) hV
  obtain ⟨nc, hnc⟩ : ∃ c, nthC V ps n = c := ⟨_, rfl⟩
  rw [hnc] at HNC ⊢
  have HCC := Lib.hid hC
  obtain ⟨R, hR⟩ : ∃ R, nthGo (evalM ps) V [] n.toNat = R := ⟨_, rfl⟩
  rw [hR]
  have HRR := Lib.hid hR
  clear hR hinfo hck hc2 hc3 hbel hks hM hp hV40 hpl hC hnc hsh hv00 hp00
  go_enter Try.func24, Try.ntmps24
  go_wp2_with fail
  refine HCK.out.mono ?_
  rintro e w1 ⟨fv, rfl, hb1, hxx, hf⟩
  clear hxx
  have c0 := below_c hb1 (show w.heap.size < _ by simp) (o := 0) (v := .int .i64 V) (by simp)
  have c1 := below_c hb1 (show w.heap.size < _ by simp) (o := 1) (v := .slice pa pn pc) (by simp)
  have HB1 : Hid (Below w.heap.size w w1) := Lib.hid (HB.out.trans (hb1.mono (by simp)))
  have HP1 := Lib.hid (HP.out.below hb1)
  have hs1 := block_lt c0
  obtain ⟨b, mv, rfl, hbb, k0, k1, k2, kn⟩ := hf rfl
  obtain ⟨o1, o2, o3, o4, o5, o6, o7⟩ := HC2.out
  have HO6 := Lib.hid o6
  have HO7 := Lib.hid o7
  have HO1 := Lib.hid o1
  have hcn := count_any (V : Int) _ mv ps ms b _ HP1.out kn k0 k1 k2 o4 o5 HO1.out o2 HO6.out HO7.out o3
  rw [HC3.out] at hcn
  simp only [Int.toNat_natCast] at hcn
  rw [HCC.out] at hcn
  have HCN := Lib.hid hcn
  clear o6 o7 o1 hf kn hb1 k0 k1 k2 hcn HCK HP HB HO6 HO7 HO1
  by_cases hn0 : n < 0
  · have HNF : Hid (nc = 3) := Lib.hid (by rw [HNC.out, if_pos (.inl hn0)])
    go_wp2_with fail
    go_ret2
    rw [HNF.out]
    exact ⟨_, rfl, HB1.out, fun _ => rfl, fun h => absurd h (by decide)⟩
  have hn00 : decide (n < 0) = false := by simp; omega
  go_wp2_with fail
  refine HCN.out.mono ?_
  rintro e w2 ⟨rfl, hb2⟩
  have d0 := below_c hb2 hs1 c0
  have d1 := below_c hb2 hs1 c1
  have HB2 : Hid (Below w.heap.size w w2) := Lib.hid (HB1.out.trans (hb2.mono HB1.out.size))
  have HP2 := Lib.hid (HP1.out.below hb2)
  have hs2 := block_lt d0
  clear hb2 c0 c1 HCN HP1
  by_cases hnC : (C : Int) ≤ n
  · have HNF : Hid (nc = 3) := Lib.hid (by rw [HNC.out, if_pos (.inr (by omega))])
    go_wp2_with fail
    go_ret2
    rw [HNF.out]
    exact ⟨_, rfl, HB2.out, fun _ => rfl, fun h => absurd h (by decide)⟩
  have HNF : Hid (nc = 0) := Lib.hid (by rw [HNC.out, if_neg (by omega)])
  have HR0 : Hid (R = nthGo (evalM ps) (V - 0) [] n.toNat) := Lib.hid HRR.out.symm
  have hnb : n ≤ 1099511627776 := by omega
  have hn1 : 0 ≤ n := by omega
  have hnC3 : decide ((C : Int) ≤ n) = false := by simp; omega
  obtain ⟨n', hn'⟩ := Int.eq_ofNat_of_zero_le (show 0 ≤ n by omega)
  have HN' := Lib.hid hn'
  clear hn0 hnC HNC HRR hn'
  go_wp2_with fail
  go_loopg [1, 8, 9] V (fun g u1 u8 u9 wx => ∃ (p : List Bool) (m j : Nat), Hid (p.length = j) ∧ j + g = V ∧ u9 = .int .i64 ((j : Int) + 1) ∧ u1 = .int .i64 m ∧ m ≤ 1099511627776 ∧ Hid (R = nthGo (evalM ps) (V - j) p m) ∧
    Hid (wx.ownsRow w2.heap.size 3 1 u8 j ((litsGo 0 p).map (.int .i64))) ∧ Hid (Below w2.heap.size w2 wx))
  case atStart => exact ⟨[], n.toNat, 0, Lib.hid rfl, by omega, by go_num, by rw [Int.toNat_of_nonneg hn1], by omega, HR0, Lib.hid (World.ownsRow_nil _ _ _ _), Lib.hid (Below.refl _ _)⟩
  case round =>
  obtain ⟨p, m, j, HJ, hpg, rfl, rfl, hm, hinv, HOX, HBX⟩ := hrel
  have hsx := HBX.out.size
  have e0 := below_c HBX.out hs2 d0
  have e1 := below_c HBX.out hs2 d1
  have HBR : Hid (Below w.heap.size w wr) := Lib.hid (HB2.out.trans (HBX.out.mono (by omega)))
  by_cases hlt : j < V
  case neg =>
    have hpV : V - j = 0 := by omega
    have HRF : Hid (R = p) := Lib.hid (by rw [hinv.out, hpV]; rfl)
    have hli : Ints (fun _ => True) wr u8 (litsGo 0 p) := ⟨(ownsRow_sl1 HOX.out (by omega)).mono fun _ _ => trivial, fun x hx => by
      have := litsGo_ok V p 0 (by rw [HJ.out]; omega) x hx
      unfold I64; omega⟩
    have hla := asg_any u8 (litsGo 0 p) wr hli (by rw [litsGo_len, HJ.out]; omega)
    rw [litsGo_asg] at hla
    have HLA := Lib.hid hla
    clear hinv hpV hli hla
    have hlt4 : (V : Int) < (j : Int) + 1 := by omega
    have hlt3 : decide ((j : Int) + 1 ≤ V) = false := by simp; omega
    go_wp2_with fail
    refine HLA.out.mono ?_
    rintro e w3 ⟨v, rfl, hb, hb3⟩
    go_wp2_with fail
    go_ret2
    rw [HNF.out, HRF.out]
    exact ⟨_, rfl, HBR.out.trans (hb3.mono HBR.out.size), fun h => absurd rfl h, fun _ => hb.mono fun _ _ => trivial⟩
  have hlt3 : decide ((j : Int) + 1 ≤ V) = true := by simp; omega
  have hown := HOX.out
  have hpl40 : j ≤ 40 := by omega
  have hVp : V - j = (V - (j + 1)) + 1 := by omega
  have HIN := hinv
  rw [hVp] at HIN
  have hsn : litsGo 0 (p ++ [false]) = litsGo 0 p ++ [-((j : Int) + 1)] := by rw [litsGo_snoc, HJ.out]; simp
  have HSN := Lib.hid hsn
  have HST : Hid ((litsGo 0 (p ++ [false])).set j ((j : Int) + 1) = litsGo 0 (p ++ [true])) := Lib.hid (by have := litsGo_set p; rwa [HJ.out] at this)
  clear hinv hVp hsn
  go_upto_region 11 with (at_builtin; go_loud (refine wpList_push1 rfl _ _ 35 rfl 3 (.int .i64 0) 8 Try.underlying35 HI.out rfl w2.heap.size u8 j _ wr _ rfl rfl hown rfl (by omega) (by omega) (by omega) ?_); intro g3 cap3 w4 hown3 hg3 hs4 hgb hgl hat; have HO3 := Lib.hid hown3; have HB3 := Lib.hid (HBX.out.grown hg3 (by omega) (fun k hk => (hown.lt k hk).1)); clear hown3 hg3 hown)
  have HOL : Hid (w4.ownsRow w2.heap.size 3 1 (.slice (some ⟨g3, 0, none⟩) (j + 1) cap3) (j + 1) ((litsGo 0 (p ++ [false])).map (.int .i64))) := Lib.hid (by rw [HSN.out]; simpa using HO3.out)
  have hs3 := HB3.out.size
  have f0 := below_c HB3.out hs2 d0
  have f1 := below_c HB3.out hs2 d1
  have hli : Ints (fun _ => True) w4 (.slice (some ⟨g3, 0, none⟩) (j + 1) cap3) (litsGo 0 (p ++ [false])) := ⟨(ownsRow_sl1 HOL.out (by omega)).mono fun _ _ => trivial, fun x hx => by
    have := litsGo_ok V (p ++ [false]) 0 (by rw [List.length_append, HJ.out]; simp; omega) x hx
    unfold I64; omega⟩
  have hwi := with_any V _ _ ps (litsGo 0 (p ++ [false])) w4 (HP2.out.below HB3.out) hli H0.out (litsGo_ok V _ 0 (by rw [List.length_append, HJ.out]; simp; omega)) HKS.out (by rw [litsGo_len, List.length_append, HJ.out]; simp; omega)
  rw [with_prefix (p ++ [false]) (by rw [List.length_append, HJ.out]; simp; omega)] at hwi
  have hvl : V - (p ++ [false]).length = V - (j + 1) := by rw [List.length_append, HJ.out]; rfl
  rw [hvl] at hwi
  have hkle := Cn_le (V - (j + 1)) (fun b => evalM ps ((p ++ [false]) ++ b))
  have hk40 : (2 : Nat) ^ (V - (j + 1)) ≤ 1099511627776 := by
    rw [show (1099511627776 : Nat) = 2 ^ 40 by decide]
    exact Nat.pow_le_pow_right (by decide) (by omega)
  have HIN2 : Hid (R = if Cn (V - (j + 1)) (fun b => evalM ps ((p ++ [false]) ++ b)) ≤ m then nthGo (evalM ps) (V - (j + 1)) (p ++ [true]) (m - Cn (V - (j + 1)) (fun b => evalM ps ((p ++ [false]) ++ b))) else nthGo (evalM ps) (V - (j + 1)) (p ++ [false]) m) := Lib.hid (by rw [HIN.out, nthGo])
  obtain ⟨q, hq⟩ : ∃ q, Cn (V - (j + 1)) (fun b => evalM ps ((p ++ [false]) ++ b)) = q := ⟨_, rfl⟩
  rw [hq] at hwi HIN2 hkle
  have hq40 : q ≤ 1099511627776 := by omega
  have HWI := Lib.hid hwi
  clear hli hwi hvl hkle hk40 hq HIN HO3 HSN
  go_wp2_with fail
  refine HWI.out.mono ?_
  rintro e w5 ⟨rfl, hb5⟩
  have hs5 := hb5.size
  have j0 := below_c hb5 (by omega) f0
  have j1 := below_c hb5 (by omega) f1
  have HOL5 := Lib.hid (own_below HOL.out hb5)
  have HBX5 : Hid (Below w2.heap.size w2 w5) := Lib.hid (HB3.out.trans (hb5.mono (by omega)))
  have hg5 : g3 < w5.heap.size := by omega
  clear hb5 f0 f1 HWI HOL
  by_cases hqm : q ≤ m
  · have HRF : Hid (R = nthGo (evalM ps) (V - (j + 1)) (p ++ [true]) (m - q)) := Lib.hid (by rw [HIN2.out, if_pos hqm])
    obtain ⟨z, hz, hcell, hfz, hg1, hg2, hset⟩ := own_at (.int .i64) HOL5.out (show j < j + 1 by omega)
    have HRW := Lib.hid (hset ((j : Int) + 1))
    rw [HST.out] at HRW
    have hmq : ((m : Int) - (q : Int)) = ((m - q : Nat) : Int) := by omega
    have HMQ := Lib.hid hmq
    clear hset hz hmq
    go_wp2_with fail
    go_roundg (gk - 1)
    case measure => omega
    case rel =>
      refine ⟨p ++ [true], m - q, j + 1, Lib.hid (by rw [List.length_append, HJ.out]; rfl), by omega, by go_num, by rw [← HMQ.out], by omega, HRF, HRW, Lib.hid (HBX5.out.setCell (by show w2.heap.size ≤ g3; omega) _)⟩
  · have HRF : Hid (R = nthGo (evalM ps) (V - (j + 1)) (p ++ [false]) m) := Lib.hid (by rw [HIN2.out, if_neg hqm])
    have hqm2 : decide (q ≤ m) = false := by simp; omega
    go_wp2_with fail
    go_roundg (gk - 1)
    case measure => omega
    case rel =>
      exact ⟨p ++ [false], m, j + 1, Lib.hid (by rw [List.length_append, HJ.out]; rfl), by omega, by go_num, rfl, by omega, HRF, HOL5, HBX5⟩
end Go.Proofs.Ytljljagkccmogaa
