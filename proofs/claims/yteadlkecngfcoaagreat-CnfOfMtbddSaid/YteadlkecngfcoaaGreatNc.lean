/- Walks: the statement's Residual, the statement CnfResidual. No condition. -/
import Derived.Test.YteadlkecngfcoaaGreatKp
import Derived.Test.YteadlkecngfcoaaGreatKx
import Derived.Test.YteadlkecngfcoaaGreatKh
import Derived.Test.YteadlkecngfcoaaGreatQu
namespace Go.Proofs.YteadlkecngfcoaaGreat
open Go.ChangeShapes Go.WideShapes Go.ChangeAt Go.RowKit
set_option linter.unusedVariables false

set_option maxRecDepth 100000 in
set_option maxHeartbeats 4000000 in
theorem lresidual_any (F : Nat → Prop) (v : Value) (cs : List (List Int)) (lit : Int) (w : World) (hx : Clss F w v cs) (hi : I64 lit) (hl : cs.length ≤ 1048576) (hll : ∀ c ∈ cs, c.length ≤ 16777216) :
    Calls Tryz.prog 51 #[v, .int .i64 lit] w (ResPost w cs lit) := by
  obtain ⟨a, n, c, rfl, HN, hn⟩ := hx.form'
  have hinfo : (Tryz.prog.info? 22).map (fun i => (i.zero, i.size, i.bytes)) = some (some (.slice none 0 0), 1, 24) := by kernel_rfl
  have hinfo1 : (Tryz.prog.info? 3).map (fun i => (i.zero, i.size, i.bytes)) = some (some (.int .i64 0), 1, 8) := by kernel_rfl
  have HI := Lib.hid hinfo
  have HI1 := Lib.hid hinfo1
  have HX := Lib.hid hx
  have HLL := Lib.hid hll
  have HIL := Lib.hid hi
  have hn2 : n ≤ 1048576 := by rw [HN.out]; exact hl
  obtain ⟨B, hB⟩ : ∃ B, w.heap.size = B := ⟨_, rfl⟩
  have HBE := Lib.hid hB
  have HB0 : Hid (Below B w (w.alloc (.cells #[] 22))) := Lib.hid ((Below.refl _ _).alloc (by omega) _)
  have HO0 : Hid (Out B (w.alloc (.cells #[] 22)) (.slice (some ⟨w.heap.size, 0, none⟩) 0 0) []) := Lib.hid ⟨by simpa using own_new (base := B) (w := w) #[] 22 (by omega) (by simp), by simp⟩
  have HS0 : Hid (B ≤ (w.alloc (.cells #[] 22)).heap.size) := Lib.hid (by simp; omega)
  obtain ⟨Q, hQ⟩ : ∃ Q, resG lit cs = Q := ⟨_, rfl⟩
  have HQ0 : Hid (Q = resG lit (cs.drop 0)) := Lib.hid hQ.symm
  have HQE : Hid (resM cs lit = canM Q ∧ Q = resG lit cs) := Lib.hid (by rw [← hQ]; exact ⟨rfl, rfl⟩)
  obtain ⟨M, hM⟩ : ∃ M, IntKind.i64.wrap (-lit) = M := ⟨_, rfl⟩
  have HM : Hid (∀ c, rstM lit c = c.filter fun n => decide (n ≠ M)) := Lib.hid (by intro c; rw [← hM]; rfl)
  clear hx hll hinfo hinfo1 hl hB hQ hi
  go_enter Tryz.func51, Tryz.ntmps51
  go_wp2
  go_loopg [5, 14] n (fun gg u5 u14 wx => ∃ (k : Nat) (ov : Value) (ps : List (Value × List Int)), k + gg = n ∧ u14 = .int .i64 k ∧ u5 = ov ∧ Hid (Below B w wx) ∧ Hid (B ≤ wx.heap.size) ∧ Hid (Out B wx ov ps) ∧ ps.length ≤ k ∧ Hid (Q = ps.map Prod.snd ++ resG lit (cs.drop k)))
  case atStart => exact ⟨0, _, [], by omega, rfl, rfl, HB0, HS0, HO0, by simp, HQ0⟩
  case round =>
  clear HB0 HS0 HO0 HQ0
  obtain ⟨k, ov, ps, hkg, rfl, rfl, HB, HSZ, HO, hpk, HQ⟩ := hrel
  obtain ⟨oa, oc, hov⟩ := own_form HO.out.1
  obtain ⟨pn, hpn⟩ : ∃ m, ps.length = m := ⟨_, rfl⟩
  rw [hpn] at hov hpk
  subst hov
  have HPN := Lib.hid hpn
  clear hpn
  by_cases hk : k < n
  case neg =>
    have hd : decide (k < n) = false := decide_eq_false hk
    have HQF : Hid (Q = ps.map Prod.snd) := Lib.hid (by
      rw [HQ.out, List.drop_eq_nil_of_le (by have := HN.out; omega)]
      exact List.append_nil _)
    have hlq : ∀ c ∈ Q, c.length ≤ 16777216 := fun c hc => by
      rw [HQE.out.2] at hc
      obtain ⟨d, hd1, _, rfl⟩ := resG_mem lit cs c hc
      exact Nat.le_trans (rstM_len lit d) (HLL.out d hd1)
    have hcl := HO.out.clss (by have := HPN.out; omega)
    rw [← HQF.out] at hcl
    have HSO := Lib.hid (lcanonical_any _ _ Q wr hcl (by rw [HQF.out, List.length_map]; have := HPN.out; omega) hlq)
    clear HQ hlq hcl
    go_wp2_with fail
    refine HSO.out.mono ?_
    rintro e w3 ⟨v3, rfl, hc3, hb3⟩
    have HF : Hid (ResPost w cs lit (.returned v3) w3) := Lib.hid ⟨v3, rfl, by rw [HQE.out.1]; exact Rows1.mono (fun _ _ _ _ _ h hg => h.mono hg) hc3 fun b hb => show w.heap.size ≤ b from Nat.le_trans (by have := HSZ.out; have := HBE.out; omega) hb, by rw [HBE.out]; exact HB.out.trans (hb3.mono HSZ.out)⟩
    obtain ⟨a3, n3, c3, rfl, _, _⟩ := hc3.form'
    clear hc3 hb3 HSO
    go_wp2_with fail
    go_ret
    exact HF.out
  obtain ⟨x, hxx, ex⟩ := drop_at (xs := cs) (k := k) (by have := HN.out; omega)
  have hcw := Rows1.move (w' := wr) (fun _ _ _ _ _ h hm => h.move hm) (show Clss (fun b => b < w.heap.size) w _ cs from HX.out.lt) fun b hb _ => HB.out.block b (by rw [← HBE.out]; exact hb)
  obtain ⟨b, o, u, rfl, _, hb, hcc, hu⟩ := hcw.at hxx
  have hct := contains_any _ u x lit wr hu HIL.out
  obtain ⟨ua, un, uc, rfl, HUN, hun⟩ := hu.form'
  have HU := Lib.hid hu
  have HXL := Lib.hid (HLL.out x (List.mem_of_getElem? hxx))
  obtain ⟨C, hC⟩ : ∃ C, x.contains lit = C := ⟨_, rfl⟩
  have HQ1 : Hid (Q = ps.map Prod.snd ++ (if C = true then resG lit (cs.drop (k + 1)) else rstM lit x :: resG lit (cs.drop (k + 1)))) := Lib.hid (by
    rw [HQ.out, ex, resG, hC])
  rw [hC] at hct
  have HCT := Lib.hid hct
  clear hcw hct hu hxx ex HQ hC
  obtain ⟨GK, hGK⟩ : ∃ G, G = gk := ⟨_, rfl⟩
  subst hGK
  rcases bool2 C with rfl | rfl
  · have HF : Hid (Q = ps.map Prod.snd ++ resG lit (cs.drop (k + 1))) := Lib.hid (by rw [HQ1.out, if_pos rfl])
    clear HQ1
    go_wp2_with fail
    refine HCT.out.mono ?_
    rintro e w1 ⟨rfl, rfl⟩
    go_wp2_with fail
    go_roundg (GK - 1)
    case measure => omega
    case rel => exact ⟨k + 1, _, ps, by omega, by go_num, rfl, HB, HSZ, HO, by have := HPN.out; omega, HF⟩
  obtain ⟨T, hT⟩ : ∃ T, rstM lit x = T := ⟨_, rfl⟩
  rw [hT] at HQ1
  have HT0 : Hid (T = [] ++ (x.drop 0).filter fun n => decide (n ≠ M)) := Lib.hid (by rw [← hT, HM.out]; rfl)
  have HT64 : Hid (∀ y ∈ T, I64 y) := Lib.hid fun y hy => HU.out.2 y (by rw [← hT] at hy; exact (List.mem_filter.1 hy).1)
  have HTL : Hid (T.length ≤ 16777216) := Lib.hid (by rw [← hT]; exact Nat.le_trans (rstM_len lit x) HXL.out)
  have hszr := HSZ.out
  have hlt4 : ∀ b, wr.heap.size ≤ b → B ≤ b ∧ (Value.slice oa pn oc).ownBlock ≠ some b := fun b hb => ⟨by omega, fun e => by have := (HO.out.lt b e).2; omega⟩
  have HLT4 := Lib.hid hlt4
  clear hT hlt4
  go_wp2_with fail
  refine HCT.out.mono ?_
  rintro e w1 ⟨rfl, rfl⟩
  obtain ⟨wo, hwo⟩ : ∃ W, W = w1 := ⟨_, rfl⟩
  subst hwo
  go_wp2_with fail
  go_loopg [8, 24] un (fun gg u8 u24 wx => ∃ (j : Nat) (rv : Value) (rs : List Int), j + gg = un ∧ u24 = .int .i64 j ∧ u8 = rv ∧ Hid (Below wo.heap.size wo wx) ∧ Hid (wx.ownsRow wo.heap.size 3 1 rv rs.length (rs.map (.int .i64))) ∧ rs.length ≤ j ∧ Hid (T = rs ++ (x.drop j).filter fun n => decide (n ≠ M)))
  case atStart => exact ⟨0, _, [], by omega, rfl, rfl, Lib.hid ((Below.refl _ _).alloc (Nat.le_refl _) _), Lib.hid (by simpa using own_new (base := wo.heap.size) (w := wo) #[] 3 (by omega) (by simp)), by simp, HT0⟩
  case round =>
  clear HT0
  obtain ⟨j, rv, rs, hjg, rfl, rfl, HBI, HR, hrj, HT⟩ := hrel
  obtain ⟨ra, rc, hrv⟩ := own_form HR.out
  obtain ⟨rn, hrn⟩ : ∃ m, rs.length = m := ⟨_, rfl⟩
  rw [hrn] at hrv hrj
  subst hrv
  have HRN := Lib.hid hrn
  clear hrn
  have hszi := HBI.out.size
  have hxl := HXL.out
  have hunl : un ≤ 16777216 := by rw [HUN.out]; exact hxl
  by_cases hj : j < un
  case neg =>
    have hd : decide (j < un) = false := decide_eq_false hj
    have HTF : Hid (T = rs) := Lib.hid (by
      rw [HT.out, List.drop_eq_nil_of_le (by have := HUN.out; omega)]
      exact List.append_nil _)
    have hr4 : Ints (fun b => wo.heap.size ≤ b) wr (.slice ra rn rc) T := by
      have := HR.out
      rw [← HTF.out] at this
      exact ⟨(ownsRow_sl1 this (by have := HTL.out; omega)).mono fun b hb => hb.1, HT64.out⟩
    have HR5 := Lib.hid (hr4.mono HLT4.out)
    have HO5 := Lib.hid (HO.out.below HBI.out)
    have HB5 : Hid (Below B w wr) := Lib.hid (HB.out.trans (HBI.out.mono HSZ.out))
    have HF : Hid (Q = (ps ++ [(Value.slice ra rn rc, T)]).map Prod.snd ++ resG lit (cs.drop (k + 1))) := Lib.hid (by rw [HQ1.out, if_neg (by simp), List.map_append, List.append_assoc]; rfl)
    have hown6 := HO5.out.1
    rw [HPN.out] at hown6
    clear HQ1 hr4 HT
    go_wp2_with (at_builtin; go_loud (refine wpList_push1 rfl _ _ 29 rfl 22 (.slice none 0 0) 24 Tryz.underlying29 HI.out rfl B (.slice oa pn oc) pn (ps.map Prod.fst) wr (.slice ra rn rc) rfl rfl hown6 rfl (by omega) (by omega) (by omega) ?_); intro g7 cap7 w7 hown7 hg7 hs7 hgb hgl hat; have HB7 := Lib.hid (HB5.out.grown hg7 (by omega) (fun k hk => (hown6.lt k hk).1)); have HO7 : Hid (Out B w7 (.slice (some ⟨g7, 0, none⟩) (ps.length + 1) cap7) (ps ++ [(Value.slice ra rn rc, T)])) := Lib.hid (HO5.out.push HR5.out (by rw [HPN.out]; exact hown7) hg7 hat); clear hown7 hg7 hown6)
    go_roundg (GK - 1)
    case measure => omega
    case rel => exact ⟨k + 1, _, _, by omega, by go_num, rfl, HB7, Lib.hid (by omega), by rw [HPN.out] at HO7; exact HO7, by have := HPN.out; simp; omega, HF⟩
  obtain ⟨y, hyy, ey⟩ := drop_at (xs := x) (k := j) (by have := HUN.out; omega)
  have hui := HU.out.below HBI.out
  obtain ⟨yb, yo, rfl, _, hyb, hyc, hy64⟩ := hui.at hyy
  have hdj : decide ((j : Int) < un) = true := by simp; omega
  have hdj2 : decide (j < un) = true := by simp; omega
  by_cases hyM : y = M
  · have HF : Hid (T = rs ++ (x.drop (j + 1)).filter fun n => decide (n ≠ M)) := Lib.hid (by rw [HT.out, ey, List.filter_cons, if_neg (by simp [hyM])])
    have hd3 : (y != M) = false := by simp [hyM]
    clear HT ey hyy hui hyM
    go_wp2_with fail
    go_roundg (gk - 1)
    case measure => omega
    case rel => exact ⟨j + 1, _, rs, by omega, by go_num, rfl, HBI, HR, by have := HRN.out; omega, HF⟩
  · have HF : Hid (T = (rs ++ [y]) ++ (x.drop (j + 1)).filter fun n => decide (n ≠ M)) := Lib.hid (by rw [HT.out, ey, List.filter_cons, if_pos (by simp [hyM]), List.append_assoc]; rfl)
    have hd3 : (y != M) = true := by simp [hyM]
    have hown6 := HR.out
    rw [HRN.out] at hown6
    clear HT ey hyy hui hyM
    go_wp2_with (at_builtin; go_loud (refine wpList_push1 rfl _ _ 22 rfl 3 (.int .i64 0) 8 Tryz.underlying22 HI1.out rfl wo.heap.size (.slice ra rn rc) rn (rs.map (.int .i64)) wr (.int .i64 y) rfl rfl hown6 rfl (by omega) (by omega) (by omega) ?_); intro g7 cap7 w7 hown7 hg7 hs7 hgb hgl hat; have HB7 := Lib.hid (HBI.out.grown hg7 (by omega) (fun k hk => (hown6.lt k hk).1)); have HO7 : Hid (w7.ownsRow wo.heap.size 3 1 (.slice (some ⟨g7, 0, none⟩) (rn + 1) cap7) (rs ++ [y]).length ((rs ++ [y]).map (.int .i64))) := Lib.hid (by simpa [HRN.out] using hown7); clear hown7 hg7 hown6)
    go_roundg (gk - 1)
    case measure => omega
    case rel => exact ⟨j + 1, _, rs ++ [y], by omega, by go_num, rfl, HB7, HO7, by have := HRN.out; simp; omega, HF⟩


/- Walks: the statement's Satisfiable. Canonical clauses over a set of variables that is smaller than the fuel. -/
open Go.ChangeShapes Go.WideShapes Go.ChangeAt Go.RowKit
set_option linter.unusedVariables false

theorem canM_ln (cs : List (List Int)) : (canM cs).length ≤ cs.length := by
  have h1 := cptG_len none (srtC clsC ((cs.map claM).filter fun c => !oppM c))
  rw [(srtC_perm clsC _).length_eq] at h1
  have h2 := List.length_filter_le (fun c => !oppM c) (cs.map claM)
  rw [List.length_map] at h2
  exact Nat.le_trans h1 h2
theorem resM_ln (cs : List (List Int)) (lit : Int) : (resM cs lit).length ≤ cs.length := Nat.le_trans (canM_ln _) (resG_len lit cs)
theorem resM_ea {cs : List (List Int)} {lit : Int} {d : List Int} {m : Nat} (hm : ∀ c ∈ cs, c.length ≤ m) (h : d ∈ resM cs lit) : d.length ≤ m := by
  unfold resM at h
  obtain ⟨_, c, hc, rfl⟩ := canM_iff.1 h
  obtain ⟨x, hx, h1, rfl⟩ := resG_mem lit cs c hc
  exact Nat.le_trans (claM_len _) (Nat.le_trans (rstM_len lit x) (hm x hx))
/-- sizes -/
def SzOk (cs : List (List Int)) : Prop := cs.length ≤ 1048576 ∧ ∀ c ∈ cs, c.length ≤ 16777216
theorem SzOk.res {cs : List (List Int)} (h : SzOk cs) (x : Int) : SzOk (resM cs x) := ⟨Nat.le_trans (resM_ln cs x) h.1, fun _ hd => resM_ea h.2 hd⟩
def BoolB (w : World) (b : Bool) (e : Ending) (w' : World) : Prop := e = .returned (.bool b) ∧ Below w.heap.size w w'
def satF (k : Nat) (cs : List (List Int)) (N : Bool) : Option (List Int) → Bool
  | some u => satM k (resM cs (u.headD 0))
  | none => N
theorem satM_some {k : Nat} {x : Int} {s : List Int} {r : List (List Int)} : satM (k + 1) ((x :: s) :: r) = satF k ((x :: s) :: r) (satM k (resM ((x :: s) :: r) x) || satM k (resM ((x :: s) :: r) (-x))) (((x :: s) :: r).find? fun c => c.length == 1) := by
  rw [satM, if_neg (by simp), if_neg (by simp)]
  rcases ((x :: s) :: r).find? (fun c => c.length == 1) with _ | u <;> rfl
theorem Vs.resn {S : List Int} {cs : List (List Int)} {x : Int} (hv : Vs S cs) (hs : Sm x) (h0 : x ≠ 0) : Vs (S.erase (varM x)) (resM cs (-x)) := by
  have hvn : varM (-x) = varM x := by unfold varM; split <;> split <;> omega
  have := hv.res (x := -x) (by unfold Sm at *; omega) (by omega)
  rwa [hvn] at this
set_option maxRecDepth 100000 in
set_option maxHeartbeats 4000000 in
theorem sat_any : ∀ (k : Nat) (S : List Int) (F : Nat → Prop) (v : Value) (cs : List (List Int)) (w : World), Vs S cs → (∀ v ∈ S, v ≤ 1000000) → S.length < k → Clss F w v cs → SzOk cs →
    Calls Tryz.prog 50 #[v] w (BoolB w (satM k cs))
  | 0, S, F, v, cs, w, _, _, h, _, _ => by omega
  | k + 1, S, F, v, cs, w, hv, hS, hk, hx, hok => by
    have ih := sat_any k
    have hstep : ∀ c ∈ cs, ∀ x ∈ c, Sm x ∧ (∀ F v w, Clss F w v (resM cs x) → Calls Tryz.prog 50 #[v] w (BoolB w (satM k (resM cs x)))) ∧ ∀ F v w, Clss F w v (resM cs (-x)) → Calls Tryz.prog 50 #[v] w (BoolB w (satM k (resM cs (-x)))) := fun c hc x hxc => by
      obtain ⟨hs, h0, hm⟩ := hv.sm hS hc hxc
      have hE : ∀ v ∈ S.erase (varM x), v ≤ 1000000 := fun v h => hS v (List.mem_of_mem_erase h)
      exact ⟨hs, fun F v w h => ih _ F v _ w (hv.res hs h0) hE (erase_len hm hk) h (hok.res x), fun F v w h => ih _ F v _ w (hv.resn hs h0) hE (erase_len hm hk) h (hok.res (-x))⟩
    obtain ⟨a, n, c, rfl, HN, hn⟩ := hx.form'
    have hn2 : n ≤ 1048576 := by rw [HN.out]; exact hok.1
    obtain ⟨R, hR⟩ : ∃ R, satM (k + 1) cs = R := ⟨_, rfl⟩
    rw [hR]
    have HX := Lib.hid hx
    have HST := Lib.hid hstep
    have HOK := Lib.hid hok
    clear ih hv hS hk hstep
    rcases cs with _ | ⟨c0, r⟩
    · have hn0 : n = 0 := HN.out
      subst hn0
      have HF : Hid (R = true) := Lib.hid (by rw [← hR, satM, if_pos rfl])
      clear hR hx hok hn hn2
      go_enter Tryz.func50, Tryz.ntmps50
      go_wp2
      go_ret
      exact ⟨by rw [HF.out]; rfl, Below.refl _ _⟩
    have hnp : 0 < n := by rw [HN.out]; simp
    have hnz : ((n : Int) == 0) = false := by rw [beq_eq_false_iff_ne]; omega
    have hnz2 : (n == 0) = false := by rw [beq_eq_false_iff_ne]; omega
    have hnp2 : (0 : Int) < n := by omega
    obtain ⟨b, o, u, rfl, _, hb, hcc, hu⟩ := hx.at (k := 0) (x := c0) rfl
    rw [Nat.add_zero] at hcc
    obtain ⟨ua, un, uc, rfl, HUN, hun⟩ := hu.form'
    rcases c0 with _ | ⟨x, s⟩
    · have hu0 : un = 0 := HUN.out
      subst hu0
      have HF : Hid (R = false) := Lib.hid (by rw [← hR, satM, if_neg (by simp), if_pos (by simp)])
      clear hR hx hok hn hu hun
      go_enter Tryz.func50, Tryz.ntmps50
      go_wp2
      go_ret
      exact ⟨by rw [HF.out]; rfl, Below.refl _ _⟩
    have hup : 0 < un := by rw [HUN.out]; simp
    have huz : ((un : Int) == 0) = false := by rw [beq_eq_false_iff_ne]; omega
    have huz2 : (un == 0) = false := by rw [beq_eq_false_iff_ne]; omega
    have hup2 : (0 : Int) < un := by omega
    obtain ⟨yb, yo, rfl, _, hyb, hyc, hy64⟩ := hu.at (k := 0) (x := x) rfl
    rw [Nat.add_zero] at hyc
    obtain ⟨N, hN⟩ : ∃ N, (satM k (resM ((x :: s) :: r) x) || satM k (resM ((x :: s) :: r) (-x))) = N := ⟨_, rfl⟩
    have HR0 : Hid (R = satF k ((x :: s) :: r) N ((((x :: s) :: r).drop 0).find? fun c => c.length == 1)) := Lib.hid (by rw [← hR, satM_some, hN, List.drop_zero])
    have HNN := Lib.hid hN
    obtain ⟨cs, hcs⟩ : ∃ cs, (x :: s) :: r = cs := ⟨_, rfl⟩
    have HC0 : Hid (∃ c ∈ cs, x ∈ c) := Lib.hid ⟨x :: s, by rw [← hcs]; simp, by simp⟩
    rw [hcs] at HN HX HST HOK HR0 HNN
    clear hR hx hok hu hun hN hcs
    go_enter Tryz.func50, Tryz.ntmps50
    go_wp2
    go_loopg [21] n (fun gg u21 wx => ∃ (j : Nat), j + gg = n ∧ u21 = .int .i64 j ∧ w = wx ∧ Hid (R = satF k cs N ((cs.drop j).find? fun c => c.length == 1)))
    case atStart => exact ⟨0, by omega, rfl, rfl, HR0⟩
    case round =>
    clear HR0
    obtain ⟨j, hjg, rfl, rfl, HR⟩ := hrel
    by_cases hj : j < n
    case neg =>
      have hd : decide ((j : Int) < n) = false := by simp; omega
      have hd2 : decide (j < n) = false := decide_eq_false hj
      have HF : Hid (R = (satM k (resM cs x) || satM k (resM cs (-x)))) := Lib.hid (by
        rw [HR.out, List.drop_eq_nil_of_le (by have := HN.out; omega), HNN.out]; rfl)
      have HQ : Hid (∃ c ∈ cs, x ∈ c) := HC0
      obtain ⟨cx, hcx, hxc⟩ := HC0.out
      obtain ⟨hsm, h1, h2⟩ := HST.out cx hcx x hxc
      have H1 := Lib.hid h1
      have H2 := Lib.hid h2
      have hwn := hsm.neg
      have HRS := Lib.hid (lresidual_any _ _ cs x w HX.out hy64 HOK.out.1 HOK.out.2)
      have HI : Hid (I64 (-x)) := Lib.hid ⟨by have := hsm.1; have := hsm.2; omega, by have := hsm.1; have := hsm.2; omega⟩
      obtain ⟨B1, hB1⟩ : ∃ B1, satM k (resM cs x) = B1 := ⟨_, rfl⟩
      have HB1 := Lib.hid hB1
      rw [hB1] at HF H1
      clear HR hsm h1 h2 hB1 HNN HC0 HQ HST hcx hxc
      go_wp2_with fail
      refine HRS.out.mono ?_
      rintro e w1 ⟨v1, rfl, hc1, hb1⟩
      obtain ⟨qa, qn, qc, rfl, _, _⟩ := hc1.form'
      have HS1 := Lib.hid (H1.out _ _ w1 hc1)
      have HBB1 := Lib.hid hb1
      clear hc1 hb1 HRS H1
      go_wp2_with fail
      refine HS1.out.mono ?_
      rintro e w2 ⟨rfl, hb2⟩
      have HBB2 : Hid (Below w.heap.size w w2) := Lib.hid (HBB1.out.trans (hb2.mono HBB1.out.size))
      clear hb2 HS1
      rcases bool2 B1 with rfl | rfl
      · go_wp2_with fail
        go_ret
        exact ⟨by rw [HF.out]; rfl, HBB2.out⟩
      have HX2 := Lib.hid (HX.out.below HBB2.out)
      have HRS := Lib.hid (lresidual_any _ _ cs (-x) w2 HX2.out HI.out HOK.out.1 HOK.out.2)
      clear HX2
      go_wp2_with fail
      refine HRS.out.mono ?_
      rintro e w3 ⟨v3, rfl, hc3, hb3⟩
      obtain ⟨ra, rn, rc, rfl, _, _⟩ := hc3.form'
      have HS3 := Lib.hid (H2.out _ _ w3 hc3)
      have HBB3 : Hid (Below w.heap.size w w3) := Lib.hid (HBB2.out.trans (hb3.mono HBB2.out.size))
      clear hc3 hb3 HRS H2
      go_wp2_with fail
      refine HS3.out.mono ?_
      rintro e w4 ⟨rfl, hb4⟩
      have HBB4 : Hid (Below w.heap.size w w4) := Lib.hid (HBB3.out.trans (hb4.mono HBB3.out.size))
      clear hb4 HS3
      go_wp2_with fail
      go_ret
      exact ⟨by rw [HF.out]; rfl, HBB4.out⟩
    obtain ⟨d, hdd, ed⟩ := drop_at (xs := cs) (k := j) (by have := HN.out; omega)
    obtain ⟨b', o', u', hbo, _, hb', hcc', hu'⟩ := HX.out.at hdd
    injection hbo with hbo
    injection hbo with hb1 hb2
    subst hb1 hb2
    obtain ⟨va, vn, vc, rfl, HVN, hvn⟩ := hu'.form'
    have hdj : decide ((j : Int) < n) = true := by simp; omega
    have hdj2 : decide (j < n) = true := decide_eq_true hj
    have HU := Lib.hid hu'
    clear hu'
    by_cases h1 : vn = 1
    · subst h1
      obtain ⟨y, rfl⟩ : ∃ y, d = [y] := by
        have := HVN.out
        match d, this with
        | [y], _ => exact ⟨y, rfl⟩
      have HF : Hid (R = satM k (resM cs y)) := Lib.hid (by rw [HR.out, ed, List.find?_cons_of_pos (by rfl)]; rfl)
      obtain ⟨hsm, h1, h2⟩ := HST.out _ (List.mem_of_getElem? hdd) y (List.mem_cons_self ..)
      have H1 := Lib.hid h1
      obtain ⟨zb, zo, rfl, _, hzb, hzc, hz64⟩ := HU.out.at (k := 0) (x := y) rfl
      rw [Nat.add_zero] at hzc
      have HRS := Lib.hid (lresidual_any _ _ cs y w HX.out hz64 HOK.out.1 HOK.out.2)
      clear HR hdd ed hsm h1 h2 HU HST HNN HC0
      go_wp2_with fail
      refine HRS.out.mono ?_
      rintro e w1 ⟨v1, rfl, hc1, hb1⟩
      obtain ⟨qa, qn, qc, rfl, _, _⟩ := hc1.form'
      have HS1 := Lib.hid (H1.out _ _ w1 hc1)
      have HBB1 := Lib.hid hb1
      clear hc1 hb1 HRS H1
      go_wp2_with fail
      refine HS1.out.mono ?_
      rintro e w2 ⟨rfl, hb2⟩
      have HBB2 : Hid (Below w.heap.size w w2) := Lib.hid (HBB1.out.trans (hb2.mono HBB1.out.size))
      clear hb2 HS1
      go_wp2_with fail
      go_ret
      exact ⟨by rw [HF.out]; rfl, HBB2.out⟩
    · have HF : Hid (R = satF k cs N ((cs.drop (j + 1)).find? fun c => c.length == 1)) := Lib.hid (by
        rw [HR.out, ed, List.find?_cons_of_neg (by have := HVN.out; simp; omega)])
      have hv1 : ((vn : Int) == 1) = false := by rw [beq_eq_false_iff_ne]; omega
      have hv2 : (vn == 1) = false := by rw [beq_eq_false_iff_ne]; exact h1
      clear HR hdd ed HU h1
      go_wp2
      go_roundg (gk - 1)
      case measure => omega
      case rel => exact ⟨j + 1, by omega, by go_num, rfl, HF⟩
end Go.Proofs.YteadlkecngfcoaaGreat
