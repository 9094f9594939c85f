/- Walks: slices.Index, slices.Contains, cnf.Residual. No condition but the lengths. -/
import Derived.Test.YteadlkecngfcoaaGreatKg
import Derived.Test.YteadlkecngfcoaaGreatKz
namespace Go.Proofs.YteadlkecngfcoaaGreat
open Go.ChangeShapes Go.WideShapes Go.ChangeAt Go.RowKit
set_option linter.unusedVariables false

set_option maxHeartbeats 1000000 in
theorem contains_any (F : Nat → Prop) (v : Value) (xs : List Int) (x : Int) (w : World) (hx : Ints F w v xs) (hi : I64 x) :
    Calls Tryz.prog 34 #[v, .int .i64 x] w fun e w' => e = .returned (.bool (xs.contains x)) ∧ w' = w := by
  have hc := idxGo_nonneg x xs 0
  have hI := index_any F v xs x w hx hi
  obtain ⟨R, hR⟩ : ∃ R, idxGo x xs 0 = R := ⟨_, rfl⟩
  rw [hR] at hc hI
  rw [← hc]
  have HI := Lib.hid hI
  clear hc hR hI
  go_enter Tryz.func34, Tryz.ntmps34
  go_wp2_with fail
  refine HI.out.mono ?_
  rintro e w' ⟨rfl, rfl⟩
  go_wp2_with fail
  go_ret
  exact ⟨rfl, rfl⟩

theorem Out.clss {B : Nat} {w : World} {v : Value} {ps : List (Value × List Int)} (h : Out B w v ps) (hl : ps.length ≤ 9223372036854775807) : Clss (fun b => B ≤ b) w v (ps.map Prod.snd) := by
  refine ⟨ps.map Prod.fst, (ownsRow_sl1 h.1 hl).mono fun b hb => hb.1, by simp, fun j u c hu hc => ?_⟩
  rw [List.getElem?_map] at hu hc
  rcases hj : ps[j]? with _ | q
  · rw [hj] at hu; cases hu
  · rw [hj] at hu hc
    injection hu with hu
    injection hc with hc
    subst hu hc
    exact (h.2 q (List.mem_of_getElem? hj)).mono fun b hb => hb.1
/-- what is left of one clause -/
def rstM (lit : Int) (c : List Int) : List Int := c.filter fun n => decide (n ≠ IntKind.i64.wrap (-lit))
/-- what is left of the clauses, not made canonical -/
def resG (lit : Int) : List (List Int) → List (List Int)
  | [] => []
  | c :: r => if c.contains lit = true then resG lit r else rstM lit c :: resG lit r
/-- Residual -/
def resM (cs : List (List Int)) (lit : Int) : List (List Int) := canM (resG lit cs)
theorem resG_len (lit : Int) : ∀ (cs : List (List Int)), (resG lit cs).length ≤ cs.length
  | [] => Nat.le_refl _
  | c :: r => by
    rw [resG]
    split
    · exact Nat.le_succ_of_le (resG_len lit r)
    · exact Nat.succ_le_succ (resG_len lit r)
theorem resG_mem (lit : Int) : ∀ (cs : List (List Int)) (x : List Int), x ∈ resG lit cs → ∃ c ∈ cs, c.contains lit = false ∧ x = rstM lit c
  | [], x, h => by cases h
  | c :: r, x, h => by
    rw [resG] at h
    split at h
    · obtain ⟨d, h1, h2⟩ := resG_mem lit r x h
      exact ⟨d, List.mem_cons_of_mem _ h1, h2⟩
    · rename_i hc
      rcases List.mem_cons.1 h with rfl | h
      · exact ⟨c, List.mem_cons_self .., by simpa using hc, rfl⟩
      · obtain ⟨d, h1, h2⟩ := resG_mem lit r x h
        exact ⟨d, List.mem_cons_of_mem _ h1, h2⟩
theorem rstM_len (lit : Int) (c : List Int) : (rstM lit c).length ≤ c.length := List.length_filter_le _ _
/-- what Residual hands back -/
def ResPost (W : World) (cs : List (List Int)) (lit : Int) (e : Ending) (w' : World) : Prop :=
  ∃ v, e = .returned v ∧ Clss (fun b => W.heap.size ≤ b) w' v (resM cs lit) ∧ Below W.heap.size W w'

set_option maxRecDepth 100000 in
set_option maxHeartbeats 4000000 in
theorem residual_any (F : Nat → Prop) (v : Value) (cs : List (List Int)) (lit : Int) (w : World) (hx : Clss F w v cs) (hi : I64 lit) (hl : cs.length ≤ 1048576) (hll : ∀ c ∈ cs, c.length ≤ 16777216) :
    Calls Tryz.prog 16 #[v, .int .i64 lit] w (ResPost w cs lit) := by
  obtain ⟨a, n, c, rfl, HN, hn⟩ := hx.form'
  have hinfo : (Tryz.prog.info? 22).map (fun i => (i.zero, i.size, i.bytes)) = some (some (.slice none 0 0), 1, 24) := by kernel_rfl
  have hinfo1 : (Tryz.prog.info? 3).map (fun i => (i.zero, i.size, i.bytes)) = some (some (.int .i64 0), 1, 8) := by kernel_rfl
  have HI := Lib.hid hinfo
  have HI1 := Lib.hid hinfo1
  have HX := Lib.hid hx
  have HLL := Lib.hid hll
  have HIL := Lib.hid hi
  have hn2 : n ≤ 1048576 := by rw [HN.out]; exact hl
  obtain ⟨B, hB⟩ : ∃ B, w.heap.size = B := ⟨_, rfl⟩
  have HBE := Lib.hid hB
  have HB0 : Hid (Below B w w) := Lib.hid (Below.refl _ _)
  have HO0 : Hid (Out B w (.slice none 0 0) []) := Lib.hid (Out.nil _ _)
  have HS0 : Hid (B ≤ w.heap.size) := Lib.hid (by omega)
  obtain ⟨Q, hQ⟩ : ∃ Q, resG lit cs = Q := ⟨_, rfl⟩
  have HQ0 : Hid (Q = resG lit (cs.drop 0)) := Lib.hid hQ.symm
  have HQE : Hid (resM cs lit = canM Q ∧ Q = resG lit cs) := Lib.hid (by rw [← hQ]; exact ⟨rfl, rfl⟩)
  obtain ⟨M, hM⟩ : ∃ M, IntKind.i64.wrap (-lit) = M := ⟨_, rfl⟩
  have HM : Hid (∀ c, rstM lit c = c.filter fun n => decide (n ≠ M)) := Lib.hid (by intro c; rw [← hM]; rfl)
  clear hx hll hinfo hinfo1 hl hB hQ hi
  go_enter Tryz.func16, Tryz.ntmps16
  go_wp2
  go_loopg [5, 13] n (fun gg u5 u13 wx => ∃ (k : Nat) (ov : Value) (ps : List (Value × List Int)), k + gg = n ∧ u13 = .int .i64 k ∧ u5 = ov ∧ Hid (Below B w wx) ∧ Hid (B ≤ wx.heap.size) ∧ Hid (Out B wx ov ps) ∧ ps.length ≤ k ∧ Hid (Q = ps.map Prod.snd ++ resG lit (cs.drop k)))
  case atStart => exact ⟨0, _, [], by omega, rfl, rfl, HB0, HS0, HO0, by simp, HQ0⟩
  case round =>
  clear HB0 HS0 HO0 HQ0
  obtain ⟨k, ov, ps, hkg, rfl, rfl, HB, HSZ, HO, hpk, HQ⟩ := hrel
  obtain ⟨oa, oc, hov⟩ := own_form HO.out.1
  obtain ⟨pn, hpn⟩ : ∃ m, ps.length = m := ⟨_, rfl⟩
  rw [hpn] at hov hpk
  subst hov
  have HPN := Lib.hid hpn
  clear hpn
  by_cases hk : k < n
  case neg =>
    have hd : decide (k < n) = false := decide_eq_false hk
    have HQF : Hid (Q = ps.map Prod.snd) := Lib.hid (by
      rw [HQ.out, List.drop_eq_nil_of_le (by have := HN.out; omega)]
      exact List.append_nil _)
    have hlq : ∀ c ∈ Q, c.length ≤ 16777216 := fun c hc => by
      rw [HQE.out.2] at hc
      obtain ⟨d, hd1, _, rfl⟩ := resG_mem lit cs c hc
      exact Nat.le_trans (rstM_len lit d) (HLL.out d hd1)
    have hcl := HO.out.clss (by have := HPN.out; omega)
    rw [← HQF.out] at hcl
    have HSO := Lib.hid (canonical_any _ _ Q wr hcl (by rw [HQF.out, List.length_map]; have := HPN.out; omega) hlq)
    clear HQ hlq hcl
    go_wp2_with fail
    refine HSO.out.mono ?_
    rintro e w3 ⟨v3, rfl, hc3, hb3⟩
    have HF : Hid (ResPost w cs lit (.returned v3) w3) := Lib.hid ⟨v3, rfl, by rw [HQE.out.1]; exact Rows1.mono (fun _ _ _ _ _ h hg => h.mono hg) hc3 fun b hb => show w.heap.size ≤ b from Nat.le_trans (by have := HSZ.out; have := HBE.out; omega) hb, by rw [HBE.out]; exact HB.out.trans (hb3.mono HSZ.out)⟩
    obtain ⟨a3, n3, c3, rfl, _, _⟩ := hc3.form'
    clear hc3 hb3 HSO
    go_wp2_with fail
    go_ret
    exact HF.out
  obtain ⟨x, hxx, ex⟩ := drop_at (xs := cs) (k := k) (by have := HN.out; omega)
  have hcw := Rows1.move (w' := wr) (fun _ _ _ _ _ h hm => h.move hm) (show Clss (fun b => b < w.heap.size) w _ cs from HX.out.lt) fun b hb _ => HB.out.block b (by rw [← HBE.out]; exact hb)
  obtain ⟨b, o, u, rfl, _, hb, hcc, hu⟩ := hcw.at hxx
  have hct := contains_any _ u x lit wr hu HIL.out
  obtain ⟨ua, un, uc, rfl, HUN, hun⟩ := hu.form'
  have HU := Lib.hid hu
  have HXL := Lib.hid (HLL.out x (List.mem_of_getElem? hxx))
  obtain ⟨C, hC⟩ : ∃ C, x.contains lit = C := ⟨_, rfl⟩
  have HQ1 : Hid (Q = ps.map Prod.snd ++ (if C = true then resG lit (cs.drop (k + 1)) else rstM lit x :: resG lit (cs.drop (k + 1)))) := Lib.hid (by
    rw [HQ.out, ex, resG, hC])
  rw [hC] at hct
  have HCT := Lib.hid hct
  clear hcw hct hu hxx ex HQ hC
  obtain ⟨GK, hGK⟩ : ∃ G, G = gk := ⟨_, rfl⟩
  subst hGK
  rcases bool2 C with rfl | rfl
  · have HF : Hid (Q = ps.map Prod.snd ++ resG lit (cs.drop (k + 1))) := Lib.hid (by rw [HQ1.out, if_pos rfl])
    clear HQ1
    go_wp2_with fail
    refine HCT.out.mono ?_
    rintro e w1 ⟨rfl, rfl⟩
    go_wp2_with fail
    go_roundg (GK - 1)
    case measure => omega
    case rel => exact ⟨k + 1, _, ps, by omega, by go_num, rfl, HB, HSZ, HO, by have := HPN.out; omega, HF⟩
  obtain ⟨T, hT⟩ : ∃ T, rstM lit x = T := ⟨_, rfl⟩
  rw [hT] at HQ1
  have HT0 : Hid (T = [] ++ (x.drop 0).filter fun n => decide (n ≠ M)) := Lib.hid (by rw [← hT, HM.out]; rfl)
  have HT64 : Hid (∀ y ∈ T, I64 y) := Lib.hid fun y hy => HU.out.2 y (by rw [← hT] at hy; exact (List.mem_filter.1 hy).1)
  have HTL : Hid (T.length ≤ 16777216) := Lib.hid (by rw [← hT]; exact Nat.le_trans (rstM_len lit x) HXL.out)
  have hszr := HSZ.out
  have hlt4 : ∀ b, wr.heap.size ≤ b → B ≤ b ∧ (Value.slice oa pn oc).ownBlock ≠ some b := fun b hb => ⟨by omega, fun e => by have := (HO.out.lt b e).2; omega⟩
  have HLT4 := Lib.hid hlt4
  clear hT hlt4
  go_wp2_with fail
  refine HCT.out.mono ?_
  rintro e w1 ⟨rfl, rfl⟩
  obtain ⟨wo, hwo⟩ : ∃ W, W = w1 := ⟨_, rfl⟩
  subst hwo
  go_wp2_with fail
  go_loopg [8, 22] un (fun gg u8 u22 wx => ∃ (j : Nat) (rv : Value) (rs : List Int), j + gg = un ∧ u22 = .int .i64 j ∧ u8 = rv ∧ Hid (Below wo.heap.size wo wx) ∧ Hid (wx.ownsRow wo.heap.size 3 1 rv rs.length (rs.map (.int .i64))) ∧ rs.length ≤ j ∧ Hid (T = rs ++ (x.drop j).filter fun n => decide (n ≠ M)))
  case atStart => exact ⟨0, _, [], by omega, rfl, rfl, Lib.hid (Below.refl _ _), Lib.hid (World.ownsRow_nil _ _ _ _), by simp, HT0⟩
  case round =>
  clear HT0
  obtain ⟨j, rv, rs, hjg, rfl, rfl, HBI, HR, hrj, HT⟩ := hrel
  obtain ⟨ra, rc, hrv⟩ := own_form HR.out
  obtain ⟨rn, hrn⟩ : ∃ m, rs.length = m := ⟨_, rfl⟩
  rw [hrn] at hrv hrj
  subst hrv
  have HRN := Lib.hid hrn
  clear hrn
  have hszi := HBI.out.size
  have hxl := HXL.out
  have hunl : un ≤ 16777216 := by rw [HUN.out]; exact hxl
  by_cases hj : j < un
  case neg =>
    have hd : decide (j < un) = false := decide_eq_false hj
    have HTF : Hid (T = rs) := Lib.hid (by
      rw [HT.out, List.drop_eq_nil_of_le (by have := HUN.out; omega)]
      exact List.append_nil _)
    have hr4 : Ints (fun b => wo.heap.size ≤ b) wr (.slice ra rn rc) T := by
      have := HR.out
      rw [← HTF.out] at this
      exact ⟨(ownsRow_sl1 this (by have := HTL.out; omega)).mono fun b hb => hb.1, HT64.out⟩
    have HR5 := Lib.hid (hr4.mono HLT4.out)
    have HO5 := Lib.hid (HO.out.below HBI.out)
    have HB5 : Hid (Below B w wr) := Lib.hid (HB.out.trans (HBI.out.mono HSZ.out))
    have HF : Hid (Q = (ps ++ [(Value.slice ra rn rc, T)]).map Prod.snd ++ resG lit (cs.drop (k + 1))) := Lib.hid (by rw [HQ1.out, if_neg (by simp), List.map_append, List.append_assoc]; rfl)
    have hown6 := HO5.out.1
    rw [HPN.out] at hown6
    clear HQ1 hr4 HT
    go_wp2_with (at_builtin; go_loud (refine wpList_push1 rfl _ _ 29 rfl 22 (.slice none 0 0) 24 Tryz.underlying29 HI.out rfl B (.slice oa pn oc) pn (ps.map Prod.fst) wr (.slice ra rn rc) rfl rfl hown6 rfl (by omega) (by omega) (by omega) ?_); intro g7 cap7 w7 hown7 hg7 hs7 hgb hgl hat; have HB7 := Lib.hid (HB5.out.grown hg7 (by omega) (fun k hk => (hown6.lt k hk).1)); have HO7 : Hid (Out B w7 (.slice (some ⟨g7, 0, none⟩) (ps.length + 1) cap7) (ps ++ [(Value.slice ra rn rc, T)])) := Lib.hid (HO5.out.push HR5.out (by rw [HPN.out]; exact hown7) hg7 hat); clear hown7 hg7 hown6)
    go_roundg (GK - 1)
    case measure => omega
    case rel => exact ⟨k + 1, _, _, by omega, by go_num, rfl, HB7, Lib.hid (by omega), by rw [HPN.out] at HO7; exact HO7, by have := HPN.out; simp; omega, HF⟩
  obtain ⟨y, hyy, ey⟩ := drop_at (xs := x) (k := j) (by have := HUN.out; omega)
  have hui := HU.out.below HBI.out
  obtain ⟨yb, yo, rfl, _, hyb, hyc, hy64⟩ := hui.at hyy
  have hdj : decide ((j : Int) < un) = true := by simp; omega
  have hdj2 : decide (j < un) = true := by simp; omega
  by_cases hyM : y = M
  · have HF : Hid (T = rs ++ (x.drop (j + 1)).filter fun n => decide (n ≠ M)) := Lib.hid (by rw [HT.out, ey, List.filter_cons, if_neg (by simp [hyM])])
    have hd3 : (y != M) = false := by simp [hyM]
    clear HT ey hyy hui hyM
    go_wp2_with fail
    go_roundg (gk - 1)
    case measure => omega
    case rel => exact ⟨j + 1, _, rs, by omega, by go_num, rfl, HBI, HR, by have := HRN.out; omega, HF⟩
  · have HF : Hid (T = (rs ++ [y]) ++ (x.drop (j + 1)).filter fun n => decide (n ≠ M)) := Lib.hid (by rw [HT.out, ey, List.filter_cons, if_pos (by simp [hyM]), List.append_assoc]; rfl)
    have hd3 : (y != M) = true := by simp [hyM]
    have hown6 := HR.out
    rw [HRN.out] at hown6
    clear HT ey hyy hui hyM
    go_wp2_with (at_builtin; go_loud (refine wpList_push1 rfl _ _ 22 rfl 3 (.int .i64 0) 8 Tryz.underlying22 HI1.out rfl wo.heap.size (.slice ra rn rc) rn (rs.map (.int .i64)) wr (.int .i64 y) rfl rfl hown6 rfl (by omega) (by omega) (by omega) ?_); intro g7 cap7 w7 hown7 hg7 hs7 hgb hgl hat; have HB7 := Lib.hid (HBI.out.grown hg7 (by omega) (fun k hk => (hown6.lt k hk).1)); have HO7 : Hid (w7.ownsRow wo.heap.size 3 1 (.slice (some ⟨g7, 0, none⟩) (rn + 1) cap7) (rs ++ [y]).length ((rs ++ [y]).map (.int .i64))) := Lib.hid (by simpa [HRN.out] using hown7); clear hown7 hg7 hown6)
    go_roundg (gk - 1)
    case measure => omega
    case rel => exact ⟨j + 1, _, rs ++ [y], by omega, by go_num, rfl, HB7, HO7, by have := HRN.out; simp; omega, HF⟩
end Go.Proofs.YteadlkecngfcoaaGreat
