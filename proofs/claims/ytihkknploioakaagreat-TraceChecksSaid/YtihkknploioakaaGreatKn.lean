/- Walk: cnf.Canonical. No condition but the lengths. -/
import Derived.Test.YtihkknploioakaaGreatKj
namespace Go.Proofs.YtihkknploioakaaGreat
open Go.ChangeShapes Go.WideShapes Go.ChangeAt Go.RowKit
set_option linter.unusedVariables false

/-- what Canonical hands back -/
def CanonPost (W : World) (cs : List (List Int)) (e : Ending) (w' : World) : Prop :=
  ∃ v, e = .returned v ∧ Clss (fun b => W.heap.size ≤ b) w' v (canM cs) ∧ Below W.heap.size W w'
/-- clauses that are not opposed, made canonical -/
def keepM (cs : List (List Int)) : List (List Int) := (cs.map claM).filter fun c => !oppM c
theorem Out.lt {B : Nat} {w : World} {v : Value} {ps : List (Value × List Int)} (h : Out B w v ps) : ∀ k, v.ownBlock = some k → B ≤ k ∧ k < w.heap.size := h.1.lt

set_option maxRecDepth 100000 in
set_option maxHeartbeats 4000000 in
theorem canonical_any (F : Nat → Prop) (v : Value) (cs : List (List Int)) (w : World) (hx : Clss F w v cs) (hl : cs.length ≤ 1048576) (hll : ∀ c ∈ cs, c.length ≤ 16777216) :
    Calls Tryz.prog 49 #[v] w (CanonPost w cs) := by
  obtain ⟨a, n, c, rfl, HN, hn⟩ := hx.form'
  have hinfo : (Tryz.prog.info? 40).map (fun i => (i.zero, i.size, i.bytes)) = some (some (.slice none 0 0), 1, 24) := by kernel_rfl
  have HI := Lib.hid hinfo
  have HX := Lib.hid hx
  have HLL := Lib.hid hll
  have hn2 : n ≤ 1048576 := by rw [HN.out]; exact hl
  obtain ⟨B, hB⟩ : ∃ B, w.heap.size = B := ⟨_, rfl⟩
  have HBE := Lib.hid hB
  have HB0 : Hid (Below B w w) := Lib.hid (Below.refl _ _)
  have HO0 : Hid (Out B w (.slice none 0 0) []) := Lib.hid (Out.nil _ _)
  have HS0 : Hid (B ≤ w.heap.size) := Lib.hid (by omega)
  obtain ⟨Q, hQ⟩ : ∃ Q, keepM cs = Q := ⟨_, rfl⟩
  have HQ0 : Hid (Q = keepM (cs.drop 0)) := Lib.hid hQ.symm
  have HQE : Hid (canM cs = cptM (srtC clsC Q)) := Lib.hid (by rw [← hQ]; rfl)
  clear hx hll hinfo hl hB hQ
  go_enter Tryz.func49, Tryz.ntmps49
  go_wp2
  go_loopg [3, 8] n (fun gg u3 u8 wx => ∃ (k : Nat) (ov : Value) (ps : List (Value × List Int)), k + gg = n ∧ u8 = .int .i64 k ∧ u3 = ov ∧ Hid (Below B w wx) ∧ Hid (B ≤ wx.heap.size) ∧ Hid (Out B wx ov ps) ∧ ps.length ≤ k ∧ Hid (Q = ps.map Prod.snd ++ keepM (cs.drop k)))
  case atStart => exact ⟨0, _, [], by omega, rfl, rfl, HB0, HS0, HO0, by simp, HQ0⟩
  case round =>
  clear HB0 HS0 HO0 HQ0
  obtain ⟨k, ov, ps, hkg, rfl, rfl, HB, HSZ, HO, hpk, HQ⟩ := hrel
  obtain ⟨oa, oc, hov⟩ := own_form HO.out.1
  obtain ⟨pn, hpn⟩ : ∃ m, ps.length = m := ⟨_, rfl⟩
  rw [hpn] at hov hpk
  subst hov
  have HPN := Lib.hid hpn
  clear hpn
  by_cases hk : k < n
  case neg =>
    have hd : decide (k < n) = false := decide_eq_false hk
    have HQF : Hid (Q = ps.map Prod.snd) := Lib.hid (by
      rw [HQ.out, List.drop_eq_nil_of_le (by have := HN.out; omega)]
      exact List.append_nil _)
    have HSO := Lib.hid (sorted_any wr B (.slice oa pn oc) ps HO.out.1 (fun p hp => (HO.out.2 p hp).mono fun _ h => h.2) (by have := HPN.out; omega))
    clear HQ
    go_wp2_with fail
    refine HSO.out.mono ?_
    rintro e w3 ⟨v3, qs, rfl, ho3, hq3, hm3, hb3, hg3⟩
    have HF : Hid (CanonPost w cs (.returned v3) w3) := Lib.hid (by
      have hbel : Below B w w3 := HB.out.grown hg3 HSZ.out fun k hk => (HO.out.lt k hk).1
      refine ⟨v3, rfl, ?_, by rw [HBE.out]; exact hbel⟩
      rw [HBE.out, HQE.out, HQF.out, ← hq3]
      have hlq : qs.length ≤ 9223372036854775807 := by
        have h1 := congrArg List.length hq3
        rw [List.length_map] at h1
        have h2 := cptG_len none (srtC clsC (ps.map Prod.snd))
        rw [(srtC_perm clsC _).length_eq, List.length_map] at h2
        have h3 := HPN.out
        unfold cptM at h1
        omega
      refine ⟨qs.map Prod.fst, (ownsRow_sl1 ho3 hlq).mono fun b hb => hb.1, by simp, fun j u c hu hc => ?_⟩
      rw [List.getElem?_map] at hu hc
      rcases hj : qs[j]? with _ | q
      · rw [hj] at hu; cases hu
      · rw [hj] at hu hc
        injection hu with hu
        injection hc with hc
        subst hu hc
        exact ((HO.out.2 q (hm3 q (List.mem_of_getElem? hj))).lt.move fun k hk _ => hg3.block k hk.2 fun e => hk.1.2 e.symm).mono fun b hb => hb.1.1)
    obtain ⟨a3, c3, rfl⟩ := own_form ho3
    clear ho3 hq3 hm3 hb3 hg3 HSO
    go_wp2_with fail
    go_ret
    exact HF.out
  obtain ⟨x, hxx, ex⟩ := drop_at (xs := cs) (k := k) (by have := HN.out; omega)
  have hcw := Rows1.move (w' := wr) (fun _ _ _ _ _ h hm => h.move hm) (show Clss (fun b => b < w.heap.size) w _ cs from HX.out.lt) fun b hb _ => HB.out.block b (by rw [← HBE.out]; exact hb)
  obtain ⟨b, o, u, rfl, _, hb, hcc, hu⟩ := hcw.at hxx
  have hck := clause_any _ u x wr hu (HLL.out x (List.mem_of_getElem? hxx))
  obtain ⟨ua, un, uc, rfl, _, _⟩ := hu.form'
  have HCK := Lib.hid hck
  have H64 : Hid (∀ y ∈ claM x, I64 y) := Lib.hid fun y hy => hu.2 y (claM_mem hy)
  have HLX : Hid ((claM x).length ≤ 16777216) := Lib.hid (Nat.le_trans (claM_len x) (HLL.out x (List.mem_of_getElem? hxx)))
  have HQ1 : Hid (Q = ps.map Prod.snd ++ (if oppM (claM x) = true then keepM (cs.drop (k + 1)) else claM x :: keepM (cs.drop (k + 1)))) := Lib.hid (by
    rw [HQ.out, ex, keepM, List.map_cons, List.filter_cons]
    rcases h : oppM (claM x) with _ | _
    · rw [if_pos (by simp), if_neg (by simp)]; rfl
    · rw [if_neg (by simp), if_pos rfl]; rfl)
  clear hcw hck hu hxx ex HQ
  go_wp2_with fail
  refine HCK.out.mono ?_
  rintro e w4 ⟨v4, rfl, ho4, hb4⟩
  obtain ⟨a4, c4, rfl⟩ := own_form ho4
  obtain ⟨n4, hn4⟩ : ∃ m, (claM x).length = m := ⟨_, rfl⟩
  have hr4 : Ints (fun b => wr.heap.size ≤ b) w4 (.slice a4 (claM x).length c4) (claM x) := ⟨(ownsRow_sl1 ho4 (by have := HLX.out; omega)).mono fun b hb => hb.1, H64.out⟩
  rw [hn4] at hr4 ⊢
  have HR4 := Lib.hid hr4
  have hsz4 := hb4.size
  have hszr := HSZ.out
  have HB4 := Lib.hid (HB.out.trans (hb4.mono HSZ.out))
  have HO4 := Lib.hid (HO.out.below hb4)
  have hop := fun W (h : Below w4.heap.size w4 W) => opposed_any (fun b => wr.heap.size ≤ b) (.slice a4 n4 c4) (claM x) W (HR4.out.below h)
  have hop0 := opposed_any (fun b => wr.heap.size ≤ b) (.slice a4 n4 c4) (claM x) w4 HR4.out
  obtain ⟨O, hO⟩ : ∃ b, oppM (claM x) = b := ⟨_, rfl⟩
  rw [hO] at HQ1 hop hop0
  have HOP := Lib.hid hop0
  have hlt4 : ∀ b, wr.heap.size ≤ b → B ≤ b ∧ (Value.slice oa pn oc).ownBlock ≠ some b := fun b hb => ⟨by omega, fun e => by have := (HO.out.lt b e).2; omega⟩
  have HLT4 := Lib.hid hlt4
  clear ho4 hb4 hr4 hop hop0 hO hn4 hlt4 HO HB HCK HLX H64 HSZ
  go_wp2_with fail
  refine HOP.out.mono ?_
  rintro e w5 ⟨rfl, nq, rfl⟩
  have HB5 := Lib.hid (below_drewN HB4.out nq)
  have HO5 : Hid (Out B (w4.drewN nq) (.slice oa pn oc) ps) := Lib.hid (HO4.out.below (below_drewN (Below.refl _ _) nq))
  have HR5 := Lib.hid ((HR4.out.drewN nq).mono HLT4.out)
  obtain ⟨w6, hw6⟩ : ∃ W, W = w4.drewN nq := ⟨_, rfl⟩
  have hs6 : w4.heap.size = w6.heap.size := by rw [hw6]; rfl
  rw [← hw6] at HB5 HO5 HR5 ⊢
  clear hw6 HB4 HO4 HR4 HOP
  rcases bool2 O with rfl | rfl
  · have HF : Hid (Q = ps.map Prod.snd ++ keepM (cs.drop (k + 1))) := Lib.hid (by rw [HQ1.out, if_pos rfl])
    clear HQ1
    go_wp2_with fail
    go_roundg (gk - 1)
    case measure => omega
    case rel => exact ⟨k + 1, _, ps, by omega, by go_num, rfl, HB5, Lib.hid (by omega), HO5, by have := HPN.out; omega, HF⟩
  have HF : Hid (Q = (ps ++ [(Value.slice a4 n4 c4, claM x)]).map Prod.snd ++ keepM (cs.drop (k + 1))) := Lib.hid (by rw [HQ1.out, if_neg (by simp), List.map_append, List.append_assoc]; rfl)
  have hown6 := HO5.out.1
  rw [HPN.out] at hown6
  clear HQ1
  go_wp2_with (at_builtin; go_loud (refine wpList_push1 rfl _ _ 30 rfl 40 (.slice none 0 0) 24 Tryz.underlying30 HI.out rfl B (.slice oa pn oc) pn (ps.map Prod.fst) w6 (.slice a4 n4 c4) rfl rfl hown6 rfl (by omega) (by omega) (by omega) ?_); intro g7 cap7 w7 hown7 hg7 hs7 hgb hgl hat; have HB7 := Lib.hid (HB5.out.grown hg7 (by omega) (fun k hk => (hown6.lt k hk).1)); have HO7 : Hid (Out B w7 (.slice (some ⟨g7, 0, none⟩) (ps.length + 1) cap7) (ps ++ [(Value.slice a4 n4 c4, claM x)])) := Lib.hid (HO5.out.push HR5.out (by rw [HPN.out]; exact hown7) hg7 hat); clear hown7 hg7 hown6)
  go_roundg (gk - 1)
  case measure => omega
  case rel => exact ⟨k + 1, _, _, by omega, by go_num, rfl, HB7, Lib.hid (by omega), by rw [HPN.out] at HO7; exact HO7, by have := HPN.out; simp; omega, HF⟩
end Go.Proofs.YtihkknploioakaaGreat
