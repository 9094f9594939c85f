/- Walk: the statement's Canonical. No condition but the lengths. -/
import Derived.Test.YtihkknploioakaaGreatKi
import Derived.Test.YtihkknploioakaaGreatKn
namespace Go.Proofs.YtihkknploioakaaGreat
open Go.ChangeShapes Go.WideShapes Go.ChangeAt Go.RowKit
set_option linter.unusedVariables false

set_option maxRecDepth 100000 in
set_option maxHeartbeats 4000000 in
theorem lcanonical_any (F : Nat → Prop) (v : Value) (cs : List (List Int)) (w : World) (hx : Clss F w v cs) (hl : cs.length ≤ 1048576) (hll : ∀ c ∈ cs, c.length ≤ 16777216) :
    Calls Tryz.prog 36 #[v] w (CanonPost w cs) := by
  obtain ⟨a, n, c, rfl, HN, hn⟩ := hx.form'
  have hinfo : (Tryz.prog.info? 40).map (fun i => (i.zero, i.size, i.bytes)) = some (some (.slice none 0 0), 1, 24) := by kernel_rfl
  have HI := Lib.hid hinfo
  have HX := Lib.hid hx
  have HLL := Lib.hid hll
  have hn2 : n ≤ 1048576 := by rw [HN.out]; exact hl
  obtain ⟨B, hB⟩ : ∃ B, w.heap.size = B := ⟨_, rfl⟩
  have HBE := Lib.hid hB
  have HB0 : Hid (Below B w (w.alloc (.cells #[] 40))) := Lib.hid ((Below.refl _ _).alloc (by omega) _)
  have HO0 : Hid (Out B (w.alloc (.cells #[] 40)) (.slice (some ⟨w.heap.size, 0, none⟩) 0 0) []) := Lib.hid ⟨by simpa using own_new (base := B) (w := w) #[] 40 (by omega) (by simp), by simp⟩
  have HS0 : Hid (B ≤ (w.alloc (.cells #[] 40)).heap.size) := Lib.hid (by simp; omega)
  obtain ⟨Q, hQ⟩ : ∃ Q, keepM cs = Q := ⟨_, rfl⟩
  have HQ0 : Hid (Q = keepM (cs.drop 0)) := Lib.hid hQ.symm
  have HQE : Hid (canM cs = cptM (srtC clsC Q)) := Lib.hid (by rw [← hQ]; rfl)
  clear hx hll hinfo hl hB hQ
  go_enter Tryz.func36, Tryz.ntmps36
  go_wp2
  go_loopg [3, 12] n (fun gg u3 u12 wx => ∃ (k : Nat) (ov : Value) (ps : List (Value × List Int)), k + gg = n ∧ u12 = .int .i64 k ∧ u3 = ov ∧ Hid (Below B w wx) ∧ Hid (B ≤ wx.heap.size) ∧ Hid (Out B wx ov ps) ∧ ps.length ≤ k ∧ Hid (Q = ps.map Prod.snd ++ keepM (cs.drop k)))
  case atStart => exact ⟨0, _, [], by omega, rfl, rfl, HB0, HS0, HO0, by simp, HQ0⟩
  case round =>
  clear HB0 HS0 HO0 HQ0
  obtain ⟨k, ov, ps, hkg, rfl, rfl, HB, HSZ, HO, hpk, HQ⟩ := hrel
  obtain ⟨oa, oc, hov⟩ := own_form HO.out.1
  obtain ⟨pn, hpn⟩ : ∃ m, ps.length = m := ⟨_, rfl⟩
  rw [hpn] at hov hpk
  subst hov
  have HPN := Lib.hid hpn
  clear hpn
  by_cases hk : k < n
  case neg =>
    have hd : decide (k < n) = false := decide_eq_false hk
    have HQF : Hid (Q = ps.map Prod.snd) := Lib.hid (by
      rw [HQ.out, List.drop_eq_nil_of_le (by have := HN.out; omega)]
      exact List.append_nil _)
    have HSO := Lib.hid (lsortcls_own wr B (.slice oa pn oc) ps HO.out.1 (fun p hp => (HO.out.2 p hp).mono fun _ h => h.2) (by have := HPN.out; omega))
    clear HQ
    go_wp2_with fail
    refine HSO.out.mono ?_
    rintro e w2 ⟨rfl, qs0, hp0, hq0, ho0, hg0⟩
    have hlen0 : qs0.length = ps.length := hp0.length_eq
    have HC := Lib.hid (lcompactf_any w2 B (.slice oa pn oc) qs0 (by rw [hlen0]; exact ho0) (fun p hp' => ((HO.out.2 p (hp0.subset hp')).lt.move fun k hk _ => hg0.block k hk.2 fun e => hk.1.2 e.symm).mono fun _ h => h.1.2) (by have := HPN.out; omega))
    have HG0 := Lib.hid hg0
    have HQ0 : Hid ((cptP none qs0).map Prod.snd = cptM (srtC clsC (ps.map Prod.snd)) ∧ ∀ q ∈ cptP none qs0, q ∈ ps) := Lib.hid ⟨by rw [cptP_snd, hq0]; rfl, fun q hq' => hp0.subset (cptP_mem _ _ q hq')⟩
    clear ho0 hg0 hp0 hq0 hlen0 HSO
    go_wp2_with fail
    refine HC.out.mono ?_
    rintro e w3 ⟨v3, rfl, ho3, hb3, hg3'⟩
    have hg3 := grown_trans HG0.out hg3'
    obtain ⟨qs, hqs⟩ : ∃ q, cptP none qs0 = q := ⟨_, rfl⟩
    have hqq := HQ0.out
    rw [hqs] at ho3 hqq
    obtain ⟨hq3, hm3⟩ := hqq
    have HF : Hid (CanonPost w cs (.returned v3) w3) := Lib.hid (by
      have hbel : Below B w w3 := HB.out.grown hg3 HSZ.out fun k hk => (HO.out.lt k hk).1
      refine ⟨v3, rfl, ?_, by rw [HBE.out]; exact hbel⟩
      rw [HBE.out, HQE.out, HQF.out, ← hq3]
      have hlq : qs.length ≤ 9223372036854775807 := by
        have h1 := congrArg List.length hq3
        rw [List.length_map] at h1
        have h2 := cptG_len none (srtC clsC (ps.map Prod.snd))
        rw [(srtC_perm clsC _).length_eq, List.length_map] at h2
        have h3 := HPN.out
        unfold cptM at h1
        omega
      refine ⟨qs.map Prod.fst, (ownsRow_sl1 ho3 hlq).mono fun b hb => hb.1, by simp, fun j u c hu hc => ?_⟩
      rw [List.getElem?_map] at hu hc
      rcases hj : qs[j]? with _ | q
      · rw [hj] at hu; cases hu
      · rw [hj] at hu hc
        injection hu with hu
        injection hc with hc
        subst hu hc
        exact ((HO.out.2 q (hm3 q (List.mem_of_getElem? hj))).lt.move fun k hk _ => hg3.block k hk.2 fun e => hk.1.2 e.symm).mono fun b hb => hb.1.1)
    obtain ⟨a3, c3, rfl⟩ := own_form ho3
    clear ho3 hq3 hm3 hb3 hg3 hg3' HC HG0 HQ0
    go_wp2_with fail
    go_ret
    exact HF.out
  obtain ⟨x, hxx, ex⟩ := drop_at (xs := cs) (k := k) (by have := HN.out; omega)
  have hcw := Rows1.move (w' := wr) (fun _ _ _ _ _ h hm => h.move hm) (show Clss (fun b => b < w.heap.size) w _ cs from HX.out.lt) fun b hb _ => HB.out.block b (by rw [← HBE.out]; exact hb)
  obtain ⟨b, o, u, rfl, _, hb, hcc, hu⟩ := hcw.at hxx
  have hck := clone_own _ u x wr hu (HLL.out x (List.mem_of_getElem? hxx))
  obtain ⟨ua, un, uc, rfl, _, _⟩ := hu.form'
  have HCK := Lib.hid hck
  have HX64 := Lib.hid hu.2
  have HXL := Lib.hid (HLL.out x (List.mem_of_getElem? hxx))
  have H64 : Hid (∀ y ∈ claM x, I64 y) := Lib.hid fun y hy => hu.2 y (claM_mem hy)
  have HLX : Hid ((claM x).length ≤ 16777216) := Lib.hid (Nat.le_trans (claM_len x) (HLL.out x (List.mem_of_getElem? hxx)))
  have HQ1 : Hid (Q = ps.map Prod.snd ++ (if oppM (claM x) = true then keepM (cs.drop (k + 1)) else claM x :: keepM (cs.drop (k + 1)))) := Lib.hid (by
    rw [HQ.out, ex, keepM, List.map_cons, List.filter_cons]
    rcases h : oppM (claM x) with _ | _
    · rw [if_pos (by simp), if_neg (by simp)]; rfl
    · rw [if_neg (by simp), if_pos rfl]; rfl)
  clear hcw hck hu hxx ex HQ
  go_wp2_with fail
  refine HCK.out.mono ?_
  rintro e w1 ⟨v1, rfl, ho1, hb1⟩
  have HS1 := Lib.hid (lsortlit_own w1 _ _ v1 x ho1 HX64.out HXL.out)
  have HBa := Lib.hid hb1
  have hlt1 := ho1.lt
  obtain ⟨a1, c1, rfl⟩ := own_form ho1
  clear ho1 hb1 HCK
  go_wp2_with fail
  refine HS1.out.mono ?_
  rintro e w2 ⟨rfl, ho2, hg2⟩
  have HBb := Lib.hid (HBa.out.grown hg2 HBa.out.size fun k hk => (hlt1 k hk).1)
  have hlen : (srtC litC x).length = x.length := (srtC_perm litC x).length_eq
  have HC1 := Lib.hid (compact_own w2 _ _ _ (srtC litC x) ho2 (by have := HXL.out; omega))
  have hlt2 := ho2.lt
  clear ho2 hg2 HS1 HBa
  go_wp2_with fail
  refine HC1.out.mono ?_
  rintro e w4 ⟨v4, rfl, ho4', _, hg4⟩
  have hb4 := HBb.out.grown hg4 HBb.out.size fun k hk => (hlt2 k hk).1
  have ho4 : w4.ownsRow wr.heap.size 3 1 v4 (claM x).length ((claM x).map (.int .i64)) := by
    rw [List.length_map] at ho4'; exact ho4'
  clear ho4' hg4 HC1 HBb hlt1 hlt2 hlen
  obtain ⟨a4, c4, rfl⟩ := own_form ho4
  obtain ⟨n4, hn4⟩ : ∃ m, (claM x).length = m := ⟨_, rfl⟩
  have hr4 : Ints (fun b => wr.heap.size ≤ b) w4 (.slice a4 (claM x).length c4) (claM x) := ⟨(ownsRow_sl1 ho4 (by have := HLX.out; omega)).mono fun b hb => hb.1, H64.out⟩
  rw [hn4] at hr4 ⊢
  have HN4 := Lib.hid hn4
  have HR4 := Lib.hid hr4
  have hn4b : n4 ≤ 16777216 := by have := HLX.out; omega
  have hsz4 := hb4.size
  have hszr := HSZ.out
  have HB4 := Lib.hid (HB.out.trans (hb4.mono HSZ.out))
  have HO4 := Lib.hid (HO.out.below hb4)
  obtain ⟨O, hO⟩ : ∃ b, oppM (claM x) = b := ⟨_, rfl⟩
  rw [hO] at HQ1
  have HOO : Hid (O = (false || oppM ((claM x).drop (0 - 1)))) := Lib.hid (by rw [← hO]; rfl)
  have hlt4 : ∀ b, wr.heap.size ≤ b → B ≤ b ∧ (Value.slice oa pn oc).ownBlock ≠ some b := fun b hb => ⟨by omega, fun e => by have := (HO.out.lt b e).2; omega⟩
  have HLT4 := Lib.hid hlt4
  obtain ⟨GK, hGK⟩ : ∃ G, G = gk := ⟨_, rfl⟩
  subst hGK
  clear ho4 hb4 hr4 hO hn4 hlt4 HO HB HLX H64 HSZ
  go_wp2_with fail
  go_loopg [7, 24] n4 (fun gg u7 u24 wx => ∃ (i nq : Nat) (db : Bool), i + gg = n4 ∧ u24 = .int .i64 i ∧ u7 = .bool db ∧ wx = w4.drewN nq ∧ Hid (O = (db || oppM ((claM x).drop (i - 1)))))
  case atStart => exact ⟨0, 0, false, by omega, rfl, rfl, rfl, HOO⟩
  case round =>
  clear HOO
  obtain ⟨i, nq, db, hig, rfl, rfl, rfl, hinv⟩ := hrel
  by_cases hi : i < n4
  case neg =>
    have HFO : Hid (O = db) := Lib.hid (by rw [hinv.out, oppM_end (by have := HN4.out; omega), Bool.or_false])
    have hd : decide (i < n4) = false := decide_eq_false hi
    clear hinv
    obtain rfl := HFO.out
    clear HFO
    have HB5 := Lib.hid (below_drewN HB4.out nq)
    have HO5 : Hid (Out B (w4.drewN nq) (.slice oa pn oc) ps) := Lib.hid (HO4.out.below (below_drewN (Below.refl _ _) nq))
    have HR5 := Lib.hid ((HR4.out.drewN nq).mono HLT4.out)
    obtain ⟨w6, hw6⟩ : ∃ W, W = w4.drewN nq := ⟨_, rfl⟩
    have hs6 : w4.heap.size = w6.heap.size := by rw [hw6]; rfl
    rw [← hw6] at HB5 HO5 HR5 ⊢
    clear hw6 HB4 HO4 HR4
    rcases bool2 O with rfl | rfl
    · have HF : Hid (Q = ps.map Prod.snd ++ keepM (cs.drop (k + 1))) := Lib.hid (by rw [HQ1.out, if_pos rfl])
      clear HQ1
      go_wp2_with fail
      go_roundg (GK - 1)
      case measure => omega
      case rel => exact ⟨k + 1, _, ps, by omega, by go_num, rfl, HB5, Lib.hid (by omega), HO5, by have := HPN.out; omega, HF⟩
    have HF : Hid (Q = (ps ++ [(Value.slice a4 n4 c4, claM x)]).map Prod.snd ++ keepM (cs.drop (k + 1))) := Lib.hid (by rw [HQ1.out, if_neg (by simp), List.map_append, List.append_assoc]; rfl)
    have hown6 := HO5.out.1
    rw [HPN.out] at hown6
    clear HQ1
    go_wp2_with (at_builtin; go_loud (refine wpList_push1 rfl _ _ 30 rfl 40 (.slice none 0 0) 24 Tryz.underlying30 HI.out rfl B (.slice oa pn oc) pn (ps.map Prod.fst) w6 (.slice a4 n4 c4) rfl rfl hown6 rfl (by omega) (by omega) (by omega) ?_); intro g7 cap7 w7 hown7 hg7 hs7 hgb hgl hat; have HB7 := Lib.hid (HB5.out.grown hg7 (by omega) (fun k hk => (hown6.lt k hk).1)); have HO7 : Hid (Out B w7 (.slice (some ⟨g7, 0, none⟩) (ps.length + 1) cap7) (ps ++ [(Value.slice a4 n4 c4, claM x)])) := Lib.hid (HO5.out.push HR5.out (by rw [HPN.out]; exact hown7) hg7 hat); clear hown7 hg7 hown6)
    go_roundg (GK - 1)
    case measure => omega
    case rel => exact ⟨k + 1, _, _, by omega, by go_num, rfl, HB7, Lib.hid (by omega), by rw [HPN.out] at HO7; exact HO7, by have := HPN.out; simp; omega, HF⟩
  have hdi : decide ((i : Int) < n4) = true := by simp; omega
  have hdi2 : decide (i < n4) = true := by simp; omega
  rcases bool2 db with rfl | rfl
  · have HF : Hid (O = (true || oppM ((claM x).drop (i + 1 - 1)))) := Lib.hid (by rw [hinv.out, Bool.true_or, Bool.true_or])
    clear hinv
    go_upto_region 12 with fail
    go_quiet (fail)
    go_wp2
    go_roundg (gk - 1)
    case measure => omega
    case rel => exact ⟨i + 1, _, true, by omega, by go_num, rfl, rfl, HF⟩
  rcases Nat.eq_zero_or_pos i with rfl | hip
  · have HF : Hid (O = (false || oppM ((claM x).drop (0 + 1 - 1)))) := Lib.hid hinv.out
    have hd0 : decide ((0 : Int) < ((0 : Nat) : Int)) = false := by simp
    clear hinv
    go_upto_region 12 with fail
    go_quiet (fail)
    go_wp2
    go_roundg (gk - 1)
    case measure => omega
    case rel => exact ⟨1, _, false, by omega, by go_num, rfl, rfl, HF⟩
  obtain ⟨m, hm⟩ : ∃ m, m + 1 = i := ⟨i - 1, by omega⟩
  obtain ⟨p, hpx⟩ : ∃ y, (claM x)[m]? = some y := ⟨_, List.getElem?_eq_getElem (by have := HN4.out; omega)⟩
  obtain ⟨q, hqx⟩ : ∃ y, (claM x)[m + 1]? = some y := ⟨_, List.getElem?_eq_getElem (by have := HN4.out; omega)⟩
  have HE : Hid (O = ((decide (q ≠ 0) && decide (q = -p) && decide (q ≠ p)) || oppM ((claM x).drop (i + 1 - 1)))) := Lib.hid (by rw [hinv.out, Bool.false_or, show i - 1 = m by omega, oppM_cons hpx hqx, hm, Nat.add_sub_cancel])
  have hxs := HR4.out
  obtain ⟨xb, xo, rfl, _, hxb, hxc, hx0⟩ := hxs.at hpx
  obtain ⟨yb, yo, hyo, _, hyb, hyc, hy0⟩ := hxs.at hqx
  injection hyo with hyo
  injection hyo with h1 h2
  subst h1 h2
  rw [hm] at hyc
  obtain ⟨pm, hpm⟩ : ∃ z, IntKind.i64.wrap (-p) = z := ⟨_, rfl⟩
  have hopp : (q = -p ∧ q ≠ p) ↔ (q = pm ∧ q ≠ p) := by rw [← hpm]; exact opp_wrap hx0 hy0
  have hw1 : IntKind.i64.wrap ((i : Int) - 1) = (m : Int) := by rw [IntWalk.i64_in _ ⟨by omega, by omega⟩]; omega
  have hw2 : ((i : Int) - 1) = (m : Int) := by omega
  have hw3 : IntKind.i64.wrap (m : Int) = (m : Int) := IntWalk.i64_in _ ⟨by omega, by omega⟩
  have hd0 : decide ((0 : Int) < (i : Int)) = true := by simp; omega
  have hi0 : (0 : Int) ≤ i := by omega
  have hm0 : (0 : Int) ≤ m := by omega
  have hm1 : (m : Int) < n4 := by omega
  have hi1 : (i : Int) < n4 := by omega
  have hm3 : m < n4 := by omega
  have HMI := Lib.hid hm
  by_cases e1 : q = p
  · have HF : Hid (O = (false || oppM ((claM x).drop (i + 1 - 1)))) := Lib.hid (by rw [HE.out, decide_eq_false (p := q ≠ p) (by simp [e1])]; simp)
    have hd1 : (p != q) = false := by simp [e1]
    clear hinv hpx hqx HE hxs e1 hm hopp
    go_upto_region 12 with fail
    go_quiet (fail)
    go_wp2
    go_roundg (gk - 1)
    case measure => omega
    case rel => exact ⟨i + 1, _, false, by omega, by go_num, rfl, rfl, HF⟩
  have hd1 : (p != q) = true := by simp; exact fun e => e1 e.symm
  by_cases e2 : q = pm
  · have hd2 : (q == pm) = true := by simp [e2]
    by_cases e3 : q = 0
    · have HF : Hid (O = (false || oppM ((claM x).drop (i + 1 - 1)))) := Lib.hid (by rw [HE.out, decide_eq_false (p := q ≠ 0) (by omega)]; simp)
      have hd3 : (q != 0) = false := by simp [e3]
      clear hinv hpx hqx HE hxs e1 e2 e3 hm hopp
      go_upto_region 12 with fail
      go_quiet (fail)
      go_wp2
      go_roundg (gk - 1)
      case measure => omega
      case rel => exact ⟨i + 1, _, false, by omega, by go_num, rfl, rfl, HF⟩
    · have HF : Hid (O = (true || oppM ((claM x).drop (i + 1 - 1)))) := Lib.hid (by rw [HE.out, decide_eq_true e3, decide_eq_true (hopp.2 ⟨e2, e1⟩).1, decide_eq_true e1]; simp)
      have hd3 : (q != 0) = true := by simp [e3]
      clear hinv hpx hqx HE hxs e1 e2 e3 hm hopp
      go_upto_region 12 with fail
      go_quiet (fail)
      go_wp2
      go_roundg (gk - 1)
      case measure => omega
      case rel => exact ⟨i + 1, _, true, by omega, by go_num, rfl, rfl, HF⟩
  · have HF : Hid (O = (false || oppM ((claM x).drop (i + 1 - 1)))) := Lib.hid (by
      rw [HE.out, decide_eq_true (p := q ≠ p) e1, decide_eq_false (p := q = -p) (fun h3 => e2 (hopp.1 ⟨h3, e1⟩).1)]; simp)
    have hd2 : (q == pm) = false := by simp [e2]
    clear hinv hpx hqx HE hxs e1 e2 hm hopp
    go_upto_region 12 with fail
    go_quiet (fail)
    go_wp2
    go_roundg (gk - 1)
    case measure => omega
    case rel => exact ⟨i + 1, _, false, by omega, by go_num, rfl, rfl, HF⟩
end Go.Proofs.YtihkknploioakaaGreat
