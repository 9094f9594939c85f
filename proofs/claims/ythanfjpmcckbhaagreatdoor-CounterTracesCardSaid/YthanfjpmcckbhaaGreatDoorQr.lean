/- Walk: the statement's Occur. No condition but the lengths (to 4000). -/
import Derived.Test.YthanfjpmcckbhaaGreatDoorKh
import Derived.Test.YthanfjpmcckbhaaGreatDoorQ8
import Derived.Test.YthanfjpmcckbhaaGreatDoorKg
import Derived.Test.YthanfjpmcckbhaaGreatDoorVz
import Derived.Test.YthanfjpmcckbhaaGreatDoorKu
import Derived.Test.YthanfjpmcckbhaaGreatDoorNc
import Derived.Test.YthanfjpmcckbhaaGreatDoorVp
import Derived.Deep.RegionHeld3
namespace Go.Proofs.YthanfjpmcckbhaaGreatDoor
open Go.ChangeShapes Go.WideShapes Go.ChangeAt Go.RowKit
set_option linter.unusedVariables false

set_option maxRecDepth 100000 in
set_option maxHeartbeats 4000000 in
theorem loccur_any (F : Nat → Prop) (v : Value) (cs : List (List Int)) (w : World) (hx : Clss F w v cs) (hl : cs.length ≤ 4000) (hll : ∀ c ∈ cs, c.length ≤ 4000) :
    Calls Tryz.prog 30 #[v] w (OccPost w cs) := by
  obtain ⟨a, n, c, rfl, HN, hn⟩ := hx.form'
  have hinfo1 : (Tryz.prog.info? 3).map (fun i => (i.zero, i.size, i.bytes)) = some (some (.int .i64 0), 1, 8) := by kernel_rfl
  have HI1 := Lib.hid hinfo1
  have HX := Lib.hid hx
  have HLL := Lib.hid hll
  have hn2 : n ≤ 4000 := by rw [HN.out]; exact hl
  have HB0 : Hid (Below w.heap.size w (w.alloc (.cells #[] 3))) := Lib.hid ((Below.refl _ _).alloc (Nat.le_refl _) _)
  have HO0 : Hid ((w.alloc (.cells #[] 3)).ownsRow w.heap.size 3 1 (.slice (some ⟨w.heap.size, 0, none⟩) 0 0) ([] : List Int).length (([] : List Int).map (.int .i64))) := Lib.hid (by simpa using own_new (base := w.heap.size) (w := w) #[] 3 (by omega) (by simp))
  have HQ0 : Hid (mags cs = [] ++ mags (cs.drop 0)) := Lib.hid rfl
  clear hx hll hinfo1 hl
  go_enter Tryz.func30, Tryz.ntmps30
  go_wp2
  go_loopg [3, 12] n (fun gg u3 u12 wx => ∃ (k : Nat) (ov : Value) (os : List Int), k + gg = n ∧ u12 = .int .i64 k ∧ u3 = ov ∧ Hid (Below w.heap.size w wx) ∧ Hid (wx.ownsRow w.heap.size 3 1 ov os.length (os.map (.int .i64))) ∧ os.length ≤ 4000 * k ∧ Hid (mags cs = os ++ mags (cs.drop k)))
  case atStart => exact ⟨0, _, [], by omega, rfl, rfl, HB0, HO0, by simp, HQ0⟩
  case round =>
  clear HB0 HO0 HQ0
  obtain ⟨k, ov, os, hkg, rfl, rfl, HB, HO, hpk, HQ⟩ := hrel
  obtain ⟨oa, oc, hov⟩ := own_form HO.out
  obtain ⟨on, hon⟩ : ∃ m, os.length = m := ⟨_, rfl⟩
  rw [hon] at hov hpk
  subst hov
  have HON := Lib.hid hon
  clear hon
  by_cases hk : k < n
  case neg =>
    have hd : decide (k < n) = false := decide_eq_false hk
    have HQF : Hid (mags cs = os) := Lib.hid (by
      rw [HQ.out, List.drop_eq_nil_of_le (by have := HN.out; omega)]
      exact List.append_nil _)
    have HSO := Lib.hid (sorto_own wr w.heap.size 3 (.slice oa on oc) os HO.out (by have := HON.out; omega))
    clear HQ
    go_wp2_with fail
    refine HSO.out.mono ?_
    rintro e w3 ⟨rfl, ts, hp, ha, ho3, hg3⟩
    have hlt := ho3.lt
    have hb3 := HB.out.grown hg3 HB.out.size fun k hk => (hlt k hk).1
    have hct := compact_own w3 w.heap.size 3 (.slice oa on oc) ts (by rw [hp.length_eq]; exact ho3) (by rw [hp.length_eq]; have := HON.out; omega)
    have HCT := Lib.hid hct
    have HB3 := Lib.hid hb3
    have HT : Hid (Strict cmpM (cptM ts) ∧ (∀ x, x ∈ cptM ts ↔ x ∈ mags cs) ∧ (cptM ts).length ≤ 9223372036854775807) := Lib.hid ⟨asc_cpt ha, fun x => by rw [cptM_in, hp.mem_iff, HQF.out], by
      have h1 := cptG_len none ts
      have h2 := hp.length_eq
      have h3 := HON.out
      unfold cptM
      omega⟩
    clear ho3 hg3 hb3 hct hlt hp ha HSO
    go_wp2_with fail
    refine HCT.out.mono ?_
    rintro e w4 ⟨v4, rfl, ho4, hob, hg4⟩
    rw [List.length_map] at ho4
    have HF : Hid (OccPost w cs (.returned v4) w4) := Lib.hid ⟨v4, cptM ts, rfl, ⟨(ownsRow_sl1 ho4 HT.out.2.2).mono fun b hb => hb.1, fun x hx => by have := mags_I64 ((HT.out.2.1 x).1 hx); unfold I64; omega⟩, HB3.out.grown hg4 HB3.out.size fun k hk => (ho4.lt k (hob.trans hk)).1, HT.out.1, HT.out.2.1⟩
    obtain ⟨a4, c4, rfl⟩ := own_form ho4
    clear ho4 hob hg4 HCT
    go_wp2_with fail
    go_ret
    exact HF.out
  obtain ⟨x, hxx, ex⟩ := drop_at (xs := cs) (k := k) (by have := HN.out; omega)
  obtain ⟨b, o, u, rfl, _, hb, hcc0, hu⟩ := HX.out.at hxx
  have hcc := below_c HB.out hb hcc0
  obtain ⟨ua, un, uc, rfl, HUN, hun⟩ := hu.form'
  have HU := Lib.hid hu.lt
  have hxl : un ≤ 4000 := by rw [HUN.out]; exact HLL.out x (List.mem_of_getElem? hxx)
  have HQ1 : Hid (mags cs = os ++ (magsC (x.drop 0) ++ mags (cs.drop (k + 1)))) := Lib.hid (by rw [HQ.out, ex]; rfl)
  have hdk : decide ((k : Int) < n) = true := by simp; omega
  have hdk' : decide (k < n) = true := decide_eq_true hk
  obtain ⟨GK, hGK⟩ : ∃ G, G = gk := ⟨_, rfl⟩
  subst hGK
  clear hu hxx ex HQ hcc0
  go_wp2_with fail
  go_loopg [3, 18] un (fun gg u3 u18 wx => ∃ (j : Nat) (ov : Value) (os : List Int), j + gg = un ∧ u18 = .int .i64 j ∧ u3 = ov ∧ Hid (Below w.heap.size w wx) ∧ Hid (wx.ownsRow w.heap.size 3 1 ov os.length (os.map (.int .i64))) ∧ os.length ≤ 4000 * k + j ∧ Hid (mags cs = os ++ (magsC (x.drop j) ++ mags (cs.drop (k + 1)))))
  case atStart => exact ⟨0, _, os, by omega, rfl, rfl, HB, HO, by have := HON.out; omega, HQ1⟩
  case round =>
  clear HQ1 HB HO HON hpk
  obtain ⟨j, ov, os, hjg, rfl, rfl, HB, HO, hpk, HQ⟩ := hrel
  obtain ⟨oa, oc, hov⟩ := own_form HO.out
  obtain ⟨on, hon⟩ : ∃ m, os.length = m := ⟨_, rfl⟩
  rw [hon] at hov hpk
  subst hov
  have HON := Lib.hid hon
  clear hon
  have hszr := HB.out.size
  by_cases hj : j < un
  case neg =>
    have hdj : decide ((j : Int) < un) = false := by simp; omega
    have hdj' : decide (j < un) = false := decide_eq_false hj
    have HF : Hid (mags cs = os ++ mags (cs.drop (k + 1))) := Lib.hid (by rw [HQ.out, List.drop_eq_nil_of_le (by have := HUN.out; omega)]; rfl)
    clear HQ
    go_wp2_with fail
    go_roundg (GK - 1)
    case measure => omega
    case rel => exact ⟨k + 1, _, os, by omega, by go_num, rfl, HB, HO, by have := HON.out; omega, HF⟩
  obtain ⟨y, hyy, ey⟩ := drop_at (xs := x) (k := j) (by have := HUN.out; omega)
  have hui := HU.out.move (w' := wr) fun b hb _ => HB.out.block b hb.2
  obtain ⟨yb, yo, rfl, _, hyb, hyc, hy64⟩ := hui.at hyy
  have hdj : decide ((j : Int) < un) = true := by simp; omega
  have hdj' : decide (j < un) = true := decide_eq_true hj
  have HMG := Lib.hid (lmagnitude_any y wr hy64)
  obtain ⟨hm0, hm1⟩ := varM_u64 y hy64
  have HQ2 : Hid (mags cs = os ++ ((if magR (varM y) = true then varM y :: magsC (x.drop (j + 1)) else magsC (x.drop (j + 1))) ++ mags (cs.drop (k + 1)))) := Lib.hid (by
    rw [HQ.out, ey]
    unfold magsC
    rw [List.map_cons, List.filter_cons])
  generalize varM y = m at *
  clear HQ ey hyy hui hy64
  by_cases h1 : 1 ≤ m
  case neg =>
    have HF : Hid (mags cs = os ++ (magsC (x.drop (j + 1)) ++ mags (cs.drop (k + 1)))) := Lib.hid (by rw [HQ2.out, if_neg (by simp [magR, h1])])
    have hd1 : decide (1 ≤ m) = false := decide_eq_false h1
    clear HQ2 h1
    go_wp2_with fail
    refine HMG.out.mono ?_
    rintro e w9 ⟨rfl, rfl⟩
    go_wp2_with fail
    go_roundg (gk - 1)
    case measure => omega
    case rel => exact ⟨j + 1, _, os, by omega, by go_num, rfl, HB, HO, by have := HON.out; omega, HF⟩
  have hd1 : decide (1 ≤ m) = true := decide_eq_true h1
  by_cases h2 : m ≤ 20000
  case neg =>
    have HF : Hid (mags cs = os ++ (magsC (x.drop (j + 1)) ++ mags (cs.drop (k + 1)))) := Lib.hid (by rw [HQ2.out, if_neg (by simp [magR, h2])])
    have hd2 : decide (m ≤ 20000) = false := decide_eq_false h2
    clear HQ2 h1 h2
    go_wp2_with fail
    refine HMG.out.mono ?_
    rintro e w9 ⟨rfl, rfl⟩
    go_wp2_with fail
    go_roundg (gk - 1)
    case measure => omega
    case rel => exact ⟨j + 1, _, os, by omega, by go_num, rfl, HB, HO, by have := HON.out; omega, HF⟩
  have hd2 : decide (m ≤ 20000) = true := decide_eq_true h2
  have HF : Hid (mags cs = (os ++ [m]) ++ (magsC (x.drop (j + 1)) ++ mags (cs.drop (k + 1)))) := Lib.hid (by rw [HQ2.out, if_pos (by simp [magR, h1, h2])]; simp)
  have hwm : IntKind.i64.wrap m = m := IntWalk.i64_in _ ⟨by omega, by omega⟩
  have hown6 := HO.out
  rw [HON.out] at hown6
  clear HQ2
  go_wp2_with fail
  refine HMG.out.mono ?_
  rintro e w9 ⟨rfl, rfl⟩
  go_wp2_with (at_builtin; go_loud (refine wpList_push1 rfl _ _ 32 rfl 3 (.int .i64 0) 8 Tryz.underlying32 HI1.out rfl w.heap.size (.slice oa on oc) on (os.map (.int .i64)) w9 (.int .i64 m) rfl rfl hown6 rfl (by omega) (by omega) (by omega) ?_); intro g7 cap7 w7 hown7 hg7 hs7 hgb hgl hat; have HB7 := Lib.hid (HB.out.grown hg7 (by omega) (fun k hk => (hown6.lt k hk).1)); have HO7 : Hid (w7.ownsRow w.heap.size 3 1 (.slice (some ⟨g7, 0, none⟩) (on + 1) cap7) (os ++ [m]).length ((os ++ [m]).map (.int .i64))) := Lib.hid (by simpa [HON.out] using hown7); clear hown7 hg7 hown6)
  go_roundg (gk - 1)
  case measure => omega
  case rel => exact ⟨j + 1, _, os ++ [m], by omega, by go_num, rfl, HB7, HO7, by have := HON.out; simp; omega, HF⟩

/- (Trace seat Z) Walk: kept of the statement's definitions. No condition but the sizes. -/
open Go.ChangeShapes Go.WideShapes Go.ChangeAt Go.RowKit
set_option linter.unusedVariables false

/-- what it hands back -/
def KeptPost (W : World) (ks : List Int) (e : Ending) (w' : World) : Prop :=
  ∃ v, e = .returned v ∧ Below W.heap.size W w' ∧ w'.ownsRow W.heap.size 3 1 v ks.length (ks.map (.int .i64))
theorem keptM_snoc {keep v : Int} {vs r : List Int} : keptM keep (vs ++ v :: r) = keptM keep vs ++ keptM keep (v :: r) := by unfold keptM; rw [List.filter_append]
theorem occ_len_le {vs cs : List Int} (h : Strict cmpM vs) (hr : ∀ x ∈ vs, 1 ≤ x ∧ x ≤ 20000) : vs.length ≤ 20000 := by
  have hn : vs.Nodup := strict_nodup h
  have h1 : (vs.map fun x => x.toNat - 1).Nodup := List.pairwise_map.2 (hn.imp_of_mem fun {a b} ha hb hab e => hab (by have := hr _ ha; have := hr _ hb; omega))
  have := pigeon2 20000 _ h1 (fun x hx => by
    obtain ⟨y, hy, rfl⟩ := List.mem_map.1 hx
    have := hr _ hy
    omega)
  simpa using this
set_option maxRecDepth 100000 in
set_option maxHeartbeats 4000000 in
theorem lkept_any (F : Nat → Prop) (keep : Int) (v : Value) (cs : List (List Int)) (w : World) (hx : Clss F w v cs) (hik : I64 keep) (hl : cs.length ≤ 4000) (hll : ∀ c ∈ cs, c.length ≤ 4000) :
    Calls Tryz.prog 116 #[.int .i64 keep, v] w (KeptPost w (keptM keep (occM cs))) := by
  obtain ⟨a, n, c, rfl, _, _⟩ := hx.form'
  have HI1 := Lib.hid (show (Tryz.prog.info? 3).map (fun i => (i.zero, i.size, i.bytes)) = some (some (.int .i64 0), 1, 8) by kernel_rfl)
  obtain ⟨W1, hW1⟩ : ∃ W, w.alloc (.cells #[] 3) = W := ⟨_, rfl⟩
  have hb1 : Below w.heap.size w W1 := by rw [← hW1]; exact (Below.refl _ _).alloc (Nat.le_refl _) _
  have ho1 : W1.ownsRow w.heap.size 3 1 (.slice (some ⟨w.heap.size, 0, none⟩) 0 0) ([] : List Int).length (([] : List Int).map (.int .i64)) := by rw [← hW1]; simpa using own_new (base := w.heap.size) (w := w) #[] 3 (by omega) (by simp)
  have HOC := Lib.hid (loccur_any F _ cs W1 (hx.below hb1) hl hll)
  have HB1 := Lib.hid hb1
  have HO1 := Lib.hid ho1
  have HIK := Lib.hid hik
  have hs1 : W1.heap.size = w.heap.size + 1 := by rw [← hW1]; simp
  have HS1 := Lib.hid hs1
  clear hx hb1 ho1 hl hll hik hs1
  go_enter Tryz.func116, Tryz.ntmps116
  go_wp2_with fail
  try rw [hW1]
  clear hW1
  refine HOC.out.mono ?_
  rintro e w2 ⟨ov, os, rfl, hos, hb2, hst, hmem⟩
  obtain rfl := occ_eq hst hmem
  obtain ⟨oa, on, oc, rfl, HON, hon⟩ := hos.form'
  have hle := occ_len_le (cs := []) hst fun x hx => mags_I64 ((hmem x).1 hx)
  have hn2 : on ≤ 20000 := by rw [HON.out]; exact hle
  have HX := Lib.hid hos.lt
  have HB2 : Hid (Below w.heap.size w w2) := Lib.hid (HB1.out.trans (hb2.mono HB1.out.size))
  have HG2 : Hid (W1.heap.size ≤ w2.heap.size) := Lib.hid hb2.size
  have HO2 : Hid (w2.ownsRow w.heap.size 3 1 (.slice (some ⟨w.heap.size, 0, none⟩) 0 0) (keptM keep ((occM cs).take 0)).length ((keptM keep ((occM cs).take 0)).map (.int .i64))) := Lib.hid (own_same HO1.out fun k hk => hb2.block k (HO1.out.lt k hk).2)
  obtain ⟨R, hR⟩ : ∃ R, occM cs = R := ⟨_, rfl⟩
  have HRR := Lib.hid hR
  rw [hR] at HON HX HO2
  have HGR0 : Hid (w2.grownBy w2 (some w.heap.size)) := Lib.hid (World.grownBy.refl w2 _)
  have HOB0 : Hid (∀ b, (Value.slice (some ⟨w.heap.size, 0, none⟩) 0 0).ownBlock = some b → b = w.heap.size ∨ w2.heap.size ≤ b) := Lib.hid (fun b hb => .inl (by simpa [Value.ownBlock] using hb.symm))
  clear hos hb2 hst hmem hle HOC HB1 HO1 hR
  go_wp2_with fail
  go_loopg [5, 12] on (fun gg u5 u12 wx => ∃ (k : Nat) (ov : Value), k + gg = on ∧ u12 = .int .i64 k ∧ u5 = ov ∧ Hid (w2.grownBy wx (some w.heap.size)) ∧ Hid (∀ b, ov.ownBlock = some b → b = w.heap.size ∨ w2.heap.size ≤ b) ∧
    Hid (wx.ownsRow w.heap.size 3 1 ov (keptM keep (R.take k)).length ((keptM keep (R.take k)).map (.int .i64))))
  case atStart => exact ⟨0, _, by omega, rfl, rfl, HGR0, HOB0, HO2⟩
  case round =>
  clear HGR0 HOB0 HO2
  obtain ⟨k, ov, hkg, rfl, rfl, HGR, HOB, HO⟩ := hrel
  obtain ⟨pa, pc, hov⟩ := own_form HO.out
  obtain ⟨pn, hpn⟩ : ∃ m, (keptM keep (R.take k)).length = m := ⟨_, rfl⟩
  have hpk : pn ≤ k := by
    rw [← hpn]
    exact Nat.le_trans (List.length_filter_le _ _) (by rw [List.length_take]; omega)
  rw [hpn] at hov
  subst hov
  have HPN := Lib.hid hpn
  clear hpn
  have hsr := HGR.out.size
  have HBW : Hid (Below w.heap.size w wr) := Lib.hid ⟨HGR.out.os.trans HB2.out.os, HGR.out.tape.trans HB2.out.tape, HGR.out.output.trans HB2.out.output, Nat.le_trans HB2.out.size hsr, fun b hb => (HGR.out.block b (Nat.lt_of_lt_of_le hb HB2.out.size) (fun e => by injection e with e; omega)).trans (HB2.out.block b hb)⟩
  by_cases hk : k < on
  case neg =>
    have hd : decide (k < on) = false := decide_eq_false hk
    have hd2 : decide ((k : Int) < on) = false := by simp; omega
    have HF : Hid (KeptPost w (keptM keep R) (.returned (.slice pa pn pc)) wr) := Lib.hid ⟨_, rfl, HBW.out, by
      have := HO.out
      rw [List.take_of_length_le (by rw [← HON.out]; omega)] at this
      exact this⟩
    go_wp2_with fail
    go_ret
    rw [HRR.out]
    exact HF.out
  have hd : decide (k < on) = true := decide_eq_true hk
  have hd2 : decide ((k : Int) < on) = true := by simp; omega
  obtain ⟨x, hxx, ex⟩ := drop_at (xs := R) (k := k) (by rw [← HON.out]; exact hk)
  have hxm := HX.out.move (w' := wr) fun b hb hlt => HGR.out.block b hlt (fun e => by injection e with e; have := HS1.out; have := hb.1; omega)
  obtain ⟨b, o, rfl, _, hb, hc, h64⟩ := hxm.at hxx
  have htk : R.take (k + 1) = R.take k ++ [x] := by rw [List.take_add_one, hxx]; rfl
  clear hxm ex
  by_cases q : x ≤ keep
  · have hq : decide (x ≤ keep) = true := decide_eq_true q
    have HT : Hid (keptM keep (R.take (k + 1)) = keptM keep (R.take k) ++ [x]) := Lib.hid (by rw [htk]; unfold keptM; rw [List.filter_append, List.filter_cons, if_pos hq]; rfl)
    have hown6 := HO.out
    rw [HPN.out] at hown6
    clear htk hxx HO q
    go_wp2_with (at_builtin; go_loud (refine wpList_push1 rfl _ _ 32 rfl 3 (.int .i64 0) 8 Tryz.underlying32 HI1.out rfl w.heap.size (.slice pa pn pc) pn ((keptM keep (R.take k)).map (.int .i64)) wr (.int .i64 x) rfl rfl hown6 rfl (by omega) (by omega) (by have := HS1.out; have := HG2.out; omega) ?_); intro g7 cap7 w7 hown7 hg7 hs7 hgb hgl hat; have HG7 := Lib.hid hg7; have HAT := Lib.hid hat; have HO7 := Lib.hid hown7; clear hown7 hg7 hat hgb hgl hs7 hown6)
    go_roundg (gk - 1)
    case measure => omega
    case rel =>
      refine ⟨k + 1, _, by omega, by go_num, rfl, Lib.hid (grow_new HGR.out HG7.out HOB.out), Lib.hid (fun b hb => ?_), Lib.hid (by rw [HT.out, List.length_append, HPN.out, List.map_append]; exact HO7.out)⟩
      have hbg : g7 = b := by simpa [Value.ownBlock] using hb
      subst hbg
      rcases HAT.out with h | h
      · exact HOB.out _ h
      · exact .inr (by omega)
  · have hq : decide (x ≤ keep) = false := decide_eq_false q
    have HT : Hid (keptM keep (R.take (k + 1)) = keptM keep (R.take k)) := Lib.hid (by rw [htk]; unfold keptM; rw [List.filter_append, List.filter_cons, if_neg (by rw [hq]; simp)]; simp)
    clear htk hxx q
    go_wp2_with fail
    go_roundg (gk - 1)
    case measure => omega
    case rel => exact ⟨k + 1, _, by omega, by go_num, rfl, HGR, HOB, Lib.hid (by rw [HT.out, HPN.out]; have := HO.out; rw [HPN.out] at this; exact this)⟩

/- (Trace seat Z) Walks: doubled, size, without of the statement's definitions. No condition but the ranges. -/
open Go.ChangeShapes Go.WideShapes Go.ChangeAt Go.RowKit
set_option linter.unusedVariables false

/-- n doubled k times, and whether it is at most 2^40 -/
def dblS : Nat → Int → Int × Bool
  | 0, n => (n, true)
  | t + 1, n => if 1099511627776 < n * 2 then (0, false) else dblS t (n * 2)
def PairPost (W : World) (r : Int × Bool) (e : Ending) (w' : World) : Prop := e = .returned (.tuple #[.int .i64 r.1, .bool r.2]) ∧ w' = W
set_option maxRecDepth 100000 in
set_option maxHeartbeats 4000000 in
theorem ldoubled_any (n : Int) (k : Nat) (w : World) (hn : 0 ≤ n ∧ n ≤ 1099511627776) (hk : (k : Int) ≤ 1000000) :
    Calls Tryz.prog 115 #[.int .i64 n, .int .i64 k] w (PairPost w (dblS k n)) := by
  obtain ⟨R, hR⟩ : ∃ R, dblS k n = R := ⟨_, rfl⟩
  rw [hR]
  have HR := Lib.hid hR
  have HN := Lib.hid hn
  clear hR hn
  go_enter Tryz.func115, Tryz.ntmps115
  go_wp2_with fail
  go_loopg [0, 1] k (fun gg u0 u1 wx => ∃ m : Int, u0 = .int .i64 m ∧ u1 = .int .i64 gg ∧ wx = w ∧ Hid (dblS gg m = R) ∧ Hid (0 ≤ m ∧ m ≤ 1099511627776) ∧ gg ≤ k)
  case atStart => exact ⟨n, rfl, rfl, rfl, HR, HN, Nat.le_refl _⟩
  case round =>
  clear HR HN
  obtain ⟨m, rfl, rfl, rfl, HR, HM, hgk⟩ := hrel
  have hR := HR.out
  obtain ⟨hm0, hm1⟩ := HM.out
  by_cases hz : gk = 0
  · subst hz
    have d0 : decide ((0 : Int) < ((0 : Nat) : Int)) = false := by simp
    rw [dblS] at hR
    subst hR
    go_wp2_with fail
    go_ret2
    exact ⟨rfl, rfl⟩
  · obtain ⟨t, rfl⟩ : ∃ t, gk = t + 1 := ⟨gk - 1, by omega⟩
    have d0 : decide ((0 : Int) < ((t + 1 : Nat) : Int)) = true := decide_eq_true (by omega)
    have hw : IntKind.i64.wrap (m * 2) = m * 2 := IntWalk.i64_in _ ⟨by omega, by omega⟩
    rw [dblS] at hR
    by_cases q : 1099511627776 < m * 2
    · have dq : decide (1099511627776 < m * 2) = true := decide_eq_true q
      rw [if_pos q] at hR
      subst hR
      go_wp2_with fail
      go_ret2
      exact ⟨rfl, rfl⟩
    · have dq : decide (1099511627776 < m * 2) = false := decide_eq_false q
      rw [if_neg q] at hR
      have HR2 := Lib.hid hR
      clear hR HR
      go_wp2_with fail
      go_roundg t
      case measure => omega
      case rel => exact ⟨m * 2, by go_num, by go_num, rfl, HR2, Lib.hid ⟨by omega, by omega⟩, by omega⟩
def sizeM (x : Int) : Int := if x < -20000 ∨ 20000 < x then 0 else varM x
set_option maxRecDepth 100000 in
set_option maxHeartbeats 4000000 in
theorem size_any (x : Int) (w : World) (hx : I64 x) : Calls Tryz.prog 142 #[.int .i64 x] w (fun e w' => e = .returned (.int .i64 (sizeM x)) ∧ w' = w) := by
  unfold sizeM
  by_cases q1 : x < -20000
  · have d1 : decide (x < -20000) = true := decide_eq_true q1
    rw [if_pos (.inl q1)]
    go_enter Tryz.func142, Tryz.ntmps142
    go_wp2_with fail
    go_ret
    exact ⟨rfl, rfl⟩
  have d1 : decide (x < -20000) = false := decide_eq_false q1
  by_cases q2 : 20000 < x
  · have d2 : decide (20000 < x) = true := decide_eq_true q2
    rw [if_pos (.inr q2)]
    go_enter Tryz.func142, Tryz.ntmps142
    go_wp2_with fail
    go_ret
    exact ⟨rfl, rfl⟩
  have d2 : decide (20000 < x) = false := decide_eq_false q2
  rw [if_neg (by rintro (h | h); exact q1 h; exact q2 h)]
  have hw : IntKind.i64.wrap (-x) = -x := IntWalk.i64_in _ ⟨by omega, by omega⟩
  have hm : max x (-x) = varM x := by unfold varM; split <;> omega
  go_enter Tryz.func142, Tryz.ntmps142
  go_wp2_with fail
  go_ret
  exact ⟨rfl, rfl⟩
/-- without: an owned list -/
def withoutM (xs : List Int) (x : Int) : List Int := xs.filter fun y => decide (y ≠ x)
set_option maxRecDepth 100000 in
set_option maxHeartbeats 4000000 in
theorem without_any (F : Nat → Prop) (v : Value) (xs : List Int) (x : Int) (w : World) (hx : Ints F w v xs) (hi : I64 x) (hl : xs.length ≤ 1000000) :
    Calls Tryz.prog 145 #[v, .int .i64 x] w (KeptPost w (withoutM xs x)) := by
  obtain ⟨a, n, c, rfl, HN, hn⟩ := hx.form'
  have HI1 := Lib.hid (show (Tryz.prog.info? 3).map (fun i => (i.zero, i.size, i.bytes)) = some (some (.int .i64 0), 1, 8) by kernel_rfl)
  obtain ⟨W1, hW1⟩ : ∃ W, w.alloc (.cells #[] 3) = W := ⟨_, rfl⟩
  have hb1 : Below w.heap.size w W1 := by rw [← hW1]; exact (Below.refl _ _).alloc (Nat.le_refl _) _
  have ho1 : W1.ownsRow w.heap.size 3 1 (.slice (some ⟨w.heap.size, 0, none⟩) 0 0) ([] : List Int).length (([] : List Int).map (.int .i64)) := by rw [← hW1]; simpa using own_new (base := w.heap.size) (w := w) #[] 3 (by omega) (by simp)
  have HB0 := Lib.hid hb1
  have HO0 : Hid (W1.ownsRow w.heap.size 3 1 (.slice (some ⟨w.heap.size, 0, none⟩) 0 0) (withoutM (xs.take 0) x).length ((withoutM (xs.take 0) x).map (.int .i64))) := Lib.hid ho1
  have HX := Lib.hid hx
  have hn2 : n ≤ 1000000 := by rw [HN.out]; exact hl
  clear hx hb1 ho1 hl
  go_enter Tryz.func145, Tryz.ntmps145
  go_wp2_with fail
  try rw [hW1]
  clear hW1
  go_loopg [5, 11] n (fun gg u5 u11 wx => ∃ (k : Nat) (ov : Value), k + gg = n ∧ u11 = .int .i64 k ∧ u5 = ov ∧ Hid (Below w.heap.size w wx) ∧
    Hid (wx.ownsRow w.heap.size 3 1 ov (withoutM (xs.take k) x).length ((withoutM (xs.take k) x).map (.int .i64))))
  case atStart => exact ⟨0, _, by omega, rfl, rfl, HB0, HO0⟩
  case round =>
  clear HB0 HO0
  obtain ⟨k, ov, hkg, rfl, rfl, HB, HO⟩ := hrel
  obtain ⟨pa, pc, hov⟩ := own_form HO.out
  obtain ⟨pn, hpn⟩ : ∃ m, (withoutM (xs.take k) x).length = m := ⟨_, rfl⟩
  have hpk : pn ≤ k := by
    rw [← hpn]
    exact Nat.le_trans (List.length_filter_le _ _) (by rw [List.length_take]; omega)
  rw [hpn] at hov
  subst hov
  have HPN := Lib.hid hpn
  clear hpn
  have hsr := HB.out.size
  by_cases hk : k < n
  case neg =>
    have hd : decide (k < n) = false := decide_eq_false hk
    have hd2 : decide ((k : Int) < n) = false := by simp; omega
    have HF : Hid (KeptPost w (withoutM xs x) (.returned (.slice pa pn pc)) wr) := Lib.hid ⟨_, rfl, HB.out, by
      have := HO.out
      rw [List.take_of_length_le (by rw [← HN.out]; omega)] at this
      exact this⟩
    go_wp2_with fail
    go_ret
    exact HF.out
  have hd : decide (k < n) = true := decide_eq_true hk
  have hd2 : decide ((k : Int) < n) = true := by simp; omega
  obtain ⟨y, hyy, ey⟩ := drop_at (xs := xs) (k := k) (by rw [← HN.out]; exact hk)
  obtain ⟨b, o, rfl, _, hb, hc0, h64⟩ := HX.out.at hyy
  have hc := below_c HB.out hb hc0
  have htk : xs.take (k + 1) = xs.take k ++ [y] := by rw [List.take_add_one, hyy]; rfl
  clear ey hc0
  by_cases q : y = x
  · have hq : (y != x) = false := by simp [q]
    have HT : Hid (withoutM (xs.take (k + 1)) x = withoutM (xs.take k) x) := Lib.hid (by rw [htk]; unfold withoutM; rw [List.filter_append, List.filter_cons, if_neg (by simp [q])]; simp)
    clear htk hyy q
    go_wp2_with fail
    go_roundg (gk - 1)
    case measure => omega
    case rel => exact ⟨k + 1, _, by omega, by go_num, rfl, HB, Lib.hid (by rw [HT.out, HPN.out]; have := HO.out; rw [HPN.out] at this; exact this)⟩
  · have hq : (y != x) = true := by simp; exact q
    have HT : Hid (withoutM (xs.take (k + 1)) x = withoutM (xs.take k) x ++ [y]) := Lib.hid (by rw [htk]; unfold withoutM; rw [List.filter_append, List.filter_cons, if_pos (by simp [q])]; rfl)
    have hown6 := HO.out
    rw [HPN.out] at hown6
    clear htk hyy HO q
    go_wp2_with (at_builtin; go_loud (refine wpList_push1 rfl _ _ 32 rfl 3 (.int .i64 0) 8 Tryz.underlying32 HI1.out rfl w.heap.size (.slice pa pn pc) pn ((withoutM (xs.take k) x).map (.int .i64)) wr (.int .i64 y) rfl rfl hown6 rfl (by omega) (by omega) (by omega) ?_); intro g7 cap7 w7 hown7 hg7 hs7 hgb hgl hat; have HB7 := Lib.hid (HB.out.grown hg7 (by omega) (fun k hk => (hown6.lt k hk).1)); have HO7 := Lib.hid hown7; clear hown7 hg7 hat hgb hgl hs7 hown6)
    go_roundg (gk - 1)
    case measure => omega
    case rel => exact ⟨k + 1, _, by omega, by go_num, rfl, HB7, Lib.hid (by rw [HT.out, List.length_append, HPN.out, List.map_append]; exact HO7.out)⟩

/- (Trace seat Z) Walk: lifted of the statement's definitions. No condition but the sizes and the ranges. -/
open Go.ChangeShapes Go.WideShapes Go.ChangeAt Go.RowKit
set_option linter.unusedVariables false

def lostS (keep : Int) (vs : List Int) (cs : List (List Int)) : Nat := (vs.filter fun v => !(keptM keep (occM cs)).contains v).length
def liftS (keep : Int) (vs : List Int) (c : Claim) : Int × Bool := dblS (lostS keep vs c.cls) c.count
def PairB (W : World) (r : Int × Bool) (e : Ending) (w' : World) : Prop := e = .returned (.tuple #[.int .i64 r.1, .bool r.2]) ∧ Below W.heap.size W w'
set_option maxRecDepth 100000 in
set_option maxHeartbeats 8000000 in
theorem lifted_any (F : Nat → Prop) (keep : Int) (v : Value) (vs : List Int) (r0 r1 r2 r3 r4 : Value) (c : Claim) (w : World) (hx : Ints F w v vs) (hc : ClaimV (fun _ => True) w (r0, r1, r2, r3, r4) c) (hik : I64 keep) (hl : vs.length ≤ 100000) (hz : SzC c) (hn : 0 ≤ c.count ∧ c.count ≤ 1099511627776) :
    Calls Tryz.prog 144 #[v, .int .i64 keep, .agg #[r0, r1, r2, r3, r4]] w (PairB w (liftS keep vs c)) := by
  obtain ⟨a, n, cp, rfl, HN, hn0⟩ := hx.form'
  obtain ⟨⟨hcl, h1, h2, hki, h4⟩, _⟩ := id hc
  have h1 : r1 = _ := h1
  have h2 : r2 = _ := h2
  have h4 : r4 = _ := h4
  subst h1 h2 h4
  have hcl : Clss (fun _ => True) w r0 c.cls := hcl
  have hki : Ints (fun _ => True) w r3 c.kids := hki
  obtain ⟨xa, xn, xc, rfl, _, _⟩ := hcl.form'
  obtain ⟨ka, kn, kc, rfl, _, _⟩ := hki.form'
  obtain ⟨W1, hW1⟩ : ∃ W, w.alloc (.cells #[.slice xa xn xc, .int .i64 c.rule, .int .i64 c.lit, .slice ka kn kc, .int .i64 c.count] 52) = W := ⟨_, rfl⟩
  obtain ⟨bx, hbx⟩ : ∃ b, w.heap.size = b := ⟨_, rfl⟩
  have hb1 : Below w.heap.size w W1 := by rw [← hW1]; exact (Below.refl _ _).alloc (Nat.le_refl _) _
  have hrow : W1.heap[bx]? = some (.cells #[.slice xa xn xc, .int .i64 c.rule, .int .i64 c.lit, .slice ka kn kc, .int .i64 c.count] 52) := by rw [← hW1]; exact new_at' _ _ hbx.symm
  have b0 : W1.cell? ⟨bx, 0, none⟩ = some (.slice xa xn xc) := by rw [cell_of_row _ _ _ _ _ _ hrow]; rfl
  have b4 : W1.cell? ⟨bx, 4, none⟩ = some (.int .i64 c.count) := by rw [cell_of_row _ _ _ _ _ _ hrow]; rfl
  have hs1 : W1.heap.size = bx + 1 := by rw [← hW1]; simp; omega
  have HB1 := Lib.hid hb1
  have HX := Lib.hid (hx.below hb1)
  have HCL := Lib.hid (Clss.below hcl hb1)
  have HIK := Lib.hid hik
  have HZ := Lib.hid hz
  have HCN := Lib.hid hn
  have hn2 : n ≤ 100000 := by rw [HN.out]; exact hl
  have HB0 : Hid (Below W1.heap.size W1 W1) := Lib.hid (Below.refl _ _)
  have HL0 : Hid ((((0 : Nat) : Int)) = ((vs.take 0).filter fun v => !(keptM keep (occM c.cls)).contains v).length) := Lib.hid rfl
  clear hx hc hcl hki hb1 hrow hik hz hn hl
  go_enter Tryz.func144, Tryz.ntmps144
  go_wp2_with fail
  try rw [hW1]
  clear hW1 hbx
  go_loopg [8, 13] n (fun gg u8 u13 wx => ∃ (k m : Nat), k + gg = n ∧ u13 = .int .i64 k ∧ u8 = .int .i64 m ∧ m ≤ k ∧ Hid (Below W1.heap.size W1 wx) ∧ Hid ((m : Int) = ((vs.take k).filter fun v => !(keptM keep (occM c.cls)).contains v).length))
  case atStart => exact ⟨0, 0, by omega, rfl, rfl, Nat.le_refl _, HB0, HL0⟩
  case round =>
  clear HB0 HL0
  obtain ⟨k, m, hkg, rfl, rfl, hmk, HB, HL⟩ := hrel
  have hsr := HB.out.size
  have y0 := below_c HB.out (by omega) b0
  have y4 := below_c HB.out (by omega) b4
  have HBW : Hid (Below w.heap.size w wr) := Lib.hid (HB1.out.trans (HB.out.mono HB1.out.size))
  by_cases hk : k < n
  case neg =>
    have hd : decide (k < n) = false := decide_eq_false hk
    have hd2 : decide ((k : Int) < n) = false := by simp; omega
    have hm : m = lostS keep vs c.cls := by
      have := HL.out
      rw [List.take_of_length_le (by rw [← HN.out]; omega)] at this
      unfold lostS
      omega
    have HD := Lib.hid (ldoubled_any c.count m wr HCN.out (by omega))
    have HE : Hid (dblS m c.count = liftS keep vs c) := Lib.hid (by rw [hm]; rfl)
    rw [HE.out] at HD
    clear hm
    go_wp2_with fail
    refine HD.out.mono ?_
    rintro e w9 ⟨rfl, rfl⟩
    go_wp2_with fail
    go_ret2
    exact ⟨rfl, HBW.out⟩
  have hd : decide (k < n) = true := decide_eq_true hk
  have hd2 : decide ((k : Int) < n) = true := by simp; omega
  obtain ⟨x, hxx, ex⟩ := drop_at (xs := vs) (k := k) (by rw [← HN.out]; exact hk)
  obtain ⟨b, o, rfl, _, hb, hc0, h64⟩ := HX.out.at hxx
  have hcx := below_c HB.out hb hc0
  have htk : vs.take (k + 1) = vs.take k ++ [x] := by rw [List.take_add_one, hxx]; rfl
  have HKE := Lib.hid (lkept_any _ keep _ c.cls wr (Clss.below HCL.out HB.out) HIK.out HZ.out.1 HZ.out.2.1)
  have H64 := Lib.hid h64
  clear ex hc0 hxx h64
  go_wp2_with fail
  refine HKE.out.mono ?_
  rintro e w8 ⟨v8, rfl, hb8, ho8⟩
  obtain ⟨pa, pc, rfl⟩ := own_form ho8
  have HB8 := Lib.hid (HB.out.trans (hb8.mono hsr))
  have hks : (keptM keep (occM c.cls)).length ≤ 20000 := Nat.le_trans (List.length_filter_le _ _) (occ_len_le (cs := []) (occM_strict _) fun x hx => occM_range hx)
  have HCT := Lib.hid (contains_any _ _ (keptM keep (occM c.cls)) x w8 ⟨(ownsRow_sl1 ho8 (by omega)).mono (G := fun _ => True) fun _ _ => trivial, fun y hy => by have := occM_range (List.mem_filter.1 hy).1; unfold I64; omega⟩ H64.out)
  clear hb8 ho8 hks HKE
  obtain ⟨B, hB⟩ : ∃ B, (keptM keep (occM c.cls)).contains x = B := ⟨_, rfl⟩
  rw [hB] at HCT
  have HT : Hid ((((m + if B = true then 0 else 1 : Nat)) : Int) = ((vs.take (k + 1)).filter fun v => !(keptM keep (occM c.cls)).contains v).length) := Lib.hid (by
    have hfl : ([x].filter fun v => !(keptM keep (occM c.cls)).contains v).length = if B = true then 0 else 1 := by
      rw [List.filter_cons, hB]
      rcases B with _ | _ <;> rfl
    rw [htk, List.filter_append, List.length_append, hfl]
    have := HL.out
    rcases B with _ | _
    · simp only [Bool.false_eq_true, if_false]; omega
    · simp only [if_true]; omega)
  clear hB htk
  go_wp2_with fail
  refine HCT.out.mono ?_
  rintro e w9 ⟨rfl, rfl⟩
  rcases bool2 B with rfl | rfl
  · go_wp2_with fail
    go_roundg (gk - 1)
    case measure => omega
    case rel => exact ⟨k + 1, m, by omega, by go_num, rfl, by omega, HB8, HT⟩
  · go_wp2_with fail
    go_roundg (gk - 1)
    case measure => omega
    case rel => exact ⟨k + 1, m + 1, by omega, by go_num, by go_num, by omega, HB8, HT⟩

/- (Trace seat Z) Walk: canonical of the statement's definitions. No condition but the sizes. -/
open Go.ChangeShapes Go.WideShapes Go.ChangeAt Go.RowKit
set_option linter.unusedVariables false

set_option maxRecDepth 100000 in
set_option maxHeartbeats 2000000 in
theorem lcan_any (F : Nat → Prop) (v : Value) (cs : List (List Int)) (w : World) (hx : Clss F w v cs) (hl : cs.length ≤ 4000) (hll : ∀ c ∈ cs, c.length ≤ 4000) :
    Calls Tryz.prog 114 #[v] w (BoolPost w (canB cs)) := by
  obtain ⟨a, n, c, rfl, HN, hn⟩ := hx.form'
  obtain ⟨R, hR⟩ : ∃ R, canB cs = R := ⟨_, rfl⟩
  have HR : Hid (((cs.drop 0).all (fun c => c.all litOk) && (canM cs == cs)) = R) := Lib.hid hR
  rw [hR]
  have HX := Lib.hid hx
  have HCA := Lib.hid (lcanonical_any F _ cs w hx (by omega) (fun x hx => by have := hll x hx; omega))
  have hn4 : n ≤ 4000 := by rw [HN.out]; exact hl
  have HLL := Lib.hid hll
  clear hR hx hl hll
  go_enter Tryz.func114, Tryz.ntmps114
  go_wp2_with fail
  go_loopg [9] n (fun gg u9 wx => ∃ (k : Nat), k + gg = n ∧ u9 = .int .i64 k ∧ wx = w ∧ Hid (((cs.drop k).all (fun c => c.all litOk) && (canM cs == cs)) = R))
  case atStart => exact ⟨0, by omega, rfl, rfl, HR⟩
  case round =>
  obtain ⟨k, hkg, rfl, hww, HM⟩ := hrel
  subst hww
  by_cases hk : k < n
  case neg =>
    obtain rfl : k = n := by omega
    have hdk : decide ((k : Int) < k) = false := by simp
    have hdk' : decide (k < k) = false := decide_eq_false (by omega)
    have hh := HM.out
    rw [List.drop_eq_nil_of_le (by rw [HN.out]; exact Nat.le_refl _), List.all_nil, Bool.true_and] at hh
    have HH := Lib.hid hh
    clear hh HM
    go_wp2_with fail
    refine HCA.out.mono ?_
    rintro e w2 ⟨cv, rfl, hcv, hb2⟩
    have heq := lequal_any _ _ _ _ w2 (HX.out.below hb2) hcv
    rw [show (cs == canM cs) = (canM cs == cs) from Bool.eq_iff_iff.2 ⟨fun h => beq_iff_eq.2 (beq_iff_eq.1 h).symm, fun h => beq_iff_eq.2 (beq_iff_eq.1 h).symm⟩] at heq
    have HEQ := Lib.hid heq
    clear heq
    have HB2 := Lib.hid hb2
    obtain ⟨_, _, _, rfl, _, _⟩ := hcv.form'
    clear hcv hb2
    go_wp2_with fail
    refine HEQ.out.mono ?_
    rintro e w3 ⟨rfl, nd, rfl⟩
    have HB3 := Lib.hid (below_drewN HB2.out nd)
    rw [HH.out]
    go_wp2_with fail
    go_ret
    exact ⟨rfl, HB3.out⟩
  obtain ⟨x, hxk, ex⟩ := drop_at (xs := cs) (k := k) (by rw [← HN.out]; exact hk)
  obtain ⟨xb, xo, u, rfl, _, hxb, hcx, hxi⟩ := HX.out.at hxk
  obtain ⟨ya, yn, yc, rfl, HYN, _⟩ := hxi.form'
  have hyn : yn ≤ 4000 := by rw [HYN.out]; exact HLL.out x (List.mem_of_getElem? hxk)
  have hdk : decide ((k : Int) < n) = true := by simp; omega
  have hdk' : decide (k < n) = true := decide_eq_true hk
  have hh := HM.out
  rw [ex, List.all_cons, Bool.and_assoc] at hh
  obtain ⟨T, hT⟩ : ∃ T, ((cs.drop (k + 1)).all (fun c => c.all litOk) && (canM cs == cs)) = T := ⟨_, rfl⟩
  rw [hT] at hh
  have HT := Lib.hid hT
  have HH : Hid ((((x.drop 0).all litOk) && T) = R) := Lib.hid hh
  have HXI := Lib.hid hxi
  obtain ⟨GK, hGK⟩ : ∃ G, G = gk := ⟨_, rfl⟩
  subst hGK
  obtain ⟨wo, hwo⟩ : ∃ W, W = wr := ⟨_, rfl⟩
  subst hwo
  clear hh hT HM hxi hxk ex
  go_wp2_with fail
  go_loopg [15] yn (fun gg u15 wx => ∃ (j : Nat), j + gg = yn ∧ u15 = .int .i64 j ∧ wx = wo ∧ Hid ((((x.drop j).all litOk) && T) = R))
  case atStart => exact ⟨0, by omega, rfl, rfl, HH⟩
  case round =>
  obtain ⟨j, hjg, rfl, hww, HM⟩ := hrel
  subst hww
  by_cases hj : j < yn
  case neg =>
    obtain rfl : j = yn := by omega
    have hdj : decide ((j : Int) < j) = false := by simp
    have hdj' : decide (j < j) = false := decide_eq_false (by omega)
    have hh := HM.out
    rw [List.drop_eq_nil_of_le (by rw [HYN.out]; exact Nat.le_refl _), List.all_nil, Bool.true_and] at hh
    have HF := Lib.hid (HT.out.trans hh)
    clear hh HM
    go_wp2_with fail
    go_roundg (GK - 1)
    case measure => omega
    case rel => exact ⟨k + 1, by omega, by go_num, rfl, HF⟩
  obtain ⟨y, hyk, ey⟩ := drop_at (xs := x) (k := j) (by rw [← HYN.out]; exact hj)
  obtain ⟨yb, yo, rfl, _, hyb, hcy, hyi⟩ := HXI.out.at hyk
  have hdj : decide ((j : Int) < yn) = true := by simp; omega
  have hdj' : decide (j < yn) = true := decide_eq_true hj
  have hh := HM.out
  rw [ey, List.all_cons, Bool.and_assoc] at hh
  have HY := Lib.hid hyi
  by_cases h0 : y = 0
  · have hl0 : litOk y = false := by rw [h0]; rfl
    rw [hl0, Bool.false_and] at hh
    have HF := Lib.hid hh
    have e0 : (y == 0) = true := by simp; exact h0
    clear hh HM hl0 h0 hyk ey hyi
    go_wp2_with fail
    go_ret
    exact ⟨by rw [← HF.out]; rfl, Below.refl _ _⟩
  have e0 : (y == 0) = false := by simp; exact h0
  by_cases h1 : 20000 < y
  · have hl0 : litOk y = false := by unfold litOk; rw [e0, decide_eq_true h1]; rfl
    rw [hl0, Bool.false_and] at hh
    have HF := Lib.hid hh
    have e1 : decide (20000 < y) = true := decide_eq_true h1
    clear hh HM hl0 h0 hyk ey hyi
    go_wp2_with fail
    go_ret
    exact ⟨by rw [← HF.out]; rfl, Below.refl _ _⟩
  have e1 : decide (20000 < y) = false := decide_eq_false h1
  by_cases h2 : y < -20000
  · have hl0 : litOk y = false := by unfold litOk; rw [e0, e1, decide_eq_true h2]; rfl
    rw [hl0, Bool.false_and] at hh
    have HF := Lib.hid hh
    have e2 : decide (y < -20000) = true := decide_eq_true h2
    clear hh HM hl0 h0 hyk ey hyi
    go_wp2_with fail
    go_ret
    exact ⟨by rw [← HF.out]; rfl, Below.refl _ _⟩
  have e2 : decide (y < -20000) = false := decide_eq_false h2
  have hl0 : litOk y = true := by unfold litOk; rw [e0, e1, e2]; rfl
  rw [hl0, Bool.true_and] at hh
  have HF := Lib.hid hh
  clear hh HM hl0 h0 hyk ey hyi h1 h2
  go_wp2_with fail
  go_roundg (gk - 1)
  case measure => omega
  case rel => exact ⟨j + 1, by omega, by go_num, rfl, HF⟩

/- (Trace seat Z) Walk: residuals of the statement's definitions. No condition but the sizes. -/
open Go.ChangeShapes Go.WideShapes Go.ChangeAt Go.RowKit
set_option linter.unusedVariables false
set_option linter.unusedSimpArgs false

def residualsM (cs : List (List Int)) (v : Int) (ks : List Claim) : Bool := decide (ks.length = 2) && ((ks.getD 0 clNil).cls == resM cs (-v) && ((ks.getD 1 clNil).cls == resM cs v))
set_option maxRecDepth 100000 in
set_option maxHeartbeats 8000000 in
theorem residuals_any (F : Nat → Prop) (fv kv : Value) (cs : List (List Int)) (v : Int) (ks : List Claim) (w : World) (hf : Clss F w fv cs) (hk : Claims (fun _ => True) w kv ks) (hv : -20000 ≤ v ∧ v ≤ 20000) (hl : cs.length ≤ 4000) (hll : ∀ c ∈ cs, c.length ≤ 4000) :
    Calls Tryz.prog 146 #[fv, .int .i64 v, kv] w (BoolPost w (residualsM cs v ks)) := by
  obtain ⟨fa, fn, fc, rfl, _, _⟩ := hf.form'
  obtain ⟨ka, kn, kc, rfl, HKN, _⟩ := hk.form
  by_cases h2 : kn = 2
  rotate_left
  · have hR : residualsM cs v ks = false := by unfold residualsM; rw [decide_eq_false (by rw [← HKN.out]; exact h2)]; rfl
    have d2 : ((kn : Int) == 2) = false := by simp; omega
    have d3 : decide ((kn : Int) = 2) = false := decide_eq_false (by omega)
    have d4 : (kn == 2) = false := by simp; exact h2
    have d5 : decide (kn = 2) = false := decide_eq_false h2
    rw [hR]
    clear hR hf hk
    go_enter Tryz.func146, Tryz.ntmps146
    go_wp2_with fail
    refine wp_region_held_drew (S := fun _ => True) (by kernel_rfl) (by trivial) (fun hHeld => ?_)
    refine wpAnyH_take (i := 0) (v := ?_) rfl (by kernel_rfl) (by kernel_rfl) (by kernel_rfl) (fun _ _ _ h => h) (Or.inl ⟨by rfl, ?_⟩) (by assumption) ?_
    rotate_left
    · intro w hSw
      try dsimp only at hSw
      go_simp
      try with_reducible rfl
    try simp only [Act.put, List.getElem_toArray, List.getElem_cons_succ, List.getElem_cons_zero, List.setIfInBounds_toArray, List.set_cons_zero, List.set_cons_succ]
    refine wpAnyH_take (i := 1) (v := ?_) rfl (by kernel_rfl) (by kernel_rfl) (by kernel_rfl) (fun _ _ _ h => h) (Or.inl ⟨by rfl, ?_⟩) (by assumption) ?_
    rotate_left
    · intro w hSw
      try dsimp only at hSw
      go_simp
      try with_reducible rfl
    try simp only [Act.put, List.getElem_toArray, List.getElem_cons_succ, List.getElem_cons_zero, List.setIfInBounds_toArray, List.set_cons_zero, List.set_cons_succ]
    refine wpAnyH_take (i := 2) (v := ?_) rfl (by kernel_rfl) (by kernel_rfl) (by kernel_rfl) (fun _ _ _ h => h) (Or.inl ⟨by rfl, ?_⟩) (by assumption) ?_
    rotate_left
    · intro w hSw
      try dsimp only at hSw
      go_simp
      try with_reducible rfl
    try simp only [Act.put, List.getElem_toArray, List.getElem_cons_succ, List.getElem_cons_zero, List.setIfInBounds_toArray, List.set_cons_zero, List.set_cons_succ]
    refine wpAnyH_take (i := 3) (v := ?_) rfl (by kernel_rfl) (by kernel_rfl) (by kernel_rfl) (fun _ _ _ h => h) (Or.inl ⟨by rfl, ?_⟩) (by assumption) ?_
    rotate_left
    · intro w hSw
      try dsimp only at hSw
      go_simp
      try with_reducible rfl
    try simp only [Act.put, List.getElem_toArray, List.getElem_cons_succ, List.getElem_cons_zero, List.setIfInBounds_toArray, List.set_cons_zero, List.set_cons_succ]
    refine wpAnyH_take (i := 4) (v := undef) rfl (by kernel_rfl) (by kernel_rfl) (by kernel_rfl) (fun _ _ _ h => h) (Or.inr ⟨by rfl, rfl⟩) (by assumption) ?_
    try simp only [Act.put, List.getElem_toArray, List.getElem_cons_succ, List.getElem_cons_zero, List.setIfInBounds_toArray, List.set_cons_zero, List.set_cons_succ]
    refine wpAnyH_take (i := 5) (v := undef) rfl (by kernel_rfl) (by kernel_rfl) (by kernel_rfl) (fun _ _ _ h => h) (Or.inr ⟨by rfl, rfl⟩) (by assumption) ?_
    try simp only [Act.put, List.getElem_toArray, List.getElem_cons_succ, List.getElem_cons_zero, List.setIfInBounds_toArray, List.set_cons_zero, List.set_cons_succ]
    refine wpAnyH_take (i := 6) (v := undef) rfl (by kernel_rfl) (by kernel_rfl) (by kernel_rfl) (fun _ _ _ h => h) (Or.inr ⟨by rfl, rfl⟩) (by assumption) ?_
    try simp only [Act.put, List.getElem_toArray, List.getElem_cons_succ, List.getElem_cons_zero, List.setIfInBounds_toArray, List.set_cons_zero, List.set_cons_succ]
    refine wpAnyH_take (i := 7) (v := undef) rfl (by kernel_rfl) (by kernel_rfl) (by kernel_rfl) (fun _ _ _ h => h) (Or.inr ⟨by rfl, rfl⟩) (by assumption) ?_
    try simp only [Act.put, List.getElem_toArray, List.getElem_cons_succ, List.getElem_cons_zero, List.setIfInBounds_toArray, List.set_cons_zero, List.set_cons_succ]
    refine wpAnyH_take (i := 8) (v := undef) rfl (by kernel_rfl) (by kernel_rfl) (by kernel_rfl) (fun _ _ _ h => h) (Or.inr ⟨by rfl, rfl⟩) (by assumption) ?_
    try simp only [Act.put, List.getElem_toArray, List.getElem_cons_succ, List.getElem_cons_zero, List.setIfInBounds_toArray, List.set_cons_zero, List.set_cons_succ]
    refine wpAnyH_take (i := 9) (v := undef) rfl (by kernel_rfl) (by kernel_rfl) (by kernel_rfl) (fun _ _ _ h => h) (Or.inr ⟨by rfl, rfl⟩) (by assumption) ?_
    try simp only [Act.put, List.getElem_toArray, List.getElem_cons_succ, List.getElem_cons_zero, List.setIfInBounds_toArray, List.set_cons_zero, List.set_cons_succ]
    refine wpAnyH_take (i := 10) (v := undef) rfl (by kernel_rfl) (by kernel_rfl) (by kernel_rfl) (fun _ _ _ h => h) (Or.inr ⟨by rfl, rfl⟩) (by assumption) ?_
    try simp only [Act.put, List.getElem_toArray, List.getElem_cons_succ, List.getElem_cons_zero, List.setIfInBounds_toArray, List.set_cons_zero, List.set_cons_succ]
    refine wpAnyH_take (i := 11) (v := undef) rfl (by kernel_rfl) (by kernel_rfl) (by kernel_rfl) (fun _ _ _ h => h) (Or.inr ⟨by rfl, rfl⟩) (by assumption) ?_
    try simp only [Act.put, List.getElem_toArray, List.getElem_cons_succ, List.getElem_cons_zero, List.setIfInBounds_toArray, List.set_cons_zero, List.set_cons_succ]
    refine wpAnyH_take (i := 12) (v := undef) rfl (by kernel_rfl) (by kernel_rfl) (by kernel_rfl) (fun _ _ _ h => h) (Or.inr ⟨by rfl, rfl⟩) (by assumption) ?_
    try simp only [Act.put, List.getElem_toArray, List.getElem_cons_succ, List.getElem_cons_zero, List.setIfInBounds_toArray, List.set_cons_zero, List.set_cons_succ]
    refine wpAnyH_take (i := 13) (v := ?_) rfl (by kernel_rfl) (by kernel_rfl) (by kernel_rfl) (fun _ _ _ h => h) (Or.inl ⟨by rfl, ?_⟩) (by assumption) ?_
    rotate_left
    · intro w hSw
      try dsimp only at hSw
      go_simp
      try with_reducible rfl
    try simp only [Act.put, List.getElem_toArray, List.getElem_cons_succ, List.getElem_cons_zero, List.setIfInBounds_toArray, List.set_cons_zero, List.set_cons_succ]
    refine wpAnyH_take (i := 14) (v := ?_) rfl (by kernel_rfl) (by kernel_rfl) (by kernel_rfl) (fun _ _ _ h => h) (Or.inl ⟨by rfl, ?_⟩) (by assumption) ?_
    rotate_left
    · intro w hSw
      try dsimp only at hSw
      go_simp
      try with_reducible rfl
    try simp only [Act.put, List.getElem_toArray, List.getElem_cons_succ, List.getElem_cons_zero, List.setIfInBounds_toArray, List.set_cons_zero, List.set_cons_succ]
    refine wpAnyH_take (i := 15) (v := undef) rfl (by kernel_rfl) (by kernel_rfl) (by kernel_rfl) (fun _ _ _ h => h) (Or.inr ⟨by rfl, rfl⟩) (by assumption) ?_
    try simp only [Act.put, List.getElem_toArray, List.getElem_cons_succ, List.getElem_cons_zero, List.setIfInBounds_toArray, List.set_cons_zero, List.set_cons_succ]
    refine wpAnyH_take (i := 16) (v := undef) rfl (by kernel_rfl) (by kernel_rfl) (by kernel_rfl) (fun _ _ _ h => h) (Or.inr ⟨by rfl, rfl⟩) (by assumption) ?_
    try simp only [Act.put, List.getElem_toArray, List.getElem_cons_succ, List.getElem_cons_zero, List.setIfInBounds_toArray, List.set_cons_zero, List.set_cons_succ]
    refine wpAnyH_take (i := 17) (v := undef) rfl (by kernel_rfl) (by kernel_rfl) (by kernel_rfl) (fun _ _ _ h => h) (Or.inr ⟨by rfl, rfl⟩) (by assumption) ?_
    try simp only [Act.put, List.getElem_toArray, List.getElem_cons_succ, List.getElem_cons_zero, List.setIfInBounds_toArray, List.set_cons_zero, List.set_cons_succ]
    refine wpAnyH_take (i := 18) (v := undef) rfl (by kernel_rfl) (by kernel_rfl) (by kernel_rfl) (fun _ _ _ h => h) (Or.inr ⟨by rfl, rfl⟩) (by assumption) ?_
    try simp only [Act.put, List.getElem_toArray, List.getElem_cons_succ, List.getElem_cons_zero, List.setIfInBounds_toArray, List.set_cons_zero, List.set_cons_succ]
    refine wpAnyH_take (i := 19) (v := undef) rfl (by kernel_rfl) (by kernel_rfl) (by kernel_rfl) (fun _ _ _ h => h) (Or.inr ⟨by rfl, rfl⟩) (by assumption) ?_
    try simp only [Act.put, List.getElem_toArray, List.getElem_cons_succ, List.getElem_cons_zero, List.setIfInBounds_toArray, List.set_cons_zero, List.set_cons_succ]
    refine wpAnyH_take (i := 20) (v := undef) rfl (by kernel_rfl) (by kernel_rfl) (by kernel_rfl) (fun _ _ _ h => h) (Or.inr ⟨by rfl, rfl⟩) (by assumption) ?_
    try simp only [Act.put, List.getElem_toArray, List.getElem_cons_succ, List.getElem_cons_zero, List.setIfInBounds_toArray, List.set_cons_zero, List.set_cons_succ]
    refine wpAnyH_take (i := 21) (v := undef) rfl (by kernel_rfl) (by kernel_rfl) (by kernel_rfl) (fun _ _ _ h => h) (Or.inr ⟨by rfl, rfl⟩) (by assumption) ?_
    try simp only [Act.put, List.getElem_toArray, List.getElem_cons_succ, List.getElem_cons_zero, List.setIfInBounds_toArray, List.set_cons_zero, List.set_cons_succ]
    refine wpAnyH_take (i := 22) (v := undef) rfl (by kernel_rfl) (by kernel_rfl) (by kernel_rfl) (fun _ _ _ h => h) (Or.inr ⟨by rfl, rfl⟩) (by assumption) ?_
    try simp only [Act.put, List.getElem_toArray, List.getElem_cons_succ, List.getElem_cons_zero, List.setIfInBounds_toArray, List.set_cons_zero, List.set_cons_succ]
    refine wpAnyH_take (i := 23) (v := ?_) rfl (by kernel_rfl) (by kernel_rfl) (by kernel_rfl) (fun _ _ _ h => h) (Or.inl ⟨by rfl, ?_⟩) (by assumption) ?_
    rotate_left
    · intro w hSw
      try dsimp only at hSw
      go_simp
      try with_reducible rfl
    try simp only [Act.put, List.getElem_toArray, List.getElem_cons_succ, List.getElem_cons_zero, List.setIfInBounds_toArray, List.set_cons_zero, List.set_cons_succ]
    refine wpAnyH_take (i := 24) (v := ?_) rfl (by kernel_rfl) (by kernel_rfl) (by kernel_rfl) (fun _ _ _ h => h) (Or.inl ⟨by rfl, ?_⟩) (by assumption) ?_
    rotate_left
    · intro w hSw
      try dsimp only at hSw
      go_simp
      try with_reducible rfl
    try simp only [Act.put, List.getElem_toArray, List.getElem_cons_succ, List.getElem_cons_zero, List.setIfInBounds_toArray, List.set_cons_zero, List.set_cons_succ]
    refine wpAnyH_done (by kernel_rfl) ?_ _
    go_wp2_with fail
    go_ret
    exact ⟨by simp, (Below.refl _ _).drew⟩
  · subst h2
    obtain ⟨c0, hc0⟩ : ∃ c, ks[0]? = some c := ⟨_, List.getElem?_eq_getElem (by rw [← HKN.out]; omega)⟩
    obtain ⟨c1, hc1⟩ : ∃ c, ks[1]? = some c := ⟨_, List.getElem?_eq_getElem (by rw [← HKN.out]; omega)⟩
    obtain ⟨kb, ko, xv0, kv0, rfl, _, hkb, j0, _, _, _, _, hv0⟩ := hk.at hc0
    obtain ⟨kb', ko', xv1, kv1, he, _, _, i0, _, _, _, _, hv1⟩ := hk.at hc1
    injection he with he
    injection he with he1 he2
    subst he1 he2
    have j0 : w.cell? ⟨kb, ko, none⟩ = some xv0 := by simpa using j0
    have i0 : w.cell? ⟨kb, ko + 5, none⟩ = some xv1 := by simpa using i0
    have hq0 : Clss (fun _ => True) w xv0 c0.cls := hv0.1.1
    have hq1 : Clss (fun _ => True) w xv1 c1.cls := hv1.1.1
    obtain ⟨a0, n0, p0, rfl, _, _⟩ := hq0.form'
    obtain ⟨a1, n1, p1, rfl, _, _⟩ := hq1.form'
    obtain ⟨B0, hB0⟩ : ∃ B, (c0.cls == resM cs (-v)) = B := ⟨_, rfl⟩
    have hR : residualsM cs v ks = (B0 && (c1.cls == resM cs v)) := by
      unfold residualsM
      rw [decide_eq_true (by rw [← HKN.out]), Bool.true_and, List.getD_eq_getElem?_getD, List.getD_eq_getElem?_getD, hc0, hc1]
      show (c0.cls == resM cs (-v) && (c1.cls == resM cs v)) = _
      rw [hB0]
    have HRA := Lib.hid (lresidual_any _ _ cs (-v) w.drew (hf.below (Below.refl _ _).drew) (by unfold I64; omega) (by omega) (fun c hc => by have := hll c hc; omega))
    have HEQ : Hid (∀ rv w5, Below w.drew.heap.size w.drew w5 → Clss (fun b => w.drew.heap.size ≤ b) w5 rv (resM cs (-v)) → Calls Tryz.prog 57 #[.slice a0 n0 p0, rv] w5 (QuietPost w5 (.bool B0))) := Lib.hid fun rv w5 hb5 hrv => by
      rw [← hB0]
      exact lequal_any _ _ _ _ w5 ((hq0.below (Below.refl _ _).drew).below hb5) hrv
    have HRB : Hid (∀ W, Below w.drew.heap.size w.drew W → Calls Tryz.prog 59 #[.slice fa fn fc, .int .i64 v] W (ResPost W cs v)) := Lib.hid fun W hW => lresidual_any _ _ cs v W ((hf.below (Below.refl _ _).drew).below hW) (by unfold I64; omega) (by omega) (fun c hc => by have := hll c hc; omega)
    have HEQB : Hid (∀ B1, (c1.cls == resM cs v) = B1 → Hid (∀ rv w5, Below w.drew.heap.size w.drew w5 → ∀ {G : Nat → Prop}, Clss G w5 rv (resM cs v) → Calls Tryz.prog 57 #[.slice a1 n1 p1, rv] w5 (QuietPost w5 (.bool B1)))) := Lib.hid fun B1 hB1 => Lib.hid fun rv w5 hb5 {G} hrv => by
      rw [← hB1]
      exact lequal_any _ _ _ _ w5 ((hq1.below (Below.refl _ _).drew).below hb5) hrv
    have hwv : IntKind.i64.wrap (-v) = -v := IntWalk.i64_in _ ⟨by omega, by omega⟩
    have HR := Lib.hid hR
    clear hR hf hk hc0 hc1 hv0 hv1 hq0 hq1 hB0
    rcases bool2 B0 with rfl | rfl
    rotate_left
    · rw [HR.out, Bool.false_and]
      go_enter Tryz.func146, Tryz.ntmps146
      go_wp2_with fail
      refine wp_region_held_drew (S := fun w' => w'.cell? ⟨kb, ko, none⟩ = some (.slice a0 n0 p0) ∧ w'.cell? ⟨kb, ko + 5, none⟩ = some (.slice a1 n1 p1)) (by kernel_rfl) (by exact ⟨j0, i0⟩) (fun hHeld => ?_)
      refine wpAnyH_take (i := 0) (v := ?_) rfl (by kernel_rfl) (by kernel_rfl) (by kernel_rfl) (fun _ _ _ h => h) (Or.inl ⟨by rfl, ?_⟩) (by assumption) ?_
      rotate_left
      · intro w hSw
        try dsimp only at hSw
        go_simp
        try with_reducible rfl
      try simp only [Act.put, List.getElem_toArray, List.getElem_cons_succ, List.getElem_cons_zero, List.setIfInBounds_toArray, List.set_cons_zero, List.set_cons_succ]
      refine wpAnyH_take (i := 1) (v := ?_) rfl (by kernel_rfl) (by kernel_rfl) (by kernel_rfl) (fun _ _ _ h => h) (Or.inl ⟨by rfl, ?_⟩) (by assumption) ?_
      rotate_left
      · intro w hSw
        try dsimp only at hSw
        go_simp
        try with_reducible rfl
      try simp only [Act.put, List.getElem_toArray, List.getElem_cons_succ, List.getElem_cons_zero, List.setIfInBounds_toArray, List.set_cons_zero, List.set_cons_succ]
      refine wpAnyH_take (i := 2) (v := ?_) rfl (by kernel_rfl) (by kernel_rfl) (by kernel_rfl) (fun _ _ _ h => h) (Or.inl ⟨by rfl, ?_⟩) (by assumption) ?_
      rotate_left
      · intro w hSw
        try dsimp only at hSw
        go_simp
        try with_reducible rfl
      try simp only [Act.put, List.getElem_toArray, List.getElem_cons_succ, List.getElem_cons_zero, List.setIfInBounds_toArray, List.set_cons_zero, List.set_cons_succ]
      refine wpAnyH_take (i := 3) (v := ?_) rfl (by kernel_rfl) (by kernel_rfl) (by kernel_rfl) (fun _ _ _ h => h) (Or.inl ⟨by rfl, ?_⟩) (by assumption) ?_
      rotate_left
      · intro w hSw
        try dsimp only at hSw
        go_simp
        try with_reducible rfl
      try simp only [Act.put, List.getElem_toArray, List.getElem_cons_succ, List.getElem_cons_zero, List.setIfInBounds_toArray, List.set_cons_zero, List.set_cons_succ]
      refine wpAnyH_take (i := 4) (v := ?_) rfl (by kernel_rfl) (by kernel_rfl) (by kernel_rfl) (fun _ _ _ h => h) (Or.inl ⟨by rfl, ?_⟩) (by assumption) ?_
      rotate_left
      · intro w hSw
        try dsimp only at hSw
        go_simp
        try with_reducible rfl
      try simp only [Act.put, List.getElem_toArray, List.getElem_cons_succ, List.getElem_cons_zero, List.setIfInBounds_toArray, List.set_cons_zero, List.set_cons_succ]
      refine wpAnyH_take (i := 5) (v := ?_) rfl (by kernel_rfl) (by kernel_rfl) (by kernel_rfl) (fun _ _ _ h => h) (Or.inl ⟨by rfl, ?_⟩) (by assumption) ?_
      rotate_left
      · intro w hSw
        try dsimp only at hSw
        go_simp
        try with_reducible rfl
      try simp only [Act.put, List.getElem_toArray, List.getElem_cons_succ, List.getElem_cons_zero, List.setIfInBounds_toArray, List.set_cons_zero, List.set_cons_succ]
      refine wpAnyH_take (i := 6) (v := ?_) rfl (by kernel_rfl) (by kernel_rfl) (by kernel_rfl) (fun _ _ _ h => h) (Or.inl ⟨by rfl, ?_⟩) (by assumption) ?_
      rotate_left
      · intro w hSw
        try dsimp only at hSw
        go_simp
        try with_reducible rfl
      try simp only [Act.put, List.getElem_toArray, List.getElem_cons_succ, List.getElem_cons_zero, List.setIfInBounds_toArray, List.set_cons_zero, List.set_cons_succ]
      refine wpAnyH_take (i := 7) (v := ?_) rfl (by kernel_rfl) (by kernel_rfl) (by kernel_rfl) (fun _ _ _ h => h) (Or.inl ⟨by rfl, ?_⟩) (by assumption) ?_
      rotate_left
      · intro w hSw
        try dsimp only at hSw
        go_simp
        try with_reducible rfl
      try simp only [Act.put, List.getElem_toArray, List.getElem_cons_succ, List.getElem_cons_zero, List.setIfInBounds_toArray, List.set_cons_zero, List.set_cons_succ]
      refine wpAnyH_take (i := 8) (v := ?_) rfl (by kernel_rfl) (by kernel_rfl) (by kernel_rfl) (fun _ _ _ h => h) (Or.inl ⟨by rfl, ?_⟩) (by assumption) ?_
      rotate_left
      · intro w hSw
        try dsimp only at hSw
        go_simp
        try with_reducible rfl
      try simp only [Act.put, List.getElem_toArray, List.getElem_cons_succ, List.getElem_cons_zero, List.setIfInBounds_toArray, List.set_cons_zero, List.set_cons_succ]
      refine wpAnyH_take (i := 9) (v := ?_) rfl (by kernel_rfl) (by kernel_rfl) (by kernel_rfl) (fun _ _ _ h => h) (Or.inl ⟨by rfl, ?_⟩) (by assumption) ?_
      rotate_left
      · intro w hSw
        try dsimp only at hSw
        go_simp
        try with_reducible rfl
      try simp only [Act.put, List.getElem_toArray, List.getElem_cons_succ, List.getElem_cons_zero, List.setIfInBounds_toArray, List.set_cons_zero, List.set_cons_succ]
      refine wpAnyH_take (i := 10) (v := ?_) rfl (by kernel_rfl) (by kernel_rfl) (by kernel_rfl) (fun _ _ _ h => h) (Or.inl ⟨by rfl, ?_⟩) (by assumption) ?_
      rotate_left
      · intro w hSw
        try dsimp only at hSw
        go_simp
        try with_reducible rfl
      try simp only [Act.put, List.getElem_toArray, List.getElem_cons_succ, List.getElem_cons_zero, List.setIfInBounds_toArray, List.set_cons_zero, List.set_cons_succ]
      refine wpAnyH_ready (rs := [11]) (by kernel_rfl) (by simp) ?_
      refine AllReadyH.cons rfl (fun K hK => ?_) AllReadyH.nil
      go_simp
      (go_at_call 59; refine HRA.out.mono ?_; rintro e w5 ⟨rv, rfl, hrv, hb5⟩; have HRV := Lib.hid hrv; obtain ⟨ra, rn, rc, rfl, _, _⟩ := hrv.form'; have HB5 := Lib.hid hb5; have x0 := below_c hb5 (by show kb < w.heap.size; omega) j0; have x1 := below_c hb5 (by show kb < w.heap.size; omega) i0; clear hrv hb5)
      go_wp2_with fail
      refine hK.out _ _ (by exact ⟨x0, x1⟩) (fun hHeld2 => ?_)
      clear hK K
      try simp only [Act.put, List.getElem_toArray, List.getElem_cons_succ, List.getElem_cons_zero, List.setIfInBounds_toArray, List.set_cons_zero, List.set_cons_succ]
      refine wpAnyH_ready (rs := [12]) (by kernel_rfl) (by simp) ?_
      refine AllReadyH.cons rfl (fun K hK => ?_) AllReadyH.nil
      go_simp
      (go_at_call 57; refine (HEQ.out _ _ HB5.out HRV.out).mono ?_; rintro e w6 ⟨rfl, nd, rfl⟩)
      go_wp2_with fail
      refine hK.out _ _ (by exact ⟨x0, x1⟩) (fun hHeld2 => ?_)
      clear hK K
      try simp only [Act.put, List.getElem_toArray, List.getElem_cons_succ, List.getElem_cons_zero, List.setIfInBounds_toArray, List.set_cons_zero, List.set_cons_succ]
      refine wpAnyH_take (i := 13) (v := ?_) rfl (by kernel_rfl) (by kernel_rfl) (by kernel_rfl) (fun _ _ _ h => h) (Or.inl ⟨by rfl, ?_⟩) (by assumption) ?_
      rotate_left
      · intro w hSw
        try dsimp only at hSw
        go_simp
        try with_reducible rfl
      try simp only [Act.put, List.getElem_toArray, List.getElem_cons_succ, List.getElem_cons_zero, List.setIfInBounds_toArray, List.set_cons_zero, List.set_cons_succ]
      refine wpAnyH_take (i := 14) (v := ?_) rfl (by kernel_rfl) (by kernel_rfl) (by kernel_rfl) (fun _ _ _ h => h) (Or.inl ⟨by rfl, ?_⟩) (by assumption) ?_
      rotate_left
      · intro w hSw
        try dsimp only at hSw
        go_simp
        try with_reducible rfl
      try simp only [Act.put, List.getElem_toArray, List.getElem_cons_succ, List.getElem_cons_zero, List.setIfInBounds_toArray, List.set_cons_zero, List.set_cons_succ]
      refine wpAnyH_take (i := 15) (v := undef) rfl (by kernel_rfl) (by kernel_rfl) (by kernel_rfl) (fun _ _ _ h => h) (Or.inr ⟨by rfl, rfl⟩) (by assumption) ?_
      try simp only [Act.put, List.getElem_toArray, List.getElem_cons_succ, List.getElem_cons_zero, List.setIfInBounds_toArray, List.set_cons_zero, List.set_cons_succ]
      refine wpAnyH_take (i := 16) (v := undef) rfl (by kernel_rfl) (by kernel_rfl) (by kernel_rfl) (fun _ _ _ h => h) (Or.inr ⟨by rfl, rfl⟩) (by assumption) ?_
      try simp only [Act.put, List.getElem_toArray, List.getElem_cons_succ, List.getElem_cons_zero, List.setIfInBounds_toArray, List.set_cons_zero, List.set_cons_succ]
      refine wpAnyH_take (i := 17) (v := undef) rfl (by kernel_rfl) (by kernel_rfl) (by kernel_rfl) (fun _ _ _ h => h) (Or.inr ⟨by rfl, rfl⟩) (by assumption) ?_
      try simp only [Act.put, List.getElem_toArray, List.getElem_cons_succ, List.getElem_cons_zero, List.setIfInBounds_toArray, List.set_cons_zero, List.set_cons_succ]
      refine wpAnyH_take (i := 18) (v := undef) rfl (by kernel_rfl) (by kernel_rfl) (by kernel_rfl) (fun _ _ _ h => h) (Or.inr ⟨by rfl, rfl⟩) (by assumption) ?_
      try simp only [Act.put, List.getElem_toArray, List.getElem_cons_succ, List.getElem_cons_zero, List.setIfInBounds_toArray, List.set_cons_zero, List.set_cons_succ]
      refine wpAnyH_take (i := 19) (v := undef) rfl (by kernel_rfl) (by kernel_rfl) (by kernel_rfl) (fun _ _ _ h => h) (Or.inr ⟨by rfl, rfl⟩) (by assumption) ?_
      try simp only [Act.put, List.getElem_toArray, List.getElem_cons_succ, List.getElem_cons_zero, List.setIfInBounds_toArray, List.set_cons_zero, List.set_cons_succ]
      refine wpAnyH_take (i := 20) (v := undef) rfl (by kernel_rfl) (by kernel_rfl) (by kernel_rfl) (fun _ _ _ h => h) (Or.inr ⟨by rfl, rfl⟩) (by assumption) ?_
      try simp only [Act.put, List.getElem_toArray, List.getElem_cons_succ, List.getElem_cons_zero, List.setIfInBounds_toArray, List.set_cons_zero, List.set_cons_succ]
      refine wpAnyH_take (i := 21) (v := undef) rfl (by kernel_rfl) (by kernel_rfl) (by kernel_rfl) (fun _ _ _ h => h) (Or.inr ⟨by rfl, rfl⟩) (by assumption) ?_
      try simp only [Act.put, List.getElem_toArray, List.getElem_cons_succ, List.getElem_cons_zero, List.setIfInBounds_toArray, List.set_cons_zero, List.set_cons_succ]
      refine wpAnyH_take (i := 22) (v := undef) rfl (by kernel_rfl) (by kernel_rfl) (by kernel_rfl) (fun _ _ _ h => h) (Or.inr ⟨by rfl, rfl⟩) (by assumption) ?_
      try simp only [Act.put, List.getElem_toArray, List.getElem_cons_succ, List.getElem_cons_zero, List.setIfInBounds_toArray, List.set_cons_zero, List.set_cons_succ]
      refine wpAnyH_take (i := 23) (v := ?_) rfl (by kernel_rfl) (by kernel_rfl) (by kernel_rfl) (fun _ _ _ h => h) (Or.inl ⟨by rfl, ?_⟩) (by assumption) ?_
      rotate_left
      · intro w hSw
        try dsimp only at hSw
        go_simp
        try with_reducible rfl
      try simp only [Act.put, List.getElem_toArray, List.getElem_cons_succ, List.getElem_cons_zero, List.setIfInBounds_toArray, List.set_cons_zero, List.set_cons_succ]
      refine wpAnyH_take (i := 24) (v := ?_) rfl (by kernel_rfl) (by kernel_rfl) (by kernel_rfl) (fun _ _ _ h => h) (Or.inl ⟨by rfl, ?_⟩) (by assumption) ?_
      rotate_left
      · intro w hSw
        try dsimp only at hSw
        go_simp
        try with_reducible rfl
      try simp only [Act.put, List.getElem_toArray, List.getElem_cons_succ, List.getElem_cons_zero, List.setIfInBounds_toArray, List.set_cons_zero, List.set_cons_succ]
      refine wpAnyH_done (by kernel_rfl) ?_ _
      go_wp2_with fail
      go_ret
      exact ⟨by simp, below_drewN ((show Below w.heap.size w w.drew from (Below.refl _ _).drew).trans HB5.out) nd⟩
    · obtain ⟨B1, hB1⟩ : ∃ B, (c1.cls == resM cs v) = B := ⟨_, rfl⟩
      rw [HR.out, Bool.true_and, hB1]
      have HEQ2 := HEQB.out B1 hB1
      clear hB1
      go_enter Tryz.func146, Tryz.ntmps146
      go_wp2_with fail
      refine wp_region_held_drew (S := fun w' => w'.cell? ⟨kb, ko, none⟩ = some (.slice a0 n0 p0) ∧ w'.cell? ⟨kb, ko + 5, none⟩ = some (.slice a1 n1 p1)) (by kernel_rfl) (by exact ⟨j0, i0⟩) (fun hHeld => ?_)
      refine wpAnyH_take (i := 0) (v := ?_) rfl (by kernel_rfl) (by kernel_rfl) (by kernel_rfl) (fun _ _ _ h => h) (Or.inl ⟨by rfl, ?_⟩) (by assumption) ?_
      rotate_left
      · intro w hSw
        try dsimp only at hSw
        go_simp
        try with_reducible rfl
      try simp only [Act.put, List.getElem_toArray, List.getElem_cons_succ, List.getElem_cons_zero, List.setIfInBounds_toArray, List.set_cons_zero, List.set_cons_succ]
      refine wpAnyH_take (i := 1) (v := ?_) rfl (by kernel_rfl) (by kernel_rfl) (by kernel_rfl) (fun _ _ _ h => h) (Or.inl ⟨by rfl, ?_⟩) (by assumption) ?_
      rotate_left
      · intro w hSw
        try dsimp only at hSw
        go_simp
        try with_reducible rfl
      try simp only [Act.put, List.getElem_toArray, List.getElem_cons_succ, List.getElem_cons_zero, List.setIfInBounds_toArray, List.set_cons_zero, List.set_cons_succ]
      refine wpAnyH_take (i := 2) (v := ?_) rfl (by kernel_rfl) (by kernel_rfl) (by kernel_rfl) (fun _ _ _ h => h) (Or.inl ⟨by rfl, ?_⟩) (by assumption) ?_
      rotate_left
      · intro w hSw
        try dsimp only at hSw
        go_simp
        try with_reducible rfl
      try simp only [Act.put, List.getElem_toArray, List.getElem_cons_succ, List.getElem_cons_zero, List.setIfInBounds_toArray, List.set_cons_zero, List.set_cons_succ]
      refine wpAnyH_take (i := 3) (v := ?_) rfl (by kernel_rfl) (by kernel_rfl) (by kernel_rfl) (fun _ _ _ h => h) (Or.inl ⟨by rfl, ?_⟩) (by assumption) ?_
      rotate_left
      · intro w hSw
        try dsimp only at hSw
        go_simp
        try with_reducible rfl
      try simp only [Act.put, List.getElem_toArray, List.getElem_cons_succ, List.getElem_cons_zero, List.setIfInBounds_toArray, List.set_cons_zero, List.set_cons_succ]
      refine wpAnyH_take (i := 4) (v := ?_) rfl (by kernel_rfl) (by kernel_rfl) (by kernel_rfl) (fun _ _ _ h => h) (Or.inl ⟨by rfl, ?_⟩) (by assumption) ?_
      rotate_left
      · intro w hSw
        try dsimp only at hSw
        go_simp
        try with_reducible rfl
      try simp only [Act.put, List.getElem_toArray, List.getElem_cons_succ, List.getElem_cons_zero, List.setIfInBounds_toArray, List.set_cons_zero, List.set_cons_succ]
      refine wpAnyH_take (i := 5) (v := ?_) rfl (by kernel_rfl) (by kernel_rfl) (by kernel_rfl) (fun _ _ _ h => h) (Or.inl ⟨by rfl, ?_⟩) (by assumption) ?_
      rotate_left
      · intro w hSw
        try dsimp only at hSw
        go_simp
        try with_reducible rfl
      try simp only [Act.put, List.getElem_toArray, List.getElem_cons_succ, List.getElem_cons_zero, List.setIfInBounds_toArray, List.set_cons_zero, List.set_cons_succ]
      refine wpAnyH_take (i := 6) (v := ?_) rfl (by kernel_rfl) (by kernel_rfl) (by kernel_rfl) (fun _ _ _ h => h) (Or.inl ⟨by rfl, ?_⟩) (by assumption) ?_
      rotate_left
      · intro w hSw
        try dsimp only at hSw
        go_simp
        try with_reducible rfl
      try simp only [Act.put, List.getElem_toArray, List.getElem_cons_succ, List.getElem_cons_zero, List.setIfInBounds_toArray, List.set_cons_zero, List.set_cons_succ]
      refine wpAnyH_take (i := 7) (v := ?_) rfl (by kernel_rfl) (by kernel_rfl) (by kernel_rfl) (fun _ _ _ h => h) (Or.inl ⟨by rfl, ?_⟩) (by assumption) ?_
      rotate_left
      · intro w hSw
        try dsimp only at hSw
        go_simp
        try with_reducible rfl
      try simp only [Act.put, List.getElem_toArray, List.getElem_cons_succ, List.getElem_cons_zero, List.setIfInBounds_toArray, List.set_cons_zero, List.set_cons_succ]
      refine wpAnyH_take (i := 8) (v := ?_) rfl (by kernel_rfl) (by kernel_rfl) (by kernel_rfl) (fun _ _ _ h => h) (Or.inl ⟨by rfl, ?_⟩) (by assumption) ?_
      rotate_left
      · intro w hSw
        try dsimp only at hSw
        go_simp
        try with_reducible rfl
      try simp only [Act.put, List.getElem_toArray, List.getElem_cons_succ, List.getElem_cons_zero, List.setIfInBounds_toArray, List.set_cons_zero, List.set_cons_succ]
      refine wpAnyH_take (i := 9) (v := ?_) rfl (by kernel_rfl) (by kernel_rfl) (by kernel_rfl) (fun _ _ _ h => h) (Or.inl ⟨by rfl, ?_⟩) (by assumption) ?_
      rotate_left
      · intro w hSw
        try dsimp only at hSw
        go_simp
        try with_reducible rfl
      try simp only [Act.put, List.getElem_toArray, List.getElem_cons_succ, List.getElem_cons_zero, List.setIfInBounds_toArray, List.set_cons_zero, List.set_cons_succ]
      refine wpAnyH_take (i := 10) (v := ?_) rfl (by kernel_rfl) (by kernel_rfl) (by kernel_rfl) (fun _ _ _ h => h) (Or.inl ⟨by rfl, ?_⟩) (by assumption) ?_
      rotate_left
      · intro w hSw
        try dsimp only at hSw
        go_simp
        try with_reducible rfl
      try simp only [Act.put, List.getElem_toArray, List.getElem_cons_succ, List.getElem_cons_zero, List.setIfInBounds_toArray, List.set_cons_zero, List.set_cons_succ]
      refine wpAnyH_ready (rs := [11]) (by kernel_rfl) (by simp) ?_
      refine AllReadyH.cons rfl (fun K hK => ?_) AllReadyH.nil
      go_simp
      (go_at_call 59; refine HRA.out.mono ?_; rintro e w5 ⟨rv, rfl, hrv, hb5⟩; have HRV := Lib.hid hrv; obtain ⟨ra, rn, rc, rfl, _, _⟩ := hrv.form'; have HB5 := Lib.hid hb5; have x0 := below_c hb5 (by show kb < w.heap.size; omega) j0; have x1 := below_c hb5 (by show kb < w.heap.size; omega) i0; clear hrv hb5)
      go_wp2_with fail
      refine hK.out _ _ (by exact ⟨x0, x1⟩) (fun hHeld2 => ?_)
      clear hK K
      try simp only [Act.put, List.getElem_toArray, List.getElem_cons_succ, List.getElem_cons_zero, List.setIfInBounds_toArray, List.set_cons_zero, List.set_cons_succ]
      refine wpAnyH_ready (rs := [12]) (by kernel_rfl) (by simp) ?_
      refine AllReadyH.cons rfl (fun K hK => ?_) AllReadyH.nil
      go_simp
      (go_at_call 57; refine (HEQ.out _ _ HB5.out HRV.out).mono ?_; rintro e w6 ⟨rfl, nd, rfl⟩; have HB6 := Lib.hid (below_drewN HB5.out nd))
      go_wp2_with fail
      refine hK.out _ _ (by exact ⟨x0, x1⟩) (fun hHeld2 => ?_)
      clear hK K
      try simp only [Act.put, List.getElem_toArray, List.getElem_cons_succ, List.getElem_cons_zero, List.setIfInBounds_toArray, List.set_cons_zero, List.set_cons_succ]
      refine wpAnyH_take (i := 13) (v := ?_) rfl (by kernel_rfl) (by kernel_rfl) (by kernel_rfl) (fun _ _ _ h => h) (Or.inl ⟨by rfl, ?_⟩) (by assumption) ?_
      rotate_left
      · intro w hSw
        try dsimp only at hSw
        go_simp
        try with_reducible rfl
      try simp only [Act.put, List.getElem_toArray, List.getElem_cons_succ, List.getElem_cons_zero, List.setIfInBounds_toArray, List.set_cons_zero, List.set_cons_succ]
      refine wpAnyH_take (i := 14) (v := ?_) rfl (by kernel_rfl) (by kernel_rfl) (by kernel_rfl) (fun _ _ _ h => h) (Or.inl ⟨by rfl, ?_⟩) (by assumption) ?_
      rotate_left
      · intro w hSw
        try dsimp only at hSw
        go_simp
        try with_reducible rfl
      try simp only [Act.put, List.getElem_toArray, List.getElem_cons_succ, List.getElem_cons_zero, List.setIfInBounds_toArray, List.set_cons_zero, List.set_cons_succ]
      refine wpAnyH_take (i := 15) (v := ?_) rfl (by kernel_rfl) (by kernel_rfl) (by kernel_rfl) (fun _ _ _ h => h) (Or.inl ⟨by rfl, ?_⟩) (by assumption) ?_
      rotate_left
      · intro w hSw
        try dsimp only at hSw
        go_simp
        try with_reducible rfl
      try simp only [Act.put, List.getElem_toArray, List.getElem_cons_succ, List.getElem_cons_zero, List.setIfInBounds_toArray, List.set_cons_zero, List.set_cons_succ]
      refine wpAnyH_take (i := 16) (v := ?_) rfl (by kernel_rfl) (by kernel_rfl) (by kernel_rfl) (fun _ _ _ h => h) (Or.inl ⟨by rfl, ?_⟩) (by assumption) ?_
      rotate_left
      · intro w hSw
        try dsimp only at hSw
        go_simp
        try with_reducible rfl
      try simp only [Act.put, List.getElem_toArray, List.getElem_cons_succ, List.getElem_cons_zero, List.setIfInBounds_toArray, List.set_cons_zero, List.set_cons_succ]
      refine wpAnyH_take (i := 17) (v := ?_) rfl (by kernel_rfl) (by kernel_rfl) (by kernel_rfl) (fun _ _ _ h => h) (Or.inl ⟨by rfl, ?_⟩) (by assumption) ?_
      rotate_left
      · intro w hSw
        try dsimp only at hSw
        go_simp
        try with_reducible rfl
      try simp only [Act.put, List.getElem_toArray, List.getElem_cons_succ, List.getElem_cons_zero, List.setIfInBounds_toArray, List.set_cons_zero, List.set_cons_succ]
      refine wpAnyH_take (i := 18) (v := ?_) rfl (by kernel_rfl) (by kernel_rfl) (by kernel_rfl) (fun _ _ _ h => h) (Or.inl ⟨by rfl, ?_⟩) (by assumption) ?_
      rotate_left
      · intro w hSw
        try dsimp only at hSw
        go_simp
        try with_reducible rfl
      try simp only [Act.put, List.getElem_toArray, List.getElem_cons_succ, List.getElem_cons_zero, List.setIfInBounds_toArray, List.set_cons_zero, List.set_cons_succ]
      refine wpAnyH_take (i := 19) (v := ?_) rfl (by kernel_rfl) (by kernel_rfl) (by kernel_rfl) (fun _ _ _ h => h) (Or.inl ⟨by rfl, ?_⟩) (by assumption) ?_
      rotate_left
      · intro w hSw
        try dsimp only at hSw
        go_simp
        try with_reducible rfl
      try simp only [Act.put, List.getElem_toArray, List.getElem_cons_succ, List.getElem_cons_zero, List.setIfInBounds_toArray, List.set_cons_zero, List.set_cons_succ]
      refine wpAnyH_take (i := 20) (v := ?_) rfl (by kernel_rfl) (by kernel_rfl) (by kernel_rfl) (fun _ _ _ h => h) (Or.inl ⟨by rfl, ?_⟩) (by assumption) ?_
      rotate_left
      · intro w hSw
        try dsimp only at hSw
        go_simp
        try with_reducible rfl
      try simp only [Act.put, List.getElem_toArray, List.getElem_cons_succ, List.getElem_cons_zero, List.setIfInBounds_toArray, List.set_cons_zero, List.set_cons_succ]
      refine wpAnyH_ready (rs := [21]) (by kernel_rfl) (by simp) ?_
      refine AllReadyH.cons rfl (fun K hK => ?_) AllReadyH.nil
      go_simp
      (go_at_call 59; refine (HRB.out _ HB6.out).mono ?_; rintro e w7 ⟨rv, rfl, hrv, hb7⟩; have HRW := Lib.hid hrv; obtain ⟨sa, sn, sc, rfl, _, _⟩ := hrv.form'; have HB7 := Lib.hid (HB6.out.trans (hb7.mono HB6.out.size)); have v0 := below_c HB7.out (by show kb < w.heap.size; omega) j0; have v1 := below_c HB7.out (by show kb < w.heap.size; omega) i0; clear hrv hb7)
      go_wp2_with fail
      refine hK.out _ _ (by exact ⟨v0, v1⟩) (fun hHeld2 => ?_)
      clear hK K
      try simp only [Act.put, List.getElem_toArray, List.getElem_cons_succ, List.getElem_cons_zero, List.setIfInBounds_toArray, List.set_cons_zero, List.set_cons_succ]
      refine wpAnyH_ready (rs := [22]) (by kernel_rfl) (by simp) ?_
      refine AllReadyH.cons rfl (fun K hK => ?_) AllReadyH.nil
      go_simp
      (go_at_call 57; refine (HEQ2.out _ _ HB7.out HRW.out).mono ?_; rintro e w8 ⟨rfl, nd2, rfl⟩)
      go_wp2_with fail
      refine hK.out _ _ (by exact ⟨v0, v1⟩) (fun hHeld2 => ?_)
      clear hK K
      try simp only [Act.put, List.getElem_toArray, List.getElem_cons_succ, List.getElem_cons_zero, List.setIfInBounds_toArray, List.set_cons_zero, List.set_cons_succ]
      refine wpAnyH_take (i := 23) (v := ?_) rfl (by kernel_rfl) (by kernel_rfl) (by kernel_rfl) (fun _ _ _ h => h) (Or.inl ⟨by rfl, ?_⟩) (by assumption) ?_
      rotate_left
      · intro w hSw
        try dsimp only at hSw
        go_simp
        try with_reducible rfl
      try simp only [Act.put, List.getElem_toArray, List.getElem_cons_succ, List.getElem_cons_zero, List.setIfInBounds_toArray, List.set_cons_zero, List.set_cons_succ]
      refine wpAnyH_take (i := 24) (v := ?_) rfl (by kernel_rfl) (by kernel_rfl) (by kernel_rfl) (fun _ _ _ h => h) (Or.inl ⟨by rfl, ?_⟩) (by assumption) ?_
      rotate_left
      · intro w hSw
        try dsimp only at hSw
        go_simp
        try with_reducible rfl
      try simp only [Act.put, List.getElem_toArray, List.getElem_cons_succ, List.getElem_cons_zero, List.setIfInBounds_toArray, List.set_cons_zero, List.set_cons_succ]
      refine wpAnyH_done (by kernel_rfl) ?_ _
      go_wp2_with fail
      go_ret
      exact ⟨by simp, below_drewN ((show Below w.heap.size w w.drew from (Below.refl _ _).drew).trans HB7.out) nd2⟩

/- (Trace seat Z) Plain: the statement's definition of a claim's following agrees with the checker's. No condition but the ranges. -/
open Go.ChangeShapes Go.WideShapes Go.ChangeAt Go.RowKit
set_option linter.unusedVariables false

def prodS : List Claim → Int → Int × Bool
  | [], p => (p, true)
  | k :: r, p => if 1099511627776 / k.count < p then (0, false) else prodS r (p * k.count)
def splitS (f : List (List Int)) (ks : List Claim) : Int × Bool :=
  if ks.length < 2 then (0, false)
  else if disjGo ks [] = false then (0, false)
  else if (allM ks).length ≠ f.length ∨ (canM (allM ks) == f) = false then (0, false)
  else if (ks.any fun k => decide (k.count = 0)) = true then (0, true)
  else prodS ks 1
def occB (c : Claim) : Bool := decide (0 < sizeM c.lit) && (occM c.cls).contains (sizeM c.lit)
def wovS (keep : Int) (c : Claim) : List Int := withoutM (keptM keep (occM c.cls)) (sizeM c.lit)
def unitS (keep : Int) (c : Claim) (ks : List Claim) : Bool :=
  if ks.length ≠ 1 ∨ sizeM c.lit = 0 ∨ (c.cls.any fun x => x == [c.lit]) = false ∨ resB c ks 0 c.lit = false then false
  else (liftS keep (wovS keep c) (ks.getD 0 clNil)).2 && (c.count == (liftS keep (wovS keep c) (ks.getD 0 clNil)).1)
def decS (keep : Int) (c : Claim) (ks : List Claim) : Bool :=
  if c.lit < 1 ∨ keep < c.lit ∨ occB c = false ∨ residualsM c.cls (sizeM c.lit) ks = false then false
  else (liftS keep (wovS keep c) (ks.getD 0 clNil)).2 && ((liftS keep (wovS keep c) (ks.getD 1 clNil)).2 && (c.count == (liftS keep (wovS keep c) (ks.getD 0 clNil)).1 + (liftS keep (wovS keep c) (ks.getD 1 clNil)).1))
def splS (c : Claim) (ks : List Claim) : Bool := (c.lit == 0) && ((splitS c.cls ks).2 && (c.count == (splitS c.cls ks).1))
def tryS (keep : Int) (c : Claim) (ks : List Claim) : Bool :=
  occB c && (decide ((keptM keep (occM c.cls)).length = 0) && (decide (ks.length = 1) && (resB c ks 0 c.lit && (((ks.getD 0 clNil).count == 1) && (c.count == 1)))))
def bothS (c : Claim) (ks : List Claim) : Bool :=
  decide (0 < c.lit) && (occB c && (residualsM c.cls (sizeM c.lit) ks && (((ks.getD 0 clNil).count == 0) && (((ks.getD 1 clNil).count == 0) && (c.count == 0)))))
def folS (keep : Int) (c : Claim) (ks : List Claim) : Bool :=
  if (ks.any fun k => decide (k.count < 0) || decide (1099511627776 < k.count)) = true then false
  else if c.rule = 0 then (c.lit == 0) && (decide (ks.length = 0) && (decide (c.cls.length = 0) && (c.count == 1)))
  else if c.rule = 1 then (c.lit == 0) && (decide (ks.length = 0) && (decide (0 < c.cls.length) && (decide ((c.cls.getD 0 []).length = 0) && (c.count == 0))))
  else if c.rule = 2 then unitS keep c ks
  else if c.rule = 3 then decS keep c ks
  else if c.rule = 4 then splS c ks
  else if c.rule = 5 then tryS keep c ks
  else if c.rule = 6 then bothS c ks
  else false

theorem size_iff {lit v : Int} (h : 1 ≤ v ∧ v ≤ 20000) : (lit = v ∨ lit = -v) ↔ sizeM lit = v := by
  unfold sizeM varM
  repeat' split
  all_goals omega
theorem size_range (lit : Int) : 0 ≤ sizeM lit ∧ sizeM lit ≤ 20000 := by
  unfold sizeM varM
  repeat' split
  all_goals omega
theorem varK_size {lit : Int} : ∀ {vs : List Int}, (∀ v ∈ vs, 1 ≤ v ∧ v ≤ 20000) → varK lit vs = if (decide (0 < sizeM lit) && vs.contains (sizeM lit)) = true then sizeM lit else 0
  | [], _ => by simp [varK]
  | v :: r, h => by
    have hv := h v (List.mem_cons_self ..)
    have ih := varK_size (lit := lit) (vs := r) fun x hx => h x (List.mem_cons_of_mem _ hx)
    rw [varK]
    by_cases q : sizeM lit = v
    · rw [if_pos ((size_iff hv).2 q), q]
      simp
      omega
    · rw [if_neg (fun h => q ((size_iff hv).1 h)), ih]
      simp [q]
theorem varK_occ (c : Claim) : varK c.lit (occM c.cls) = if occB c = true then sizeM c.lit else 0 := varK_size fun v hv => occM_range hv
theorem occB_pos {c : Claim} (h : occB c = true) : 0 < sizeM c.lit := by
  unfold occB at h
  simp at h
  exact h.1
theorem lost_eq (keep v : Int) (O : List Int) (cs : List (List Int)) : lostM v (keptM keep O) (occM cs) = lostS keep (withoutM (keptM keep O) v) cs := by
  unfold lostM lostS withoutM
  rw [List.filter_filter]
  congr 1
  refine List.filter_congr fun w hw => ?_
  have hk := (kept_mem.1 hw).2
  have : (keptM keep (occM cs)).contains w = (occM cs).contains w := by
    rw [Bool.eq_iff_iff]
    simp [kept_mem, hk]
  rw [this, Bool.and_comm]
theorem dbl_cases : ∀ (t : Nat) (n : Int), 0 ≤ n → n ≤ 1099511627776 → ((dblS t n).2 = true ∧ dblM t n = (dblS t n).1 ∧ 0 ≤ (dblS t n).1 ∧ (dblS t n).1 ≤ 1099511627776) ∨ ((dblS t n).2 = false ∧ (dblM t n < 0 ∨ 1099511627776 < dblM t n))
  | 0, n, h0, h1 => .inl ⟨rfl, rfl, h0, h1⟩
  | t + 1, n, h0, h1 => by
    rw [dblM, if_neg (by omega), dblS]
    by_cases q : 1099511627776 < n * 2
    · rw [if_pos q]
      refine .inr ⟨rfl, ?_⟩
      rcases t with _ | t
      · exact .inr q
      · rw [dblM, if_pos q]; exact .inl (by omega)
    · rw [if_neg q]
      exact dbl_cases t (n * 2) (by omega) (by omega)
theorem lift_cases (keep : Int) (c k : Claim) (h0 : 0 ≤ k.count) (h1 : k.count ≤ 1099511627776) :
    ((liftS keep (wovS keep c) k).2 = true ∧ liftM keep (sizeM c.lit) (occM c.cls) k = (liftS keep (wovS keep c) k).1 ∧ 0 ≤ (liftS keep (wovS keep c) k).1 ∧ (liftS keep (wovS keep c) k).1 ≤ 1099511627776) ∨
    ((liftS keep (wovS keep c) k).2 = false ∧ (liftM keep (sizeM c.lit) (occM c.cls) k < 0 ∨ 1099511627776 < liftM keep (sizeM c.lit) (occM c.cls) k)) := by
  unfold liftS liftM wovS
  rw [lost_eq]
  exact dbl_cases _ _ h0 h1
theorem prod_eq {cnt : Int} : ∀ {ks : List Claim} {p : Int}, prodGo cnt ks p = ((prodS ks p).2 && (cnt == (prodS ks p).1))
  | [], p => by simp [prodGo, prodS]
  | k :: r, p => by
    rw [prodGo, prodS]
    split
    · rfl
    · exact prod_eq
theorem spl_eq (c : Claim) (ks : List Claim) : splS c ks = splitM c ks := by
  unfold splS splitM splitS
  by_cases h0 : c.lit = 0
  · rw [show (c.lit == 0) = true by simpa using h0, Bool.true_and]
    by_cases h2 : ks.length < 2
    · rw [if_pos h2, if_pos (.inr h2)]; rfl
    have hn : ¬(c.lit ≠ 0 ∨ ks.length < 2) := by rintro (h | h); exact h h0; exact h2 h
    rw [if_neg h2, if_neg hn]
    by_cases h3 : disjGo ks [] = false
    · rw [if_pos h3, if_pos h3]; rfl
    rw [if_neg h3, if_neg h3]
    by_cases h4 : (allM ks).length ≠ c.cls.length ∨ (canM (allM ks) == c.cls) = false
    · rw [if_pos h4, if_pos h4]; rfl
    rw [if_neg h4, if_neg h4]
    by_cases h5 : (ks.any fun k => decide (k.count = 0)) = true
    · rw [if_pos h5, if_pos h5]; rfl
    rw [if_neg h5, if_neg h5]
    exact prod_eq.symm
  · rw [show (c.lit == 0) = false by simpa using h0, Bool.false_and, if_pos (.inl h0)]
theorem unit_eq {keep : Int} {c : Claim} {ks : List Claim} (hc : Cn' c.cls) (hk : ∀ k ∈ ks, 0 ≤ k.count ∧ k.count ≤ 1099511627776) (h0 : 0 ≤ c.count) (h1 : c.count ≤ 1099511627776) : unitS keep c ks = unitM keep c ks (occM c.cls) := by
  unfold unitS unitM
  by_cases ha : (c.cls.any fun x => x == [c.lit]) = false
  · rw [if_pos (.inr (.inr (.inl ha))), if_pos (.inr (.inr ha))]
  have ha' : (c.cls.any fun x => x == [c.lit]) = true := by simpa using ha
  obtain ⟨x, hx, hxe⟩ := List.any_eq_true.1 ha'
  have hxe := beq_iff_eq.1 hxe
  subst hxe
  have hl := hc.2 _ hx c.lit (List.mem_cons_self ..)
  have ho : varM c.lit ∈ occM c.cls := hc.mem.2 ⟨_, hx, c.lit, List.mem_cons_self .., rfl⟩
  have hs : sizeM c.lit = varM c.lit := by unfold sizeM; rw [if_neg (by omega)]
  have hb : occB c = true := by
    unfold occB
    rw [hs]
    have := occM_range ho
    simp [ho]
    omega
  rw [varK_occ, if_pos hb]
  have hp := occB_pos hb
  by_cases hn : ks.length = 1
  · obtain ⟨k, rfl⟩ : ∃ k, ks = [k] := by
      rcases ks with _ | ⟨a, _ | ⟨b, r⟩⟩
      · simp at hn
      · exact ⟨a, rfl⟩
      · simp at hn
    obtain ⟨k0, k1⟩ := hk k (List.mem_cons_self ..)
    rw [if_neg (show ¬(sizeM c.lit = 0 ∨ ([k] : List Claim).length ≠ 1 ∨ (c.cls.any fun x => x == [c.lit]) = false) by rintro (h | h | h); omega; exact h rfl; exact ha h)]
    by_cases hr : resB c [k] 0 c.lit = false
    · rw [if_pos (.inr (.inr (.inr hr))), hr]; rfl
    rw [if_neg (by rintro (h | h | h | h); exact h rfl; omega; exact ha h; exact hr h), show resB c [k] 0 c.lit = true by simpa using hr, Bool.true_and]
    show ((liftS keep (wovS keep c) k).2 && (c.count == (liftS keep (wovS keep c) k).1)) = (c.count == liftM keep (sizeM c.lit) (occM c.cls) k)
    rcases lift_cases keep c k k0 k1 with ⟨e1, e2, _, _⟩ | ⟨e1, e2⟩
    · rw [e1, e2, Bool.true_and]
    · rw [e1, Bool.false_and]
      symm
      simp
      omega
  · rw [if_pos (.inl hn), if_pos (.inr (.inl hn))]
theorem resd_eq {c : Claim} {ks : List Claim} (V : Int) : residualsM c.cls V ks = (decide (ks.length = 2) && (resB c ks 0 (-V) && resB c ks 1 V)) := rfl
theorem dec_eq {keep : Int} {c : Claim} {ks : List Claim} (hc : Cn' c.cls) (hk : ∀ k ∈ ks, 0 ≤ k.count ∧ k.count ≤ 1099511627776) (h0 : 0 ≤ c.count) (h1 : c.count ≤ 1099511627776) : decS keep c ks = decM keep c ks (occM c.cls) := by
  unfold decS decM
  rw [varK_occ]
  by_cases hb : occB c = true
  case neg =>
    rw [if_pos (.inr (.inr (.inl (by simpa using hb)))), if_pos (.inl (if_neg hb))]
  rw [if_pos hb]
  have hp := occB_pos hb
  have hz := size_range c.lit
  by_cases hl : c.lit = sizeM c.lit
  case neg =>
    have hlt : c.lit < 1 := by
      rcases (size_iff (lit := c.lit) ⟨hp, hz.2⟩).2 rfl with h | h
      · exact absurd h hl
      · omega
    rw [if_pos (.inl hlt), if_pos (.inr (.inl hl))]
  by_cases hkp : keep < sizeM c.lit
  · rw [if_pos (.inr (.inl (by omega))), if_pos (.inr (.inr (.inl hkp)))]
  rw [resd_eq]
  by_cases h2 : ks.length = 2
  case neg =>
    rw [if_pos (.inr (.inr (.inr (by rw [decide_eq_false h2]; rfl)))), if_pos (.inr (.inr (.inr (.inl h2))))]
  rw [decide_eq_true h2, Bool.true_and]
  by_cases r0 : resB c ks 0 (-sizeM c.lit) = false
  · rw [if_pos (.inr (.inr (.inr (by rw [r0]; rfl)))), if_pos (.inr (.inr (.inr (.inr (.inl r0)))))]
  by_cases r1 : resB c ks 1 (sizeM c.lit) = false
  · rw [if_pos (.inr (.inr (.inr (by rw [r1, Bool.and_false])))), if_pos (.inr (.inr (.inr (.inr (.inr r1)))))]
  have r0' : resB c ks 0 (-sizeM c.lit) = true := by simpa using r0
  have r1' : resB c ks 1 (sizeM c.lit) = true := by simpa using r1
  rw [if_neg (by rintro (h | h | h | h); omega; omega; rw [hb] at h; cases h; rw [r0', r1'] at h; cases h),
    if_neg (by rintro (h | h | h | h | h | h); omega; exact h hl; exact hkp h; exact h h2; exact r0 h; exact r1 h)]
  obtain ⟨a, b, rfl⟩ := two_ks h2
  obtain ⟨a0, a1⟩ := hk a (by simp)
  obtain ⟨b0, b1⟩ := hk b (by simp)
  show ((liftS keep (wovS keep c) a).2 && ((liftS keep (wovS keep c) b).2 && (c.count == (liftS keep (wovS keep c) a).1 + (liftS keep (wovS keep c) b).1))) = (decide (0 ≤ liftM keep (sizeM c.lit) (occM c.cls) a) && (decide (0 ≤ liftM keep (sizeM c.lit) (occM c.cls) b) && (c.count == liftM keep (sizeM c.lit) (occM c.cls) a + liftM keep (sizeM c.lit) (occM c.cls) b)))
  have hx := lift_cases keep c a a0 a1
  have hy := lift_cases keep c b b0 b1
  generalize liftM keep (sizeM c.lit) (occM c.cls) a = x at *
  generalize liftM keep (sizeM c.lit) (occM c.cls) b = y at *
  generalize liftS keep (wovS keep c) a = p at *
  generalize liftS keep (wovS keep c) b = q at *
  rcases hx with ⟨e1, e2, e3, e4⟩ | ⟨e1, e2⟩ <;> rcases hy with ⟨g1, g2, g3, g4⟩ | ⟨g1, g2⟩
  · rw [e1, g1, e2, g2, decide_eq_true e3, decide_eq_true g3]
  all_goals
    first | rw [e1, Bool.false_and] | rw [e1, g1, Bool.false_and, Bool.and_false]
    symm
    rw [Bool.eq_false_iff]
    simp only [ne_eq, Bool.and_eq_true, decide_eq_true_eq, beq_iff_eq, not_and]
    omega
theorem try_eq {keep : Int} {c : Claim} {ks : List Claim} : tryS keep c ks = tryM keep c ks (occM c.cls) := by
  unfold tryS tryM
  rw [varK_occ]
  by_cases hb : occB c = true
  case neg =>
    rw [if_pos (.inl (if_neg hb)), show occB c = false by simpa using hb, Bool.false_and]
  rw [if_pos hb, hb, Bool.true_and]
  have hp := occB_pos hb
  by_cases hn : ks.length = 1
  case neg => rw [if_pos (.inr (.inl hn)), decide_eq_false hn, Bool.false_and, Bool.and_false]
  by_cases hkk : (keptM keep (occM c.cls)).length = 0
  case neg => rw [if_pos (.inr (.inr (.inl (by omega)))), decide_eq_false hkk, Bool.false_and]
  by_cases r0 : resB c ks 0 c.lit = false
  · rw [if_pos (.inr (.inr (.inr r0))), r0, Bool.false_and, Bool.and_false, Bool.and_false]
  rw [if_neg (by rintro (h | h | h | h); omega; exact h hn; omega; exact r0 h), decide_eq_true hn, decide_eq_true hkk, show resB c ks 0 c.lit = true by simpa using r0]
  rfl
theorem both_eq {c : Claim} {ks : List Claim} : bothS c ks = bothM c ks (occM c.cls) := by
  unfold bothS bothM
  rw [varK_occ]
  by_cases hb : occB c = true
  case neg =>
    rw [if_pos (.inl (if_neg hb)), show occB c = false by simpa using hb, Bool.false_and, Bool.and_false]
  rw [if_pos hb, hb, Bool.true_and]
  have hp := occB_pos hb
  have hz := size_range c.lit
  by_cases hl : c.lit = sizeM c.lit
  case neg =>
    rw [if_pos (.inr (.inl hl)), decide_eq_false, Bool.false_and]
    rcases (size_iff (lit := c.lit) ⟨hp, hz.2⟩).2 rfl with h | h
    · exact absurd h hl
    · omega
  rw [decide_eq_true (show 0 < c.lit by omega), Bool.true_and, resd_eq]
  by_cases h2 : ks.length = 2
  case neg => rw [if_pos (.inr (.inr (.inl h2))), decide_eq_false h2, Bool.false_and, Bool.false_and]
  by_cases r0 : resB c ks 0 (-sizeM c.lit) = false
  · rw [if_pos (.inr (.inr (.inr (.inl r0)))), r0, Bool.false_and, Bool.and_false, Bool.false_and]
  by_cases r1 : resB c ks 1 (sizeM c.lit) = false
  · rw [if_pos (.inr (.inr (.inr (.inr r1)))), r1, Bool.and_false, Bool.and_false, Bool.false_and]
  rw [if_neg (by rintro (h | h | h | h | h); omega; exact h hl; exact h h2; exact r0 h; exact r1 h), decide_eq_true h2, show resB c ks 0 (-sizeM c.lit) = true by simpa using r0, show resB c ks 1 (sizeM c.lit) = true by simpa using r1]
  rfl
/-- a canonical list has its empty clause first -/
theorem empty_first {cs : List (List Int)} (hc : Cn' cs) : (cs.any fun x => decide (x.length = 0)) = (decide (0 < cs.length) && decide ((cs.getD 0 []).length = 0)) := by
  rcases cs with _ | ⟨y, r⟩
  · rfl
  rw [List.any_cons, decide_eq_true (show 0 < (y :: r).length by simp), Bool.true_and]
  show (decide (y.length = 0) || _) = decide (y.length = 0)
  by_cases hy : y.length = 0
  · rw [decide_eq_true hy, Bool.true_or]
  rw [decide_eq_false hy, Bool.false_or, List.any_eq_false]
  intro x hx
  have hs : Strict clsC (y :: r) := ((canGo_iff none _).1 ((canGo_canM _).2 hc.1)).2.1
  have h1 := (List.pairwise_cons.1 hs).1 x hx
  rcases x with _ | ⟨a, x⟩
  · rcases y with _ | ⟨b, y⟩
    · simp at hy
    · simp [clsC] at h1
  · simp
theorem fol_eq {keep : Int} {c : Claim} {ks : List Claim} (hc : Cn' c.cls) (h0 : 0 ≤ c.count) (h1 : c.count ≤ 1099511627776) : folS keep c ks = folM keep c ks (occM c.cls) := by
  unfold folS folM
  by_cases ha : (ks.any fun k => decide (k.count < 0) || decide (1099511627776 < k.count)) = true
  · rw [if_pos ha, if_pos ha]
  rw [if_neg ha, if_neg ha]
  have hk : ∀ k ∈ ks, 0 ≤ k.count ∧ k.count ≤ 1099511627776 := by simpa using ha
  rw [unit_eq hc hk h0 h1, dec_eq hc hk h0 h1, spl_eq, try_eq, both_eq, empty_first hc, Bool.and_assoc]

/- (Trace seat Z) Walk: split of the statement's definitions. No condition but the sizes and the ranges. -/
open Go.ChangeShapes Go.WideShapes Go.ChangeAt Go.RowKit
set_option linter.unusedVariables false

/-- the clauses collected: an owned slice of slices that lie low -/
def AllB (w0 wx : World) (mb : Nat) (v : Value) (cs : List (List Int)) : Prop :=
  ∃ ps : List (Value × List Int), wx.ownsRow mb 32 1 v ps.length (ps.map Prod.fst) ∧ ps.map Prod.snd = cs ∧ ∀ p ∈ ps, Ints (fun b => b < mb) w0 p.1 p.2
theorem allB_clss {w0 wx : World} {mb : Nat} {v : Value} {cs : List (List Int)} (h : AllB w0 wx mb v cs) (hb : Below mb w0 wx) (hl : cs.length ≤ 9223372036854775807) : Clss (fun _ => True) wx v cs := by
  obtain ⟨ps, h1, rfl, h3⟩ := h
  have hps : ps.length ≤ 9223372036854775807 := by simpa using hl
  refine ⟨ps.map Prod.fst, (ownsRow_sl1 h1 hps).mono fun _ _ => trivial, by simp, fun j u x hu hx => ?_⟩
  rw [List.getElem?_map] at hu hx
  rcases hp : ps[j]? with _ | p
  · rw [hp] at hu; simp at hu
  · rw [hp] at hu hx
    simp at hu hx
    subst hu hx
    exact ((h3 p (List.mem_of_getElem? hp)).move fun b hlt _ => hb.block b hlt).mono fun _ _ => trivial
theorem grow_opt {W w1 w2 : World} {r0 row : Option Nat} (h : W.grownBy w1 r0) (h2 : w1.grownBy w2 row) (hr : ∀ b, row = some b → r0 = some b ∨ W.heap.size ≤ b) : W.grownBy w2 r0 :=
  ⟨h2.os.trans h.os, h2.tape.trans h.tape, h2.output.trans h.output, Nat.le_trans h.size h2.size, fun k hk hne => by
    rw [h2.block k (Nat.lt_of_lt_of_le hk h.size) (fun e => by
      rcases hr k e.symm with h1 | h1
      · exact hne h1.symm
      · omega), h.block k hk hne]⟩

set_option maxRecDepth 100000 in
set_option maxHeartbeats 8000000 in
theorem lsplit_any (F : Nat → Prop) (fv qv : Value) (f : List (List Int)) (ks : List Claim) (w : World) (hf : Clss F w fv f) (hks : Claims (fun _ => True) w qv ks) (hfl : f.length ≤ 4000)
    (hsk : ∀ k ∈ ks, SzC k ∧ 0 ≤ k.count ∧ k.count ≤ 1099511627776) (hkl : ks.length ≤ 4000) :
    Calls Tryz.prog 147 #[fv, qv] w (PairB w (splitS f ks)) := by
  obtain ⟨R, hR⟩ : ∃ R, splitS f ks = R := ⟨_, rfl⟩
  have hR2 := hR
  unfold splitS at hR2
  rw [hR]
  obtain ⟨ca, cn, cc, rfl, HCN, hcn⟩ := hf.form'
  obtain ⟨qa, qn, qc, rfl, HQN, hqn⟩ := hks.form
  clear hR
  by_cases h1 : ks.length < 2
  · rw [if_pos h1] at hR2
    subst hR2
    have e1 : decide ((qn : Int) < 2) = true := decide_eq_true (by have := HQN.out; omega)
    have e1' : decide (qn < 2) = true := decide_eq_true (by have := HQN.out; omega)
    clear hf hks hsk h1
    go_enter Tryz.func147, Tryz.ntmps147
    go_wp2_with fail
    go_ret2
    exact ⟨rfl, Below.refl _ _⟩
  rw [if_neg h1] at hR2
  have e1 : decide ((qn : Int) < 2) = false := decide_eq_false (by have := HQN.out; omega)
  have e1' : decide (qn < 2) = false := decide_eq_false (by have := HQN.out; omega)
  obtain ⟨dj, hdj⟩ : ∃ d, disjGo ks [] = d := ⟨_, rfl⟩
  rw [hdj] at hR2
  have HR2 := Lib.hid hR2
  have HDJ : Hid (disjGo (ks.drop 0) [] = dj) := Lib.hid hdj
  have HCL := Lib.hid (clss_lt hf)
  have HKS := Lib.hid hks
  have HSK := Lib.hid hsk
  obtain ⟨mb, hmb⟩ : ∃ mb, w.heap.size = mb := ⟨_, rfl⟩
  have HMB := Lib.hid hmb
  have hq5 : qn ≤ 4000 := by rw [HQN.out]; exact hkl
  have hc5 : cn ≤ 4000 := by rw [HCN.out]; exact hfl
  have HIS := Lib.hid (show (Tryz.prog.info? 32).map (fun i => (i.zero, i.size, i.bytes)) = some (some (.slice none 0 0), 1, 24) by kernel_rfl)
  have HI1 := Lib.hid (show (Tryz.prog.info? 3).map (fun i => (i.zero, i.size, i.bytes)) = some (some (.int .i64 0), 1, 8) by kernel_rfl)
  obtain ⟨W0, hW0⟩ : ∃ W, w.alloc (.cells #[] 32) = W := ⟨_, rfl⟩
  obtain ⟨W1, hW1⟩ : ∃ W, W0.alloc (.cells #[] 3) = W := ⟨_, rfl⟩
  have hs0 : W0.heap.size = mb + 1 := by rw [← hW0]; simp; omega
  have hs1 : W1.heap.size = mb + 2 := by rw [← hW1]; simp; omega
  have HB0 : Hid (Below mb w W1) := Lib.hid (by rw [← hW1, ← hW0, ← hmb]; exact ((Below.refl _ _).alloc (Nat.le_refl _) _).alloc (by simp) _)
  have hA0 : W0.ownsRow mb 32 1 (.slice (some ⟨mb, 0, none⟩) 0 0) 0 [] := by rw [← hW0, ← hmb]; exact own_new (base := w.heap.size) (w := w) #[] 32 (Nat.le_refl _) (by simp)
  have HA0 : Hid (AllB w W1 mb (.slice (some ⟨mb, 0, none⟩) 0 0) (allM (ks.take 0))) := Lib.hid ⟨[], by rw [← hW1]; exact own_below hA0 ((Below.refl _ _).alloc (Nat.le_refl _) _), rfl, by simp⟩
  have HV0 : Hid (W1.ownsRow mb 3 1 (.slice (some ⟨mb + 1, 0, none⟩) 0 0) 0 (([] : List Int).map (.int .i64))) := Lib.hid (by rw [← hW1, ← hs0]; exact own_new (base := mb) (w := W0) #[] 3 (by omega) (by simp))
  have HN0 : Hid (∀ b, (Value.slice (some ⟨mb, 0, none⟩) 0 0).ownBlock = some b → (Value.slice (some ⟨mb + 1, 0, none⟩) 0 0).ownBlock ≠ some b) := Lib.hid (fun b h1 h2 => by simp [Value.ownBlock] at h1 h2; omega)
  have HX0 : Hid (∀ x ∈ ([] : List Int), 1 ≤ x ∧ x ≤ 20000) := Lib.hid (by simp)
  have HW0 := Lib.hid hW0
  have HW1 := Lib.hid hW1
  have HS0 := Lib.hid hs0
  clear hf hks hsk hR2 hdj hmb hW0 hW1 h1 hkl hA0 hs0
  go_enter Tryz.func147, Tryz.ntmps147
  go_wp2_with fail
  rw [HW0.out, HW1.out, HMB.out]
  go_loopg [6, 7, 9, 23] qn (fun gg u6 u7 u9 u23 wx => ∃ (k vn : Nat) (av vv : Value) (seen : List Int), k + gg = qn ∧ u23 = .int .i64 k ∧ u6 = av ∧ u7 = vv ∧ u9 = .bool ((ks.take k).any fun x => decide (x.count = 0)) ∧ Hid (Below mb w wx) ∧ mb + 2 ≤ wx.heap.size ∧
    Hid (AllB w wx mb av (allM (ks.take k))) ∧ Hid (wx.ownsRow mb 3 1 vv vn (seen.map (.int .i64))) ∧ Hid (∀ b, av.ownBlock = some b → vv.ownBlock ≠ some b) ∧ Hid (disjGo (ks.drop k) seen = dj) ∧ Hid (∀ x ∈ seen, 1 ≤ x ∧ x ≤ 20000) ∧ Hid (seen.length = vn) ∧ vn ≤ 20000 * k ∧ (allM (ks.take k)).length ≤ 4000 * k)
  case atStart => exact ⟨0, 0, _, _, [], by omega, rfl, rfl, rfl, by simp, HB0, by omega, HA0, HV0, HN0, HDJ, HX0, Lib.hid rfl, by simp, by simp [allM]⟩
  case round =>
  clear HB0 HA0 HV0 HN0 HX0 HDJ HW0 HW1 hs1 HS0
  obtain ⟨k, vn, av, vv, seen, hkg, rfl, h6, h7, rfl, HB, hZ, HA, HV, HNE, HD, HXS, HVN, hsl, hal⟩ := hrel
  have h6 := h6.symm
  have h7 := h7.symm
  subst h6 h7
  by_cases hk : k < qn
  case neg =>
    obtain rfl : k = qn := by omega
    have hdk : decide ((k : Int) < k) = false := by simp
    have hdk' : decide (k < k) = false := decide_eq_false (by omega)
    have hkk : ks.take k = ks := List.take_of_length_le (by rw [HQN.out]; exact Nat.le_refl _)
    have hd : true = dj := by
      have := HD.out
      rw [List.drop_eq_nil_of_le (by rw [HQN.out]; exact Nat.le_refl _)] at this
      exact this
    subst hd
    rw [hkk] at HA ⊢
    have hfa := allB_clss HA.out HB.out (by rw [hkk] at hal; omega)
    obtain ⟨aa, an, ac, rfl, HAN, han⟩ := hfa.form'
    have HFA := Lib.hid hfa
    have hR3 := HR2.out
    rw [if_neg (by simp)] at hR3
    have HBW : Hid (Below w.heap.size w wr) := Lib.hid (by rw [HMB.out]; exact HB.out)
    obtain ⟨A, hA⟩ : ∃ A, (ks.any fun x => decide (x.count = 0)) = A := ⟨_, rfl⟩
    have HAA := Lib.hid hA
    rw [hA] at hR3 ⊢
    by_cases hle : an = cn
    case neg =>
      rw [if_pos (.inl (by rw [← HAN.out, ← HCN.out]; exact hle))] at hR3
      subst hR3
      have e3 : ((an : Int) != cn) = true := by simp; omega
      clear hle hfa hkk hA
      go_wp2_with fail
      go_ret2
      exact ⟨rfl, HBW.out⟩
    have e3 : ((an : Int) != cn) = false := by simp; omega
    obtain ⟨E, hE⟩ : ∃ E, (canM (allM ks) == f) = E := ⟨_, rfl⟩
    have hal2 : (allM ks).length ≤ 4000 := by rw [← HAN.out, hle]; exact hc5
    have hcan := lcanonical_any _ _ (allM ks) wr hfa (by omega) (fun x hx => by
      obtain ⟨kk, hkk, hx⟩ := List.mem_flatMap.1 hx
      have := (HSK.out kk hkk).1.2.1 x hx
      omega)
    have hcls : Clss (fun b => b < w.heap.size) wr (.slice ca cn cc) f := Rows1.move (fun _ _ _ _ _ h hm => h.move hm) HCL.out fun b hb _ => HBW.out.block b hb
    have HCLS := Lib.hid hcls
    have HCAN := Lib.hid hcan
    have hR4 : R = (if E = false then (0, false) else if A = true then (0, true) else prodS ks 1) := by
      rw [← hR3]
      by_cases he : E = false
      · rw [if_pos he, if_pos (.inr (by rw [hE]; exact he))]
      · rw [if_neg he, if_neg]
        rintro (h | h)
        · exact h (by rw [← HAN.out, ← HCN.out]; exact hle)
        · exact he (by rw [← hE]; exact h)
    have HR4 := Lib.hid hR4
    have HE := Lib.hid hE
    clear hcan hcls hR3 hR4 hle hfa hkk hA hE hal2
    go_wp2_with fail
    refine HCAN.out.mono ?_
    rintro e w5 ⟨rv, rfl, hrv, hb5⟩
    have HRV := Lib.hid hrv
    obtain ⟨ra, rn, rc, rfl, _, _⟩ := hrv.form'
    have hbd : Below wr.heap.size wr w5 := ⟨hb5.os, hb5.tape, hb5.output, hb5.size, hb5.block⟩
    have HBD := Lib.hid hbd
    have HCL5 := Lib.hid (HCLS.out.below hbd)
    clear hrv hb5 hbd
    have HEQ := Lib.hid (lequal_any _ _ _ _ w5 HRV.out HCL5.out)
    go_wp2_with fail
    refine HEQ.out.mono ?_
    rintro e w6 ⟨rfl, nd, rfl⟩
    have HB6 : Hid (Below wr.heap.size wr (w5.drewN nd)) := Lib.hid (below_drewN HBD.out nd)
    rw [HE.out]
    obtain ⟨w6, hw6⟩ : ∃ W, w5.drewN nd = W := ⟨_, rfl⟩
    rw [hw6] at HB6 ⊢
    have HB7 : Hid (Below w.heap.size w w6) := Lib.hid (HBW.out.trans (HB6.out.mono HBW.out.size))
    clear hw6 HCL5 HBD HRV HCAN HE HEQ
    rcases bool2 E with rfl | rfl
    case inr =>
      have hF := HR4.out
      rw [if_pos rfl] at hF
      subst hF
      go_wp2_with fail
      go_ret2
      exact ⟨rfl, HB7.out⟩
    rcases bool2 A with rfl | rfl
    · have hF := HR4.out
      rw [if_neg (by simp), if_pos rfl] at hF
      subst hF
      have HP0 : Hid ((∃ x ∈ ks.take 0, x.count = 0) → (1 : Int) = 0) := Lib.hid (by simp)
      go_wp2_with fail
      go_loopg [8, 68] k (fun gg u8 u68 wx => ∃ (j : Nat) (p : Int), j + gg = k ∧ u68 = .int .i64 j ∧ u8 = .int .i64 p ∧ Hid (Below w.heap.size w wx) ∧ Hid ((∃ x ∈ ks.take j, x.count = 0) → p = 0))
      case atStart => exact ⟨0, 1, by omega, rfl, rfl, HB7, HP0⟩
      case round =>
      clear HP0
      obtain ⟨j, p, hjg, rfl, rfl, HBJ, HP⟩ := hrel
      by_cases hj : j < k
      case neg =>
        obtain rfl : j = k := by omega
        have hp : p = 0 := HP.out (by
          rw [List.take_of_length_le (by rw [HQN.out]; exact Nat.le_refl _)]
          obtain ⟨x, hx, h⟩ := List.any_eq_true.1 HAA.out
          exact ⟨x, hx, of_decide_eq_true h⟩)
        subst hp
        go_wp2_with fail
        go_ret2
        exact ⟨rfl, HBJ.out⟩
      obtain ⟨kid, hkid, ek⟩ := drop_at (xs := ks) (k := j) (by have := HQN.out; omega)
      have hks2 := HKS.out
      obtain ⟨kb, ko, kcv, kkv, rfl, _, hkb, k0, k1, k2, k3, k4, ⟨⟨hkcl, _, _, hkki, _⟩, _⟩⟩ := hks2.at hkid
      obtain ⟨ka, kn, kc, rfl, _, _⟩ := hkcl.form'
      obtain ⟨kka, kkn, kkc, rfl, _, _⟩ := hkki.form'
      have y0 := below_c HBJ.out hkb k0
      have y1 := below_c HBJ.out hkb k1
      have y2 := below_c HBJ.out hkb k2
      have y3 := below_c HBJ.out hkb k3
      have y4 := below_c HBJ.out hkb k4
      have hdj : decide ((j : Int) < k) = true := by simp; omega
      have hdj' : decide (j < k) = true := decide_eq_true hj
      have hbA := fun o => HBJ.out.alloc HBJ.out.size o
      have HBA := Lib.hid hbA
      have HPN : Hid ((∃ x ∈ ks.take (j + 1), x.count = 0) → wrap64 (p * kid.count) = 0) := Lib.hid (by
        rw [List.take_add_one, hkid]
        rintro ⟨x, hx, hz⟩
        rcases List.mem_append.1 hx with h | h
        · rw [HP.out ⟨x, h, hz⟩, Int.zero_mul]; exact IntWalk.wrap64_in _ ⟨by omega, by omega⟩
        · simp at h; subst h; rw [hz, Int.mul_zero]; exact IntWalk.wrap64_in _ ⟨by omega, by omega⟩)
      clear hks2 hkid ek hkcl hkki k0 k1 k2 k3 k4 HP hbA
      go_wp2_with fail
      go_roundg (gk - 1)
      case measure => omega
      case rel => exact ⟨j + 1, _, by omega, by go_num, rfl, Lib.hid (HBA.out _), HPN⟩
    have hF := HR4.out
    rw [if_neg (by simp), if_neg (by simp)] at hF
    have HF : Hid (prodS (ks.drop 0) 1 = R) := Lib.hid hF.symm
    clear hF
    go_wp2_with fail
    go_loopg [8, 68] k (fun gg u8 u68 wx => ∃ (j : Nat) (p : Int), j + gg = k ∧ u68 = .int .i64 j ∧ u8 = .int .i64 p ∧ 0 ≤ p ∧ p ≤ 1099511627776 ∧ Hid (Below w.heap.size w wx) ∧ Hid (prodS (ks.drop j) p = R))
    case atStart => exact ⟨0, 1, by omega, rfl, rfl, by omega, by omega, HB7, HF⟩
    case round =>
    obtain ⟨j, p, hjg, rfl, rfl, hp0, hp1, HBJ, HP⟩ := hrel
    by_cases hj : j < k
    case neg =>
      obtain rfl : j = k := by omega
      have hP := HP.out
      rw [List.drop_eq_nil_of_le (by rw [HQN.out]; exact Nat.le_refl _), prodS] at hP
      subst hP
      clear HP
      go_wp2_with fail
      go_ret2
      exact ⟨rfl, HBJ.out⟩
    obtain ⟨kid, hkid, ek⟩ := drop_at (xs := ks) (k := j) (by have := HQN.out; omega)
    have hkm := HSK.out kid (List.mem_of_getElem? hkid)
    have hkne : kid.count ≠ 0 := fun e => by
      have := HAA.out
      rw [List.any_eq_false] at this
      exact this kid (List.mem_of_getElem? hkid) (by simp [e])
    obtain ⟨_, hk0, hk1⟩ := hkm
    have hks2 := HKS.out
    obtain ⟨kb, ko, kcv, kkv, rfl, _, hkb, k0, k1, k2, k3, k4, ⟨⟨hkcl, _, _, hkki, _⟩, _⟩⟩ := hks2.at hkid
    obtain ⟨ka, kn, kc, rfl, _, _⟩ := hkcl.form'
    obtain ⟨kka, kkn, kkc, rfl, _, _⟩ := hkki.form'
    have y0 := below_c HBJ.out hkb k0
    have y1 := below_c HBJ.out hkb k1
    have y2 := below_c HBJ.out hkb k2
    have y3 := below_c HBJ.out hkb k3
    have y4 := below_c HBJ.out hkb k4
    have hdj : decide ((j : Int) < k) = true := by simp; omega
    have hdj' : decide (j < k) = true := decide_eq_true hj
    have hk1' : 1 ≤ kid.count := by omega
    have hP := HP.out
    rw [ek, prodS] at hP
    have hbA := fun o => HBJ.out.alloc HBJ.out.size o
    have HBA := Lib.hid hbA
    clear hkne hks2 hkid ek hkcl hkki k0 k1 k2 k3 k4 HP hbA
    by_cases hdv : 1099511627776 / kid.count < p
    · rw [if_pos hdv] at hP
      subst hP
      have hdd : decide (1099511627776 / kid.count < p) = true := decide_eq_true hdv
      go_wp2_with fail
      go_ret2
      exact ⟨rfl, HBA.out _⟩
    · rw [if_neg hdv] at hP
      have HPN := Lib.hid hP
      have hdd : decide (1099511627776 / kid.count < p) = false := decide_eq_false hdv
      have hpm : p * kid.count ≤ 1099511627776 := by
        have h1 : p ≤ 1099511627776 / kid.count := by omega
        have h2 := Int.mul_le_mul_of_nonneg_right h1 hk0
        have h3 := Int.ediv_mul_le 1099511627776 (show kid.count ≠ 0 by omega)
        omega
      have hpz : 0 ≤ p * kid.count := Int.mul_nonneg hp0 hk0
      have hwp : IntKind.i64.wrap (p * kid.count) = p * kid.count := IntWalk.i64_in _ ⟨by omega, by omega⟩
      clear hP hdv
      go_wp2_with fail
      go_roundg (gk - 1)
      case measure => omega
      case rel => exact ⟨j + 1, p * kid.count, by omega, by go_num, by go_num, hpz, hpm, Lib.hid (HBA.out _), HPN⟩
  obtain ⟨kid, hkid, ek⟩ := drop_at (xs := ks) (k := k) (by have := HQN.out; omega)
  have hkm := HSK.out kid (List.mem_of_getElem? hkid)
  have hks2 := HKS.out
  obtain ⟨kb, ko, kcv, kkv, rfl, _, hkb, k0, k1, k2, k3, k4, ⟨⟨hkcl, _, _, hkki, _⟩, _⟩⟩ := hks2.at hkid
  obtain ⟨ka, kn, kc, rfl, HKN, _⟩ := hkcl.form'
  obtain ⟨kka, kkn, kkc, rfl, _, _⟩ := hkki.form'
  have hkbm : kb < mb := by rw [← HMB.out]; exact hkb
  have y0 := below_c HB.out hkbm k0
  have y1 := below_c HB.out hkbm k1
  have y2 := below_c HB.out hkbm k2
  have y3 := below_c HB.out hkbm k3
  have y4 := below_c HB.out hkbm k4
  have HKC := Lib.hid (clss_lt hkcl)
  have hdk : decide ((k : Int) < qn) = true := by simp; omega
  have hdk' : decide (k < qn) = true := decide_eq_true hk
  obtain ⟨W2, hW2⟩ : ∃ W, wr.alloc (.cells #[.slice ka kn kc, .int .i64 kid.rule, .int .i64 kid.lit, .slice kka kkn kkc, .int .i64 kid.count] 52) = W := ⟨_, rfl⟩
  have hb2 : Below wr.heap.size wr W2 := by rw [← hW2]; exact (Below.refl _ _).alloc (Nat.le_refl _) _
  have hs2 : W2.heap.size = wr.heap.size + 1 := by rw [← hW2]; simp
  obtain ⟨g1, hg1⟩ : ∃ g, wr.heap.size = g := ⟨_, rfl⟩
  have hkx : ∀ o v, #[Value.slice ka kn kc, .int .i64 kid.rule, .int .i64 kid.lit, .slice kka kkn kkc, .int .i64 kid.count][o]? = some v → W2.cell? ⟨g1, o, none⟩ = some v := fun o v h => by rw [← hg1, ← hW2, cell_of_row _ _ _ _ _ _ (new_at _ _)]; exact h
  have x0 := hkx 0 _ rfl
  have x4 := hkx 4 _ rfl
  have hcl2 : Clss (fun b => b < mb) W2 (.slice ka kn kc) kid.cls := Rows1.move (fun _ _ _ _ _ h hm => h.move hm) (Rows1.mono (fun _ _ _ _ _ h hg => h.mono hg) HKC.out (fun b hb => by rw [← HMB.out]; exact hb)) fun b hb _ => (hb2.block b (by have := HB.out.size; omega)).trans (HB.out.block b hb)
  have hoc := loccur_any _ _ kid.cls W2 hcl2 hkm.1.1 hkm.1.2.1
  have HOC := Lib.hid hoc
  have HB2 := Lib.hid (HB.out.trans (hb2.mono (by omega)))
  have HA2 : Hid (AllB w W2 mb av (allM (ks.take k))) := Lib.hid (by obtain ⟨ps, p1, p2, p3⟩ := HA.out; exact ⟨ps, own_below p1 hb2, p2, p3⟩)
  have HV2 := Lib.hid (own_below HV.out hb2)
  have HW2 := Lib.hid hW2
  have HG1 := Lib.hid hg1
  have hkc4 : kid.cls.length ≤ 4000 := hkm.1.1
  have HKN2 := HKN
  rw [hg1] at hs2 hZ
  have HAB : Hid (∀ e, av.ownBlock = some e → e < g1) := Lib.hid fun e he => by obtain ⟨ps, p1, _⟩ := HA.out; have := (p1.lt e he).2; omega
  have HVB : Hid (∀ e, vv.ownBlock = some e → e < g1) := Lib.hid fun e he => by have := (HV.out.lt e he).2; omega
  have HTK : Hid (ks.take (k + 1) = ks.take k ++ [kid]) := Lib.hid (by rw [List.take_add_one, hkid]; rfl)
  have HDK : Hid ((if (occM kid.cls).any (fun v => seen.contains v) = true then false else disjGo (ks.drop (k + 1)) (seen ++ occM kid.cls)) = dj) := Lib.hid (by have := HD.out; rw [ek, disjGo] at this; exact this)
  obtain ⟨N, hN⟩ : ∃ N, ((ks.take k).any fun x => decide (x.count = 0)) = N := ⟨_, rfl⟩
  have HN := Lib.hid hN
  obtain ⟨GK, hGK⟩ : ∃ G, G = gk := ⟨_, rfl⟩
  subst hGK
  rw [hN]
  clear hks2 hkid ek hkm hkcl hkki hkx hcl2 hoc hb2 hW2 hg1 HA HV HD HB hN k0 k1 k2 k3 k4
  go_wp2_with fail
  rw [HW2.out, HG1.out]
  refine HOC.out.mono ?_
  rintro e w3 ⟨ov, os, rfl, hos, hb3, hst, hmem⟩
  obtain rfl := occ_eq hst hmem
  obtain ⟨oa, on, oc, rfl, HON, hon⟩ := hos.form'
  have hoi : ∀ x ∈ occM kid.cls, 1 ≤ x ∧ x ≤ 20000 := fun x hx => occM_range hx
  have hol : (occM kid.cls).length ≤ 20000 := by
    have hnd := occM_nodup kid.cls
    have := nodup_bound hnd hoi
    omega
  have HOI := Lib.hid hoi
  have HND := Lib.hid (occM_nodup kid.cls)
  have HOS := Lib.hid hos
  have z0 := below_c hb3 (by omega) x0
  have z4 := below_c hb3 (by omega) x4
  have HB3 := Lib.hid (HB2.out.trans (hb3.mono (by omega)))
  have HA3 : Hid (AllB w w3 mb av (allM (ks.take k))) := Lib.hid (by obtain ⟨ps, p1, p2, p3⟩ := HA2.out; exact ⟨ps, own_below p1 hb3, p2, p3⟩)
  have HV3 : Hid (w3.ownsRow mb 3 1 vv (vn + 0) ((seen ++ (occM kid.cls).take 0).map (.int .i64))) := Lib.hid (by rw [List.take_zero, List.append_nil]; exact own_below HV2.out hb3)
  have hs3 : g1 + 1 ≤ w3.heap.size := by have := hb3.size; omega
  have hon2 : on ≤ 20000 := by rw [HON.out]; exact hol
  obtain ⟨O, hO⟩ : ∃ O, occM kid.cls = O := ⟨_, rfl⟩
  rw [hO] at HON HOI HND HOS HDK HV3
  obtain ⟨T, hT⟩ : ∃ T, (O.any fun v => seen.contains v) = T := ⟨_, rfl⟩
  rw [hT] at HDK
  have HT0 : Hid (((O.drop 0).any fun v => seen.contains v) = T) := Lib.hid hT
  obtain ⟨v0, hv0⟩ : ∃ b, vv.ownBlock = b := ⟨_, rfl⟩
  have HVL : Hid (∀ b, v0 = some b → mb ≤ b ∧ b < g1) := Lib.hid (fun b hb => ⟨(HV2.out.lt b (by rw [hv0]; exact hb)).1, HVB.out b (by rw [hv0]; exact hb)⟩)
  have HNA : Hid (∀ b, av.ownBlock = some b → v0 ≠ some b) := Lib.hid (fun b hb => by rw [← hv0]; exact HNE.out b hb)
  have HG3 : Hid (w3.grownBy w3 v0) := Lib.hid (World.grownBy.refl w3 _)
  have HOB3 : Hid (∀ b, vv.ownBlock = some b → v0 = some b ∨ w3.heap.size ≤ b) := Lib.hid (fun b hb => .inl (by rw [← hv0]; exact hb))
  have HV0 := Lib.hid hv0
  have HSZ3 := Lib.hid hs3
  clear hos hb3 hst hmem hoi hol hO hT x0 x4 HA2 HOC HW2 HV2 hv0
  go_wp2_with fail
  go_loopg [7, 31] on (fun gg u7 u31 wx => ∃ (j : Nat) (uv : Value), j + gg = on ∧ u31 = .int .i64 j ∧ u7 = uv ∧ Hid (w3.grownBy wx v0) ∧ Hid (∀ b, uv.ownBlock = some b → v0 = some b ∨ w3.heap.size ≤ b) ∧ Hid (wx.ownsRow mb 3 1 uv (vn + j) ((seen ++ O.take j).map (.int .i64))) ∧ Hid (((O.drop j).any fun v => seen.contains v) = T))
  case atStart => exact ⟨0, _, by omega, rfl, rfl, HG3, HOB3, HV3, HT0⟩
  case round =>
  clear HG3 HOB3 HV3 HT0
  obtain ⟨j, uv, hjg, rfl, rfl, HG, HOB, HV, HT⟩ := hrel
  obtain ⟨ua, uc, huv⟩ := own_form HV.out
  subst huv
  have hszr := HG.out.size
  obtain ⟨m, hm⟩ : ∃ m, vn + j = m := ⟨_, rfl⟩
  rw [hm] at HV HOB ⊢
  have HM := Lib.hid hm
  have hvm : vn + j = m := hm
  have hg1v : some g1 ≠ v0 := fun e => by have := HVL.out g1 e.symm; omega
  have q0 := grown_c2 HG.out hg1v z0
  have q4 := grown_c2 HG.out hg1v z4
  have HBR : Hid (Below mb w wr) := Lib.hid (HB3.out.trans ⟨HG.out.os, HG.out.tape, HG.out.output, HG.out.size, fun i hi => HG.out.block i (by have := HSZ3.out; omega) (fun e => by have := HVL.out i e.symm; omega)⟩)
  have HBF : Hid (Below w.heap.size w wr) := Lib.hid (by rw [HMB.out]; exact HBR.out)
  by_cases hj : j < on
  · obtain ⟨x, hxj, ex⟩ := drop_at (xs := O) (k := j) (by have := HON.out; omega)
    have hxr := HOI.out x (List.mem_of_getElem? hxj)
    obtain ⟨xb, xo, rfl, hxb0, hxb, hcx0, hxi⟩ := HOS.out.at hxj
    have hcx := grown_c2 HG.out (fun e => by have := HVL.out xb e.symm; omega) hcx0
    have hxn : x ∉ O.take j := fun hm => by
      have hnd := HND.out
      rw [← List.take_append_drop j O, ex] at hnd
      exact (List.nodup_append.1 hnd).2.2 x hm x (List.mem_cons_self ..) rfl
    have hdj' : decide ((j : Int) < on) = true := by simp; omega
    have hdj2 : decide (j < on) = true := decide_eq_true hj
    have hml : (seen ++ O.take j).length = m := by rw [List.length_append, HVN.out, List.length_take]; have := HON.out; omega
    have HCT := Lib.hid (contains_any _ _ (seen ++ O.take j) x wr ⟨(ownsRow_sl1 HV.out (by omega)).mono (G := fun _ => True) fun _ _ => trivial, fun y hy => by
      rcases List.mem_append.1 hy with h | h
      · have := HXS.out y h; unfold I64; omega
      · have := HOI.out y (List.mem_of_mem_take h); unfold I64; omega⟩ hxi)
    have hcs : (seen ++ O.take j).contains x = seen.contains x := by
      rw [Bool.eq_iff_iff]
      simp [hxn]
    rw [hcs] at HCT
    have HTX : Hid ((seen.contains x || (O.drop (j + 1)).any fun v => seen.contains v) = T) := Lib.hid (by have := HT.out; rw [ex, List.any_cons] at this; exact this)
    obtain ⟨S, hS⟩ : ∃ S, seen.contains x = S := ⟨_, rfl⟩
    rw [hS] at HCT HTX
    have HTJ : Hid (O.take (j + 1) = O.take j ++ [x]) := Lib.hid (by rw [List.take_add_one, hxj]; rfl)
    have HXR := Lib.hid hxr
    clear hxn hxj ex hcx0 hxi hcs hml hm hS hxr
    go_wp2_with fail
    refine HCT.out.mono ?_
    rintro e w9 ⟨rfl, hw9⟩
    subst hw9
    rcases bool2 S with rfl | rfl
    · have hRf : R = (0, false) := by
        have h1 := HTX.out
        rw [Bool.true_or] at h1
        have h2 := HDK.out
        rw [← h1, if_pos rfl] at h2
        have h3 := HR2.out
        rw [← h2, if_pos rfl] at h3
        exact h3.symm
      subst hRf
      go_wp2_with fail
      go_ret2
      exact ⟨rfl, HBF.out⟩
    have HTF : Hid (((O.drop (j + 1)).any fun v => seen.contains v) = T) := Lib.hid (by have := HTX.out; rw [Bool.false_or] at this; exact this)
    have hown := HV.out
    clear HTX HT HCT HBR HBF
    go_wp2_with (at_builtin; go_loud (refine wpList_push1 rfl _ _ 32 rfl 3 (.int .i64 0) 8 Tryz.underlying32 HI1.out rfl mb (.slice ua m uc) m ((seen ++ O.take j).map (.int .i64)) _ (.int .i64 x) rfl rfl hown rfl (by omega) (by omega) (by have := HSZ3.out; omega) ?_); intro g7 cap7 w7 hown7 hg7 hs7 hgb hgl hat; have HG7 := Lib.hid hg7; have HAT := Lib.hid hat; have HO7 := Lib.hid hown7; clear hown7 hg7 hat hgb hgl hs7 hown)
    go_roundg (gk - 1)
    case measure => omega
    case rel =>
      refine ⟨j + 1, _, by omega, by go_num, rfl, Lib.hid (grow_opt HG.out HG7.out HOB.out), Lib.hid (fun b hb => ?_), Lib.hid (by rw [HTJ.out, ← List.append_assoc, List.map_append, show vn + (j + 1) = m + 1 by omega]; exact HO7.out), HTF⟩
      have hbg : g7 = b := by simpa [Value.ownBlock] using hb
      subst hbg
      rcases HAT.out with h | h
      · exact HOB.out _ h
      · exact .inr (by omega)
  obtain rfl : j = on := by omega
  have hdj' : decide ((j : Int) < j) = false := by simp
  have hdj2 : decide (j < j) = false := decide_eq_false (by omega)
  have hTf : T = false := by
    have := HT.out
    rw [List.drop_eq_nil_of_le (by rw [HON.out]; exact Nat.le_refl _), List.any_nil] at this
    exact this.symm
  subst hTf
  have HDN : Hid (disjGo (ks.drop (k + 1)) (seen ++ O) = dj) := Lib.hid (by have := HDK.out; rw [if_neg (by simp)] at this; exact this)
  have HVO : Hid (wr.ownsRow mb 3 1 (.slice ua m uc) m ((seen ++ O).map (.int .i64))) := Lib.hid (by
    have := HV.out
    rw [List.take_of_length_le (by rw [HON.out]; exact Nat.le_refl _)] at this
    exact this)
  obtain ⟨ps, p1, p2, p3⟩ := HA3.out
  obtain ⟨us, u1, u2, u3⟩ := HKC.out
  have hown := p1.kept HG.out (by
    rcases hav : av.ownBlock with _ | b
    · exact .inl rfl
    · exact .inr (fun e => HNA.out b hav e.symm))
  have HAW : Hid (∀ b, av.ownBlock = some b → (Value.slice ua m uc).ownBlock ≠ some b) := Lib.hid fun b hb e => by
    rcases HOB.out b e with h | h
    · exact HNA.out b hb h
    · have := HAB.out b hb; have := HSZ3.out; omega
  obtain ⟨aa, ac, hav⟩ := own_form hown
  obtain ⟨an, han⟩ : ∃ m, ps.length = m := ⟨_, rfl⟩
  rw [han] at hown hav
  subst hav
  have hanl : an ≤ 4000 * k := by rw [← han]; have h := hal; rw [← p2, List.length_map] at h; exact h
  have hbw := HBR.out
  have hsr : Sl1 (fun b => b < w.heap.size) wr (.slice ka kn kc) us := u1.move fun b hb _ => hbw.block b (by rw [← HMB.out]; exact hb)
  have hone : ∀ u ∈ us, u.oneCell' = true := fun u hu => by
    obtain ⟨i, hi, he⟩ := List.mem_iff_getElem.1 hu
    obtain ⟨_, _, h1, _⟩ := (u3 i u (kid.cls.getD i []) (by rw [List.getElem?_eq_getElem hi, he]) (by rw [List.getD_eq_getElem?_getD, List.getElem?_eq_getElem (by rw [← u2]; exact hi)]; rfl)).form
    rw [h1]; rfl
  have HSR := Lib.hid hsr
  have HONE := Lib.hid hone
  have hkn4 : kn ≤ 4000 := by rw [HKN2.out]; exact hkc4
  have hszw : mb + 2 ≤ wr.heap.size := by have := HSZ3.out; omega
  have hg1r : g1 < wr.heap.size := by have := HSZ3.out; omega
  have HALL : Hid (∀ v' w', w'.ownsRow mb 32 1 v' (an + kn) (ps.map Prod.fst ++ us) → AllB w w' mb v' (allM (ks.take (k + 1)))) := Lib.hid fun v' w' ho => by
    have hz1 : us.length = kid.cls.length := u2
    refine ⟨ps ++ us.zip kid.cls, ?_, ?_, fun p hp => ?_⟩
    · rw [List.map_append, List.map_fst_zip (by omega), List.length_append, List.length_zip, han]
      have : min us.length kid.cls.length = kn := by rw [hz1, Nat.min_self]; exact HKN2.out.symm
      rw [this]
      exact ho
    · rw [List.map_append, List.map_snd_zip (by omega), p2, HTK.out]
      simp [allM]
    · rcases List.mem_append.1 hp with h | h
      · exact p3 p h
      · obtain ⟨i, hi, he⟩ := List.mem_iff_getElem.1 h
        rw [List.length_zip] at hi
        rw [List.getElem_zip] at he
        have := u3 i us[i] kid.cls[i] (List.getElem?_eq_getElem (by omega)) (List.getElem?_eq_getElem (by omega))
        rw [← he]
        exact this.mono fun b hb => by rw [← HMB.out]; exact hb
  have hsln : m ≤ 20000 * (k + 1) := by omega
  have hall2 : (allM (ks.take (k + 1))).length ≤ 4000 * (k + 1) := by rw [HTK.out]; simp only [allM, List.flatMap_append, List.length_append, List.flatMap_cons, List.flatMap_nil, List.append_nil] at hal ⊢; omega
  have HAN : Hid (((ks.take (k + 1)).any fun x => decide (x.count = 0)) = (N || decide (kid.count = 0))) := Lib.hid (by rw [HTK.out, List.any_append, HN.out]; simp)
  have HXN : Hid (∀ x ∈ seen ++ O, 1 ≤ x ∧ x ≤ 20000) := Lib.hid fun x hx => by
    rcases List.mem_append.1 hx with h | h
    · exact HXS.out x h
    · exact HOI.out x h
  have HLN : Hid ((seen ++ O).length = m) := Lib.hid (by rw [List.length_append, HVN.out, ← HON.out]; exact hm)
  have HL2 := Lib.hid (And.intro hsln hall2)
  have HVB7 : Hid (∀ b, (Value.slice ua m uc).ownBlock = some b → b < wr.heap.size) := Lib.hid fun b hb => (HVO.out.lt b hb).2
  have HGA : Hid (∀ b, (Value.slice aa an ac).ownBlock = some b → g1 ≠ b) := Lib.hid fun b hb e => by have := HAB.out b hb; omega
  clear hbw p1 p2 p3 u1 u2 u3 hsr hone HT HV z0 z4 han HOS HND HOI HA3 hsln hall2 hal hsl HB2 hm HBF HB3
  have key : ∀ (v' : Value) (w7 : World), w7.ownsRow mb 32 1 v' (an + kn) (ps.map Prod.fst ++ us) → wr.grownBy w7 (Value.slice aa an ac).ownBlock → (v'.ownBlock = (Value.slice aa an ac).ownBlock ∨ v'.ownBlock = some wr.heap.size) →
      Hid (Below mb w w7) ∧ mb + 2 ≤ w7.heap.size ∧ Hid (AllB w w7 mb v' (allM (ks.take (k + 1)))) ∧ Hid (w7.ownsRow mb 3 1 (.slice ua m uc) m ((seen ++ O).map (.int .i64))) ∧ Hid (∀ b, v'.ownBlock = some b → (Value.slice ua m uc).ownBlock ≠ some b) ∧ w7.cell? ⟨g1, 4, none⟩ = some (.int .i64 kid.count) := by
    intro v' w7 h1 h2 h3
    refine ⟨Lib.hid (HBR.out.grown h2 (by omega) (fun k hk => by have := (hown.lt k hk).1; omega)), by have := h2.size; omega, Lib.hid (HALL.out v' w7 h1), Lib.hid (HVO.out.kept h2 ?_), Lib.hid fun b hb e => ?_, grown_c2 h2 (fun e => HGA.out _ e.symm rfl) q4⟩
    · rcases hvo : (Value.slice ua m uc).ownBlock with _ | b
      · exact .inl rfl
      · exact .inr (fun e => HAW.out b e.symm hvo)
    · rcases h3 with h | h
      · exact HAW.out b (by rw [← h]; exact hb) e
      · have := HVB7.out b e
        rw [h] at hb
        injection hb with hb
        omega
  have KEY := Lib.hid key
  clear key HALL HBR HVO HAW HGA HVB7
  rcases bool2 N with rfl | rfl
  · go_wp2_with (at_builtin; go_loud (refine wpList_pushAll rfl _ _ 22 rfl 32 (.slice none 0 0) 24 Tryz.underlying22 HIS.out rfl mb (.slice aa an ac) an _ wr _ ka kn kc us rfl rfl hown HSR.out HONE.out (by omega) (by omega) (by omega) ?_); intro v' w7 hown7 hg7 hat; obtain ⟨HB7, hz7, HA7, HV7, HE7, q4'⟩ := KEY.out v' w7 hown7 hg7 hat; clear hown7 hg7 hat hown)
    go_roundg (GK - 1)
    case measure => omega
    case rel => exact ⟨k + 1, _, _, _, _, by omega, by go_num, rfl, rfl, by rw [HAN.out]; rfl, HB7, hz7, HA7, HV7, HE7, HDN, HXN, HLN, HL2.out.1, HL2.out.2⟩
  · by_cases hz : kid.count = 0
    · have hz1 : (kid.count == 0) = true := by simp; exact hz
      have HAN2 : Hid (((ks.take (k + 1)).any fun x => decide (x.count = 0)) = true) := Lib.hid (by rw [HAN.out, decide_eq_true hz]; rfl)
      clear hz HAN
      go_wp2_with (at_builtin; go_loud (refine wpList_pushAll rfl _ _ 22 rfl 32 (.slice none 0 0) 24 Tryz.underlying22 HIS.out rfl mb (.slice aa an ac) an _ wr _ ka kn kc us rfl rfl hown HSR.out HONE.out (by omega) (by omega) (by omega) ?_); intro v' w7 hown7 hg7 hat; obtain ⟨HB7, hz7, HA7, HV7, HE7, q4'⟩ := KEY.out v' w7 hown7 hg7 hat; clear hown7 hg7 hat hown)
      go_roundg (GK - 1)
      case measure => omega
      case rel => exact ⟨k + 1, _, _, _, _, by omega, by go_num, rfl, rfl, by rw [HAN2.out], HB7, hz7, HA7, HV7, HE7, HDN, HXN, HLN, HL2.out.1, HL2.out.2⟩
    · have hz1 : (kid.count == 0) = false := by simp; exact hz
      have HAN2 : Hid (((ks.take (k + 1)).any fun x => decide (x.count = 0)) = false) := Lib.hid (by rw [HAN.out, decide_eq_false hz]; rfl)
      clear hz HAN
      go_wp2_with (at_builtin; go_loud (refine wpList_pushAll rfl _ _ 22 rfl 32 (.slice none 0 0) 24 Tryz.underlying22 HIS.out rfl mb (.slice aa an ac) an _ wr _ ka kn kc us rfl rfl hown HSR.out HONE.out (by omega) (by omega) (by omega) ?_); intro v' w7 hown7 hg7 hat; obtain ⟨HB7, hz7, HA7, HV7, HE7, q4'⟩ := KEY.out v' w7 hown7 hg7 hat; clear hown7 hg7 hat hown)
      go_roundg (GK - 1)
      case measure => omega
      case rel => exact ⟨k + 1, _, _, _, _, by omega, by go_num, rfl, rfl, by rw [HAN2.out], HB7, hz7, HA7, HV7, HE7, HDN, HXN, HLN, HL2.out.1, HL2.out.2⟩

/- (Trace seat Z) Walks: the closure of follows of the statement's definitions, and ContainsFunc at it. No condition. -/
open Go.ChangeShapes Go.WideShapes Go.ChangeAt Go.RowKit
set_option linter.unusedVariables false

set_option maxHeartbeats 2000000 in
theorem folc_any (F : Nat → Prop) (bx : Nat) (lit : Int) (u : Value) (y : List Int) (w : World) (hc : w.cell? ⟨bx, 2, none⟩ = some (.int .i64 lit)) (hl : I64 lit) (hy : Ints F w u y) :
    Calls Tryz.prog 143 #[u, .pointer (some ⟨bx, 0, none⟩)] w (BoolPost w (y == [lit])) := by
  obtain ⟨a, n, c, rfl, _, _⟩ := hy.form'
  obtain ⟨W1, hW1⟩ : ∃ W, w.alloc (.cells #[.int .i64 lit] 3) = W := ⟨_, rfl⟩
  have hb1 : Below w.heap.size w W1 := by rw [← hW1]; exact (Below.refl _ _).alloc (Nat.le_refl _) _
  have ho1 : W1.ownsRow w.heap.size 3 1 (.slice (some ⟨w.heap.size, 0, none⟩) 1 1) 1 ([lit].map (.int .i64)) := by rw [← hW1]; simpa using own_new (base := w.heap.size) (w := w) #[.int .i64 lit] 3 (Nat.le_refl _) (by simp)
  have hi1 : Ints (fun _ => True) W1 (.slice (some ⟨w.heap.size, 0, none⟩) 1 1) [lit] := ⟨(ownsRow_sl1 ho1 (by simp)).mono fun _ _ => trivial, fun x hx => by simp at hx; subst hx; exact hl⟩
  have HEQ := Lib.hid (equal_any _ _ y [lit] W1 (hy.below hb1) hi1)
  have HB1 := Lib.hid hb1
  clear hy hb1 ho1 hi1
  go_enter Tryz.func143, Tryz.ntmps143
  go_wp2_with fail
  try rw [hW1]
  clear hW1
  refine HEQ.out.mono ?_
  rintro e w2 ⟨rfl, nd, rfl⟩
  have HB2 := Lib.hid (below_drewN HB1.out nd)
  go_wp2_with fail
  go_ret
  exact ⟨rfl, HB2.out⟩
set_option maxHeartbeats 1000000 in
theorem indexfL_any (F : Nat → Prop) (P : List Int → Bool) (g : Nat) (v : Value) (xs : List (List Int)) (w : World) (hx : Clss F w v xs)
    (hp : ∀ (W : World) (u : Value) (y : List Int), Below w.heap.size w W → y ∈ xs → Ints F W u y → Calls Tryz.prog 143 #[u, .pointer (some ⟨g, 0, none⟩)] W (BoolPost W (P y))) :
    Calls Tryz.prog 68 #[v, .func (.func 143) #[] #[.pointer (some ⟨g, 0, none⟩)]] w (IntPost w (pGo P xs 0)) := by
  obtain ⟨a, n, c, rfl, HN, hn⟩ := hx.form'
  obtain ⟨R, hR⟩ : ∃ R, pGo P xs 0 = R := ⟨_, rfl⟩
  have HR : Hid (R = pGo P (xs.drop 0) 0) := Lib.hid hR.symm
  rw [hR]
  have HX := Lib.hid hx
  have HP := Lib.hid hp
  have HB0 : Hid (Below w.heap.size w w) := Lib.hid (Below.refl _ _)
  clear hR hx hp
  go_enter Tryz.func68, Tryz.ntmps68
  go_wp2
  go_loopg [4, 8] n (fun g u4 u8 wx => ∃ k : Nat, k + g = n ∧ u8 = .int .i64 k ∧ u4 = .int .i64 0 ∧ Hid (Below w.heap.size w wx) ∧ Hid (R = pGo P (xs.drop k) k))
  case atStart => exact ⟨0, by omega, rfl, rfl, HB0, HR⟩
  case round =>
    obtain ⟨k, hk, rfl, rfl, HB, hinv⟩ := hrel
    by_cases hlt : k < n
    · obtain ⟨y, hy, e⟩ := drop_at (xs := xs) (k := k) (by have := HN.out; omega)
      have hxs := HX.out
      obtain ⟨b, off, yv, rfl, _, hb, hc0, hyi⟩ := hxs.at hy
      have hc := below_c HB.out hb hc0
      obtain ⟨ya, yn, yc, rfl, HYN, hyn⟩ := hyi.form'
      have HI : Hid (R = if P y = true then (k : Int) else pGo P (xs.drop (k + 1)) (k + 1)) := Lib.hid (by rw [hinv.out, e]; rfl)
      obtain ⟨B, hB⟩ : ∃ B, P y = B := ⟨_, rfl⟩
      have hoc := HP.out wr _ y HB.out (List.mem_of_getElem? hy) (hyi.below HB.out)
      rw [hB] at HI hoc
      have HOC := Lib.hid hoc
      clear hinv e hy hB hoc hxs hyi hc0
      rcases bool2 B with rfl | rfl
      · have HF : Hid (R = k) := Lib.hid (by rw [HI.out, if_pos rfl])
        go_wp2_with fail
        refine HOC.out.mono ?_
        rintro e w' ⟨rfl, hb'⟩
        have HB' := Lib.hid (HB.out.trans (hb'.mono HB.out.size))
        go_wp2_with fail
        go_ret
        exact ⟨by rw [HF.out]; rfl, HB'.out⟩
      · have HF : Hid (R = pGo P (xs.drop (k + 1)) (k + 1)) := Lib.hid (by rw [HI.out, if_neg (by simp)])
        go_wp2_with fail
        refine HOC.out.mono ?_
        rintro e w' ⟨rfl, hb'⟩
        have HB' := Lib.hid (HB.out.trans (hb'.mono HB.out.size))
        clear hb'
        go_wp2_with fail
        go_roundg (gk - 1)
        case measure => omega
        case rel => exact ⟨k + 1, by omega, by go_num, rfl, HB', HF⟩
    · have HF : Hid (R = -1) := Lib.hid (by rw [hinv.out, List.drop_eq_nil_of_le (by have := HN.out; omega)]; rfl)
      clear hinv
      go_wp2
      go_ret
      exact ⟨by rw [HF.out]; rfl, HB.out⟩
theorem containsfL_any (F : Nat → Prop) (P : List Int → Bool) (g : Nat) (v : Value) (xs : List (List Int)) (w : World) (hx : Clss F w v xs)
    (hp : ∀ (W : World) (u : Value) (y : List Int), Below w.heap.size w W → y ∈ xs → Ints F W u y → Calls Tryz.prog 143 #[u, .pointer (some ⟨g, 0, none⟩)] W (BoolPost W (P y))) :
    Calls Tryz.prog 41 #[v, .func (.func 143) #[] #[.pointer (some ⟨g, 0, none⟩)]] w (BoolPost w (xs.any P)) := by
  have hc := pGo_any P xs 0
  have hI := indexfL_any F P g v xs w hx hp
  obtain ⟨R, hR⟩ : ∃ R, pGo P xs 0 = R := ⟨_, rfl⟩
  rw [hR] at hc hI
  rw [← hc]
  have HI := Lib.hid hI
  clear hc hR hI hx hp
  go_enter Tryz.func41, Tryz.ntmps41
  go_wp2_with fail
  refine HI.out.mono ?_
  rintro e w' ⟨rfl, hb'⟩
  go_wp2_with fail
  go_ret
  exact ⟨rfl, hb'⟩
end Go.Proofs.YthanfjpmcckbhaaGreatDoor
