/- Walk: the statement's Occur. No condition but the lengths (to 4000). -/
import Derived.Test.YtihkknploioakaaGreatKh
import Derived.Test.YtihkknploioakaaGreatQ8
import Derived.Test.YtihkknploioakaaGreatKj
namespace Go.Proofs.YtihkknploioakaaGreat
open Go.ChangeShapes Go.WideShapes Go.ChangeAt Go.RowKit
set_option linter.unusedVariables false

set_option maxRecDepth 100000 in
set_option maxHeartbeats 4000000 in
theorem loccur_any (F : Nat → Prop) (v : Value) (cs : List (List Int)) (w : World) (hx : Clss F w v cs) (hl : cs.length ≤ 4000) (hll : ∀ c ∈ cs, c.length ≤ 4000) :
    Calls Tryz.prog 17 #[v] w (OccPost w cs) := by
  obtain ⟨a, n, c, rfl, HN, hn⟩ := hx.form'
  have hinfo1 : (Tryz.prog.info? 3).map (fun i => (i.zero, i.size, i.bytes)) = some (some (.int .i64 0), 1, 8) := by kernel_rfl
  have HI1 := Lib.hid hinfo1
  have HX := Lib.hid hx
  have HLL := Lib.hid hll
  have hn2 : n ≤ 4000 := by rw [HN.out]; exact hl
  have HB0 : Hid (Below w.heap.size w (w.alloc (.cells #[] 3))) := Lib.hid ((Below.refl _ _).alloc (Nat.le_refl _) _)
  have HO0 : Hid ((w.alloc (.cells #[] 3)).ownsRow w.heap.size 3 1 (.slice (some ⟨w.heap.size, 0, none⟩) 0 0) ([] : List Int).length (([] : List Int).map (.int .i64))) := Lib.hid (by simpa using own_new (base := w.heap.size) (w := w) #[] 3 (by omega) (by simp))
  have HQ0 : Hid (mags cs = [] ++ mags (cs.drop 0)) := Lib.hid rfl
  clear hx hll hinfo1 hl
  go_enter Tryz.func17, Tryz.ntmps17
  go_wp2
  go_loopg [3, 12] n (fun gg u3 u12 wx => ∃ (k : Nat) (ov : Value) (os : List Int), k + gg = n ∧ u12 = .int .i64 k ∧ u3 = ov ∧ Hid (Below w.heap.size w wx) ∧ Hid (wx.ownsRow w.heap.size 3 1 ov os.length (os.map (.int .i64))) ∧ os.length ≤ 4000 * k ∧ Hid (mags cs = os ++ mags (cs.drop k)))
  case atStart => exact ⟨0, _, [], by omega, rfl, rfl, HB0, HO0, by simp, HQ0⟩
  case round =>
  clear HB0 HO0 HQ0
  obtain ⟨k, ov, os, hkg, rfl, rfl, HB, HO, hpk, HQ⟩ := hrel
  obtain ⟨oa, oc, hov⟩ := own_form HO.out
  obtain ⟨on, hon⟩ : ∃ m, os.length = m := ⟨_, rfl⟩
  rw [hon] at hov hpk
  subst hov
  have HON := Lib.hid hon
  clear hon
  by_cases hk : k < n
  case neg =>
    have hd : decide (k < n) = false := decide_eq_false hk
    have HQF : Hid (mags cs = os) := Lib.hid (by
      rw [HQ.out, List.drop_eq_nil_of_le (by have := HN.out; omega)]
      exact List.append_nil _)
    have HSO := Lib.hid (sorto_own wr w.heap.size 3 (.slice oa on oc) os HO.out (by have := HON.out; omega))
    clear HQ
    go_wp2_with fail
    refine HSO.out.mono ?_
    rintro e w3 ⟨rfl, ts, hp, ha, ho3, hg3⟩
    have hlt := ho3.lt
    have hb3 := HB.out.grown hg3 HB.out.size fun k hk => (hlt k hk).1
    have hct := compact_own w3 w.heap.size 3 (.slice oa on oc) ts (by rw [hp.length_eq]; exact ho3) (by rw [hp.length_eq]; have := HON.out; omega)
    have HCT := Lib.hid hct
    have HB3 := Lib.hid hb3
    have HT : Hid (Strict cmpM (cptM ts) ∧ (∀ x, x ∈ cptM ts ↔ x ∈ mags cs) ∧ (cptM ts).length ≤ 9223372036854775807) := Lib.hid ⟨asc_cpt ha, fun x => by rw [cptM_in, hp.mem_iff, HQF.out], by
      have h1 := cptG_len none ts
      have h2 := hp.length_eq
      have h3 := HON.out
      unfold cptM
      omega⟩
    clear ho3 hg3 hb3 hct hlt hp ha HSO
    go_wp2_with fail
    refine HCT.out.mono ?_
    rintro e w4 ⟨v4, rfl, ho4, hob, hg4⟩
    rw [List.length_map] at ho4
    have HF : Hid (OccPost w cs (.returned v4) w4) := Lib.hid ⟨v4, cptM ts, rfl, ⟨(ownsRow_sl1 ho4 HT.out.2.2).mono fun b hb => hb.1, fun x hx => by have := mags_I64 ((HT.out.2.1 x).1 hx); unfold I64; omega⟩, HB3.out.grown hg4 HB3.out.size fun k hk => (ho4.lt k (hob.trans hk)).1, HT.out.1, HT.out.2.1⟩
    obtain ⟨a4, c4, rfl⟩ := own_form ho4
    clear ho4 hob hg4 HCT
    go_wp2_with fail
    go_ret
    exact HF.out
  obtain ⟨x, hxx, ex⟩ := drop_at (xs := cs) (k := k) (by have := HN.out; omega)
  obtain ⟨b, o, u, rfl, _, hb, hcc0, hu⟩ := HX.out.at hxx
  have hcc := below_c HB.out hb hcc0
  obtain ⟨ua, un, uc, rfl, HUN, hun⟩ := hu.form'
  have HU := Lib.hid hu.lt
  have hxl : un ≤ 4000 := by rw [HUN.out]; exact HLL.out x (List.mem_of_getElem? hxx)
  have HQ1 : Hid (mags cs = os ++ (magsC (x.drop 0) ++ mags (cs.drop (k + 1)))) := Lib.hid (by rw [HQ.out, ex]; rfl)
  have hdk : decide ((k : Int) < n) = true := by simp; omega
  have hdk' : decide (k < n) = true := decide_eq_true hk
  obtain ⟨GK, hGK⟩ : ∃ G, G = gk := ⟨_, rfl⟩
  subst hGK
  clear hu hxx ex HQ hcc0
  go_wp2_with fail
  go_loopg [3, 18] un (fun gg u3 u18 wx => ∃ (j : Nat) (ov : Value) (os : List Int), j + gg = un ∧ u18 = .int .i64 j ∧ u3 = ov ∧ Hid (Below w.heap.size w wx) ∧ Hid (wx.ownsRow w.heap.size 3 1 ov os.length (os.map (.int .i64))) ∧ os.length ≤ 4000 * k + j ∧ Hid (mags cs = os ++ (magsC (x.drop j) ++ mags (cs.drop (k + 1)))))
  case atStart => exact ⟨0, _, os, by omega, rfl, rfl, HB, HO, by have := HON.out; omega, HQ1⟩
  case round =>
  clear HQ1 HB HO HON hpk
  obtain ⟨j, ov, os, hjg, rfl, rfl, HB, HO, hpk, HQ⟩ := hrel
  obtain ⟨oa, oc, hov⟩ := own_form HO.out
  obtain ⟨on, hon⟩ : ∃ m, os.length = m := ⟨_, rfl⟩
  rw [hon] at hov hpk
  subst hov
  have HON := Lib.hid hon
  clear hon
  have hszr := HB.out.size
  by_cases hj : j < un
  case neg =>
    have hdj : decide ((j : Int) < un) = false := by simp; omega
    have hdj' : decide (j < un) = false := decide_eq_false hj
    have HF : Hid (mags cs = os ++ mags (cs.drop (k + 1))) := Lib.hid (by rw [HQ.out, List.drop_eq_nil_of_le (by have := HUN.out; omega)]; rfl)
    clear HQ
    go_wp2_with fail
    go_roundg (GK - 1)
    case measure => omega
    case rel => exact ⟨k + 1, _, os, by omega, by go_num, rfl, HB, HO, by have := HON.out; omega, HF⟩
  obtain ⟨y, hyy, ey⟩ := drop_at (xs := x) (k := j) (by have := HUN.out; omega)
  have hui := HU.out.move (w' := wr) fun b hb _ => HB.out.block b hb.2
  obtain ⟨yb, yo, rfl, _, hyb, hyc, hy64⟩ := hui.at hyy
  have hdj : decide ((j : Int) < un) = true := by simp; omega
  have hdj' : decide (j < un) = true := decide_eq_true hj
  have HMG := Lib.hid (lmagnitude_any y wr hy64)
  obtain ⟨hm0, hm1⟩ := varM_u64 y hy64
  have HQ2 : Hid (mags cs = os ++ ((if magR (varM y) = true then varM y :: magsC (x.drop (j + 1)) else magsC (x.drop (j + 1))) ++ mags (cs.drop (k + 1)))) := Lib.hid (by
    rw [HQ.out, ey]
    unfold magsC
    rw [List.map_cons, List.filter_cons])
  generalize varM y = m at *
  clear HQ ey hyy hui hy64
  by_cases h1 : 1 ≤ m
  case neg =>
    have HF : Hid (mags cs = os ++ (magsC (x.drop (j + 1)) ++ mags (cs.drop (k + 1)))) := Lib.hid (by rw [HQ2.out, if_neg (by simp [magR, h1])])
    have hd1 : decide (1 ≤ m) = false := decide_eq_false h1
    clear HQ2 h1
    go_wp2_with fail
    refine HMG.out.mono ?_
    rintro e w9 ⟨rfl, rfl⟩
    go_wp2_with fail
    go_roundg (gk - 1)
    case measure => omega
    case rel => exact ⟨j + 1, _, os, by omega, by go_num, rfl, HB, HO, by have := HON.out; omega, HF⟩
  have hd1 : decide (1 ≤ m) = true := decide_eq_true h1
  by_cases h2 : m ≤ 20000
  case neg =>
    have HF : Hid (mags cs = os ++ (magsC (x.drop (j + 1)) ++ mags (cs.drop (k + 1)))) := Lib.hid (by rw [HQ2.out, if_neg (by simp [magR, h2])])
    have hd2 : decide (m ≤ 20000) = false := decide_eq_false h2
    clear HQ2 h1 h2
    go_wp2_with fail
    refine HMG.out.mono ?_
    rintro e w9 ⟨rfl, rfl⟩
    go_wp2_with fail
    go_roundg (gk - 1)
    case measure => omega
    case rel => exact ⟨j + 1, _, os, by omega, by go_num, rfl, HB, HO, by have := HON.out; omega, HF⟩
  have hd2 : decide (m ≤ 20000) = true := decide_eq_true h2
  have HF : Hid (mags cs = (os ++ [m]) ++ (magsC (x.drop (j + 1)) ++ mags (cs.drop (k + 1)))) := Lib.hid (by rw [HQ2.out, if_pos (by simp [magR, h1, h2])]; simp)
  have hwm : IntKind.i64.wrap m = m := IntWalk.i64_in _ ⟨by omega, by omega⟩
  have hown6 := HO.out
  rw [HON.out] at hown6
  clear HQ2
  go_wp2_with fail
  refine HMG.out.mono ?_
  rintro e w9 ⟨rfl, rfl⟩
  go_wp2_with (at_builtin; go_loud (refine wpList_push1 rfl _ _ 40 rfl 3 (.int .i64 0) 8 Tryz.underlying40 HI1.out rfl w.heap.size (.slice oa on oc) on (os.map (.int .i64)) w9 (.int .i64 m) rfl rfl hown6 rfl (by omega) (by omega) (by omega) ?_); intro g7 cap7 w7 hown7 hg7 hs7 hgb hgl hat; have HB7 := Lib.hid (HB.out.grown hg7 (by omega) (fun k hk => (hown6.lt k hk).1)); have HO7 : Hid (w7.ownsRow w.heap.size 3 1 (.slice (some ⟨g7, 0, none⟩) (on + 1) cap7) (os ++ [m]).length ((os ++ [m]).map (.int .i64))) := Lib.hid (by simpa [HON.out] using hown7); clear hown7 hg7 hown6)
  go_roundg (gk - 1)
  case measure => omega
  case rel => exact ⟨j + 1, _, os ++ [m], by omega, by go_num, rfl, HB7, HO7, by have := HON.out; simp; omega, HF⟩
end Go.Proofs.YtihkknploioakaaGreat
