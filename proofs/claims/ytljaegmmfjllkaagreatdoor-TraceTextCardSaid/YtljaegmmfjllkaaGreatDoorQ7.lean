/- Walk: cnf.Occur. No condition but the lengths. -/
import Derived.Test.YtljaegmmfjllkaaGreatDoorQ8
import Derived.Test.YtljaegmmfjllkaaGreatDoorQ9
import Derived.Test.YtljaegmmfjllkaaGreatDoorKf
import Derived.Deep.DeepCutAuto
import Derived.Deep.LoopGhost
namespace Go.Proofs.YtljaegmmfjllkaaGreatDoor
open Go.ChangeShapes Go.WideShapes Go.ChangeAt Go.RowKit
set_option linter.unusedVariables false

/-! ### cnf.Occur, with a set -/
def SeenI (w : World) (mb : Nat) (l : List Int) : Prop :=
  ∃ D : DataW Unit, w.ownsMap Tryz.prog 3 (plainElem Tryz.prog 4) mb l.length D ∧ Maps.IsMap D ∧ ∀ x, I64 x → D.atKey (.int .i64 x) (.lit (.bool false)) = .lit (.bool (decide (x ∈ l)))
theorem SeenI.grown {w w' : World} {mb : Nat} {l : List Int} {row : Option Nat} (h : SeenI w mb l) (hg : w.grownBy w' row) (hne : some mb ≠ row) : SeenI w' mb l := by
  obtain ⟨D, h1, h2⟩ := h
  exact ⟨D, h1.kept hg hne, h2⟩
theorem SeenI.look {w : World} {mb : Nat} {l : List Int} {x : Int} (h : SeenI w mb l) (hx : I64 x) : (Instr.lookup 86 (.map (some mb)) (.int .i64 x) false).run Tryz.prog w = .ok (.bool (decide (x ∈ l))) w := by
  obtain ⟨D, h1, h2, h3⟩ := h
  obtain ⟨v, ps, hrun, hv⟩ := h1.lookup law_int Tryz.underlying86 (z := .bool false) (by kernel_rfl) (plainElem_bool Tryz.underlying4 false) (keyOf_i hx)
  rw [h3 x hx] at hv
  obtain ⟨y, rfl, hy⟩ := plainElem_bool_inv Tryz.underlying4 hv
  simp only [Prod.mk.injEq, DataW.lit.injEq, Lit.bool.injEq] at hy
  rw [hy.1]
  exact hrun
theorem seenI_put {w' : World} {mb : Nat} {l : List Int} {D : DataW Unit} {m : Int} (hm : I64 m)
    (h1 : w'.ownsMap Tryz.prog 3 (plainElem Tryz.prog 4) mb (l.length + 1) (D.put (.int .i64 m) (.lit (.bool true)))) (h2 : Maps.IsMap D)
    (h3 : ∀ x, I64 x → D.atKey (.int .i64 x) (.lit (.bool false)) = .lit (.bool (decide (x ∈ l)))) : SeenI w' mb (l ++ [m]) := by
  refine ⟨_, by simpa using h1, h2.put _ _, fun x hx => ?_⟩
  by_cases e : x = m
  · subst e
    rw [Maps.atKey_put_same h2 (by trivial)]
    simp
  · rw [Maps.atKey_put_other (by simpa using e), h3 x hx]
    simp [e]
/-- what Occur hands back, as a slice of the call's own -/
def OccOwn (W : World) (cs : List (List Int)) (e : Ending) (w' : World) : Prop :=
  ∃ v os, e = .returned v ∧ w'.ownsRow W.heap.size 3 1 v os.length (os.map (.int .i64)) ∧ Below W.heap.size W w' ∧ Strict cmpM os ∧ ∀ x, x ∈ os ↔ x ∈ mags cs
theorem own_down {w : World} {B B' : Nat} {e : TypeId} {size : Nat} {v : Value} {n : Nat} {xs : List Value} (h : w.ownsRow B e size v n xs) (hb : B' ≤ B) : w.ownsRow B' e size v n xs := by
  refine ⟨h.1, ?_⟩
  rcases h.2 with h0 | ⟨g, cap, cur, h1, h2, h3⟩
  · exact .inl h0
  · exact .inr ⟨g, cap, cur, h1, Nat.le_trans hb h2, h3⟩
set_option maxRecDepth 100000 in
set_option maxHeartbeats 8000000 in
theorem occur_own (F : Nat → Prop) (v : Value) (cs : List (List Int)) (w : World) (hx : Clss F w v cs) (hl : cs.length ≤ 4000) (hll : ∀ c ∈ cs, c.length ≤ 4000) :
    Calls Tryz.prog 31 #[v] w (OccOwn w cs) := by
  obtain ⟨a, n, c, rfl, HN, hn⟩ := hx.form'
  have hinfo1 : (Tryz.prog.info? 3).map (fun i => (i.zero, i.size, i.bytes)) = some (some (.int .i64 0), 1, 8) := by kernel_rfl
  have HI1 := Lib.hid hinfo1
  have HX := Lib.hid hx
  have HLL := Lib.hid hll
  have hn2 : n ≤ 4000 := by rw [HN.out]; exact hl
  have hmm := @run_makeMap Tryz.prog
  obtain ⟨mb, hmb⟩ : ∃ mb, w.heap.size = mb := ⟨_, rfl⟩
  have HMB := Lib.hid hmb
  have HB0 : Hid (Below mb w (w.alloc (.map #[] 0))) := Lib.hid (by rw [← hmb]; exact (Below.refl _ _).alloc (Nat.le_refl _) _)
  have HO0 : Hid ((w.alloc (.map #[] 0)).ownsRow (mb + 1) 3 1 (.slice none 0 0) ([] : List Int).length (([] : List Int).map (.int .i64))) := Lib.hid (World.ownsRow_nil _ _ _ _)
  have HS0 : Hid (SeenI (w.alloc (.map #[] 0)) mb []) := Lib.hid (by rw [← hmb]; exact ⟨_, World.ownsMap_made _ _ _ _, Maps.isMap_empty, fun x hx => by simp [DataW.atKey]⟩)
  have HZ0 : Hid (mb + 1 ≤ (w.alloc (.map #[] 0)).heap.size) := Lib.hid (by simp; omega)
  have HQ0 : Hid (∀ x, x ∈ mags cs ↔ x ∈ ([] : List Int) ∨ x ∈ mags (cs.drop 0)) := Lib.hid fun x => by simp
  clear hx hll hinfo1 hl
  go_enter Tryz.func31, Tryz.ntmps31
  go_wp2
  clear hmm
  go_loopg [4, 13] n (fun gg u4 u13 wx => ∃ (k : Nat) (ov : Value) (os : List Int), k + gg = n ∧ u13 = .int .i64 k ∧ u4 = ov ∧ Hid (Below mb w wx) ∧ Hid (wx.ownsRow (mb + 1) 3 1 ov os.length (os.map (.int .i64))) ∧ Hid (SeenI wx mb os) ∧ Hid (os.Nodup) ∧ Hid (mb + 1 ≤ wx.heap.size) ∧ os.length ≤ 4000 * k ∧ Hid (∀ x, x ∈ mags cs ↔ x ∈ os ∨ x ∈ mags (cs.drop k)))
  case atStart => exact ⟨0, _, [], by omega, rfl, rfl, HB0, HO0, HS0, Lib.hid List.nodup_nil, HZ0, by simp, HQ0⟩
  case round =>
  clear HB0 HO0 HQ0 HS0 HZ0
  obtain ⟨k, ov, os, hkg, rfl, rfl, HB, HO, HS, HND, HZ, hpk, HQ⟩ := hrel
  obtain ⟨oa, oc, hov⟩ := own_form HO.out
  obtain ⟨on, hon⟩ : ∃ m, os.length = m := ⟨_, rfl⟩
  rw [hon] at hov hpk
  subst hov
  have HON := Lib.hid hon
  clear hon
  by_cases hk : k < n
  case neg =>
    have hd : decide (k < n) = false := decide_eq_false hk
    have HQF : Hid (∀ x, x ∈ mags cs ↔ x ∈ os) := Lib.hid fun x => by
      rw [HQ.out x, List.drop_eq_nil_of_le (by have := HN.out; omega)]
      simp [mags]
    have HSO := Lib.hid (sorto_own wr (mb + 1) 3 (.slice oa on oc) os HO.out (by have := HON.out; omega))
    clear HQ
    go_wp2_with fail
    refine HSO.out.mono ?_
    rintro e w3 ⟨rfl, ts, hp, ha, ho3, hg3⟩
    have HF : Hid (OccOwn w cs (.returned (.slice oa on oc)) w3) := Lib.hid ⟨_, ts, rfl, (by
        have := own_down ho3 (B' := w.heap.size) (by have := HMB.out; omega)
        rw [← hp.length_eq] at this
        exact this), by
        rw [HMB.out]
        exact HB.out.grown hg3 (by have := HZ.out; omega) fun b hb => by have := (ho3.lt b hb).1; omega,
      asc_nodup ha (hp.nodup_iff.2 HND.out), fun x => by rw [hp.mem_iff, HQF.out x]⟩
    clear ho3 hg3 hp ha HSO
    go_wp2_with fail
    go_ret
    exact HF.out
  obtain ⟨x, hxx, ex⟩ := drop_at (xs := cs) (k := k) (by have := HN.out; omega)
  obtain ⟨b, o, u, rfl, _, hb, hcc0, hu⟩ := HX.out.at hxx
  have hcc := below_c HB.out (by have := HMB.out; omega) hcc0
  obtain ⟨ua, un, uc, rfl, HUN, hun⟩ := hu.form'
  have HU := Lib.hid hu.lt
  have hxl : un ≤ 4000 := by rw [HUN.out]; exact HLL.out x (List.mem_of_getElem? hxx)
  have HQ1 : Hid (∀ y, y ∈ mags cs ↔ y ∈ os ∨ (y ∈ magsC (x.drop 0) ∨ y ∈ mags (cs.drop (k + 1)))) := Lib.hid fun y => by
    rw [HQ.out y, ex, mags, List.flatMap_cons, List.mem_append, List.drop_zero]
    rfl
  have hdk : decide ((k : Int) < n) = true := by simp; omega
  have hdk' : decide (k < n) = true := decide_eq_true hk
  have hbr := block_lt hcc
  obtain ⟨GK, hGK⟩ : ∃ G, G = gk := ⟨_, rfl⟩
  subst hGK
  clear hu hxx ex HQ hcc0
  go_wp2_with fail
  go_loopg [4, 19] un (fun gg u4 u19 wx => ∃ (j : Nat) (ov : Value) (os : List Int), j + gg = un ∧ u19 = .int .i64 j ∧ u4 = ov ∧ Hid (Below mb w wx) ∧ Hid (wx.ownsRow (mb + 1) 3 1 ov os.length (os.map (.int .i64))) ∧ Hid (SeenI wx mb os) ∧ Hid (os.Nodup) ∧ Hid (mb + 1 ≤ wx.heap.size) ∧ os.length ≤ 4000 * k + j ∧ Hid (∀ y, y ∈ mags cs ↔ y ∈ os ∨ (y ∈ magsC (x.drop j) ∨ y ∈ mags (cs.drop (k + 1)))))
  case atStart => exact ⟨0, _, os, by omega, rfl, rfl, HB, HO, HS, HND, HZ, by have := HON.out; omega, HQ1⟩
  case round =>
  clear HQ1 HB HO HON hpk HS HND HZ
  obtain ⟨j, ov, os, hjg, rfl, rfl, HB, HO, HS, HND, HZ, hpk, HQ⟩ := hrel
  obtain ⟨oa, oc, hov⟩ := own_form HO.out
  obtain ⟨on, hon⟩ : ∃ m, os.length = m := ⟨_, rfl⟩
  rw [hon] at hov hpk
  subst hov
  have HON := Lib.hid hon
  clear hon
  have hszr := HZ.out
  by_cases hj : j < un
  case neg =>
    have hdj : decide ((j : Int) < un) = false := by simp; omega
    have hdj' : decide (j < un) = false := decide_eq_false hj
    have HF : Hid (∀ y, y ∈ mags cs ↔ y ∈ os ∨ y ∈ mags (cs.drop (k + 1))) := Lib.hid fun y => by
      rw [HQ.out y, List.drop_eq_nil_of_le (by have := HUN.out; omega)]
      simp [magsC]
    clear HQ
    go_wp2_with fail
    go_roundg (GK - 1)
    case measure => omega
    case rel => exact ⟨k + 1, _, os, by omega, by go_num, rfl, HB, HO, HS, HND, HZ, by have := HON.out; omega, HF⟩
  obtain ⟨y, hyy, ey⟩ := drop_at (xs := x) (k := j) (by have := HUN.out; omega)
  have hui := HU.out.move (w' := wr) fun b hb _ => HB.out.block b (by have := hb.2; have := HMB.out; omega)
  obtain ⟨yb, yo, rfl, _, hyb, hyc, hy64⟩ := hui.at hyy
  have hdj : decide ((j : Int) < un) = true := by simp; omega
  have hdj' : decide (j < un) = true := decide_eq_true hj
  have HMG := Lib.hid (magnitude_any y wr hy64)
  obtain ⟨hm0, hm1⟩ := varM_u64 y hy64
  have HQ2 : Hid (∀ z, z ∈ mags cs ↔ z ∈ os ∨ ((if magR (varM y) = true then z = varM y ∨ z ∈ magsC (x.drop (j + 1)) else z ∈ magsC (x.drop (j + 1))) ∨ z ∈ mags (cs.drop (k + 1)))) := Lib.hid fun z => by
    rw [HQ.out z, ey]
    unfold magsC
    rw [List.map_cons, List.filter_cons]
    split <;> simp
  generalize varM y = m at *
  clear HQ ey hyy hui hy64
  by_cases h1 : 1 ≤ m
  case neg =>
    have HF : Hid (∀ z, z ∈ mags cs ↔ z ∈ os ∨ (z ∈ magsC (x.drop (j + 1)) ∨ z ∈ mags (cs.drop (k + 1)))) := Lib.hid fun z => by rw [HQ2.out z, if_neg (by simp [magR, h1])]
    have hd1 : decide (1 ≤ m) = false := decide_eq_false h1
    clear HQ2 h1
    go_wp2_with fail
    refine HMG.out.mono ?_
    rintro e w9 ⟨rfl, rfl⟩
    go_wp2_with fail
    go_roundg (gk - 1)
    case measure => omega
    case rel => exact ⟨j + 1, _, os, by omega, by go_num, rfl, HB, HO, HS, HND, HZ, by have := HON.out; omega, HF⟩
  have hd1 : decide (1 ≤ m) = true := decide_eq_true h1
  by_cases h2 : m ≤ 20000
  case neg =>
    have HF : Hid (∀ z, z ∈ mags cs ↔ z ∈ os ∨ (z ∈ magsC (x.drop (j + 1)) ∨ z ∈ mags (cs.drop (k + 1)))) := Lib.hid fun z => by rw [HQ2.out z, if_neg (by simp [magR, h2])]
    have hd2 : decide (m ≤ 20000) = false := decide_eq_false h2
    clear HQ2 h1 h2
    go_wp2_with fail
    refine HMG.out.mono ?_
    rintro e w9 ⟨rfl, rfl⟩
    go_wp2_with fail
    go_roundg (gk - 1)
    case measure => omega
    case rel => exact ⟨j + 1, _, os, by omega, by go_num, rfl, HB, HO, HS, HND, HZ, by have := HON.out; omega, HF⟩
  have hd2 : decide (m ≤ 20000) = true := decide_eq_true h2
  have hi64 : I64 m := by unfold I64; omega
  have hwm : IntKind.i64.wrap m = m := IntWalk.i64_in _ ⟨by omega, by omega⟩
  have hlk := HS.out.look hi64
  obtain ⟨E, hE⟩ : ∃ E, decide (m ∈ os) = E := ⟨_, rfl⟩
  rw [hE] at hlk
  rcases bool2 E with rfl | rfl
  · have hin : m ∈ os := by simpa using hE
    have HF : Hid (∀ z, z ∈ mags cs ↔ z ∈ os ∨ (z ∈ magsC (x.drop (j + 1)) ∨ z ∈ mags (cs.drop (k + 1)))) := Lib.hid fun z => by
      rw [HQ2.out z, if_pos (by simp [magR, h1, h2])]
      constructor
      · rintro (h | (rfl | h) | h)
        · exact .inl h
        · exact .inl hin
        · exact .inr (.inl h)
        · exact .inr (.inr h)
      · rintro (h | h | h)
        · exact .inl h
        · exact .inr (.inl (.inr h))
        · exact .inr (.inr h)
    clear HQ2 h1 h2 hin hE
    go_wp2_with fail
    refine HMG.out.mono ?_
    rintro e w9 ⟨rfl, rfl⟩
    go_wp2_with fail
    go_roundg (gk - 1)
    case measure => omega
    case rel => exact ⟨j + 1, _, os, by omega, by go_num, rfl, HB, HO, HS, HND, HZ, by have := HON.out; omega, HF⟩
  have hnin : m ∉ os := by simpa using hE
  have HF : Hid (∀ z, z ∈ mags cs ↔ z ∈ os ++ [m] ∨ (z ∈ magsC (x.drop (j + 1)) ∨ z ∈ mags (cs.drop (k + 1)))) := Lib.hid fun z => by
    rw [HQ2.out z, if_pos (by simp [magR, h1, h2]), List.mem_append, List.mem_singleton]
    constructor
    · rintro (h | (h | h) | h)
      · exact .inl (.inl h)
      · exact .inl (.inr h)
      · exact .inr (.inl h)
      · exact .inr (.inr h)
    · rintro ((h | h) | h | h)
      · exact .inl h
      · exact .inr (.inl (.inl h))
      · exact .inr (.inl (.inr h))
      · exact .inr (.inr h)
  have HND2 : Hid ((os ++ [m]).Nodup) := Lib.hid (List.nodup_append.2 ⟨HND.out, by simp, fun a ha b hb e => hnin (by rw [List.mem_singleton] at hb; rw [← hb, ← e]; exact ha)⟩)
  obtain ⟨D, hD1, hD2, hD3⟩ := HS.out
  rw [HON.out] at hD1
  have HD2 := Lib.hid hD2
  have HD3 := Lib.hid hD3
  have HI64 := Lib.hid hi64
  clear HQ2 h1 h2 hnin hE HND hD2 hD3 HS
  go_wp2_with fail
  refine HMG.out.mono ?_
  rintro e w9 ⟨rfl, rfl⟩
  go_wp2_with (first
    | (at_mapUpdate; refine wpList_mapUpdate_own _ rfl _ _ _ 86 rfl 3 4 law_int Tryz.underlying86 (plainElem Tryz.prog 4) mb on D rfl hD1 (by unfold maxLen; omega) _ _ (.int .i64 m) rfl rfl (keyOf_i HI64.out) (.lit (.bool true)) [] (plainElem_bool Tryz.underlying4 true) ?_; intro w5 hown5 hgrow5; have HS5 : Hid (SeenI w5 mb (os ++ [m])) := Lib.hid (seenI_put HI64.out (by rw [HON.out]; exact hown5) HD2.out HD3.out); have HB5 : Hid (Below mb w w5) := Lib.hid (HB.out.grown hgrow5 (by omega) fun b hb => by cases hb; omega); have hown6 : w5.ownsRow (mb + 1) 3 1 (.slice oa on oc) on (os.map (.int .i64)) := by { have h := HO.out.kept hgrow5 (.inr fun e => by have := (HO.out.lt _ e).1; omega); rw [HON.out] at h; exact h }; have hsz5 := hgrow5.size; clear hown5 hgrow5 hD1)
    | (at_builtin; go_loud (refine wpList_push1 rfl _ _ 43 rfl 3 (.int .i64 0) 8 Tryz.underlying43 HI1.out rfl (mb + 1) (.slice oa on oc) on (os.map (.int .i64)) w5 (.int .i64 m) rfl rfl hown6 rfl (by omega) (by omega) (by omega) ?_); intro g7 cap7 w7 hown7 hg7 hs7 hgb hgl hat; have HB7 := Lib.hid (HB5.out.grown hg7 (by omega) (fun k hk => by have := (hown6.lt k hk).1; omega)); have HO7 : Hid (w7.ownsRow (mb + 1) 3 1 (.slice (some ⟨g7, 0, none⟩) (on + 1) cap7) (os ++ [m]).length ((os ++ [m]).map (.int .i64))) := Lib.hid (by simpa [HON.out] using hown7); have HS7 := Lib.hid (HS5.out.grown hg7 (fun e => by have := (hown6.lt _ e.symm).1; omega)); clear hown7 hg7 hown6)
    | go_in)
  go_roundg (gk - 1)
  case measure => omega
  case rel => exact ⟨j + 1, _, os ++ [m], by omega, by go_num, rfl, HB7, HO7, HS7, HND2, Lib.hid (by omega), by have := HON.out; simp; omega, HF⟩
theorem occur_any (F : Nat → Prop) (v : Value) (cs : List (List Int)) (w : World) (hx : Clss F w v cs) (hl : cs.length ≤ 4000) (hll : ∀ c ∈ cs, c.length ≤ 4000) :
    Calls Tryz.prog 31 #[v] w (OccPost w cs) :=
  (occur_own F v cs w hx hl hll).mono fun e w' ⟨u, os, he, ho, hb, hs, hm⟩ => by
    have hr : ∀ x ∈ os, 1 ≤ x ∧ x ≤ 20000 := fun x hx => mags_I64 ((hm x).1 hx)
    have hn : os.length ≤ 9223372036854775807 := by
      rcases ho.2 with ⟨_, h0⟩ | ⟨g, cap, cur, _, _, _, h3, h4, _⟩
      · omega
      · unfold maxLen at h4; omega
    exact ⟨u, os, he, ⟨(ownsRow_sl1 ho hn).mono fun b hb => hb.1, fun x hx => by have := hr x hx; unfold I64; omega⟩, hb, hs, hm⟩
end Go.Proofs.YtljaegmmfjllkaaGreatDoor
