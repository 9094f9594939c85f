/- Walk: cnf.writer's add. No condition but the lengths. -/
import Derived.Test.YteadlkecngfcoaaGreatQf
import Derived.Test.YteadlkecngfcoaaGreatKy
namespace Go.Proofs.YteadlkecngfcoaaGreat
open Go.ChangeShapes Go.WideShapes Go.ChangeAt Go.RowKit
set_option linter.unusedVariables false

/-- add: the clause that it adds, none if a literal is always true -/
def addGo : List Int → List Int → Option (List Int)
  | [], acc => some acc
  | x :: r, acc => if x = 20001 then none else if x = -20001 then addGo r acc else addGo r (acc ++ [x])
def addM (lits : List Int) : List (List Int) := match addGo lits [] with
  | none => []
  | some c => [c]
theorem addGo_mem : ∀ (l acc c : List Int), addGo l acc = some c → ∀ x ∈ c, x ∈ acc ∨ x ∈ l
  | [], acc, c, h, x, hx => by cases h; exact .inl hx
  | y :: r, acc, c, h, x, hx => by
    rw [addGo] at h
    split at h
    · cases h
    split at h
    · exact (addGo_mem r acc c h x hx).imp id (List.mem_cons_of_mem _)
    · rcases addGo_mem r _ c h x hx with h1 | h1
      · rcases List.mem_append.1 h1 with h1 | h1
        · exact .inl h1
        · rw [List.mem_singleton] at h1
          subst h1
          exact .inr (List.mem_cons_self ..)
      · exact .inr (List.mem_cons_of_mem _ h1)
theorem addGo_len : ∀ (l acc c : List Int), addGo l acc = some c → c.length ≤ acc.length + l.length
  | [], acc, c, h => by cases h; simp
  | y :: r, acc, c, h => by
    rw [addGo] at h
    split at h
    · cases h
    split at h
    · have := addGo_len r acc c h
      simp; omega
    · have := addGo_len r _ c h
      simp at this ⊢; omega
theorem Out.setCell {B b : Nat} {w : World} {v : Value} {ps : List (Value × List Int)} (u : Value) (h : Out B w v ps) (hb : b < B) : Out B (w.setCell ⟨b, 0, none⟩ u) v ps :=
  ⟨own_setCell u h.1 hb, fun p hp => (h.2 p hp).move fun k hk _ => Below.heap_setCell _ _ _ _ (by show k ≠ b; have := hk.1; omega)⟩
/-- the writer, and what it has collected -/
def WrAt (wb B : Nat) (w : World) (lv : Value) (ps : List (Value × List Int)) : Prop :=
  w.cell? ⟨wb, 0, none⟩ = some lv ∧ w.frozen? ⟨wb, 0, none⟩ = false ∧ Out B w lv ps ∧ B ≤ w.heap.size
theorem WrAt.below {wb B : Nat} {w w' : World} {lv : Value} {ps : List (Value × List Int)} (h : WrAt wb B w lv ps) (hb : Below w.heap.size w w') : WrAt wb B w' lv ps :=
  ⟨below_c hb (block_lt h.1) h.1, below_z hb (block_lt h.1) h.2.1, h.2.2.1.below hb, Nat.le_trans h.2.2.2 hb.size⟩
def AddPost (wb B : Nat) (W : World) (cs : List (List Int)) (e : Ending) (w' : World) : Prop :=
  e = .returned (.tuple #[]) ∧ Below wb W w' ∧ W.heap.size ≤ w'.heap.size ∧ ∃ lv ps, WrAt wb B w' lv ps ∧ ps.map Prod.snd = cs

set_option maxRecDepth 100000 in
set_option maxHeartbeats 4000000 in
theorem add_any (F : Nat → Prop) (wb B : Nat) (lv av : Value) (ps : List (Value × List Int)) (lits : List Int) (w : World) (hw : WrAt wb B w lv ps) (hwb : wb < B) (hx : Ints F w av lits) (hl : ps.length ≤ 1000000) (hll : lits.length ≤ 1000) :
    Calls Tryz.prog 22 #[.pointer (some ⟨wb, 0, none⟩), av] w (AddPost wb B w (ps.map Prod.snd ++ addM lits)) := by
  obtain ⟨a, n, c, rfl, HN, hn⟩ := hx.form'
  have hinfo : (Tryz.prog.info? 22).map (fun i => (i.zero, i.size, i.bytes)) = some (some (.slice none 0 0), 1, 24) := by kernel_rfl
  have hinfo1 : (Tryz.prog.info? 3).map (fun i => (i.zero, i.size, i.bytes)) = some (some (.int .i64 0), 1, 8) := by kernel_rfl
  have HI := Lib.hid hinfo
  have HI1 := Lib.hid hinfo1
  obtain ⟨R, hR⟩ : ∃ R, addGo lits [] = R := ⟨_, rfl⟩
  have HR : Hid (R = addGo (lits.drop 0) []) := Lib.hid hR.symm
  have HRM : Hid ((R = none → addM lits = []) ∧ ∀ c, R = some c → addM lits = [c]) := Lib.hid ⟨fun h => by unfold addM; rw [hR, h], fun c h => by unfold addM; rw [hR, h]⟩
  have HRI : Hid (∀ c, R = some c → (∀ x ∈ c, I64 x) ∧ c.length ≤ 1000) := Lib.hid fun c hc => by
    refine ⟨fun x hxc => ?_, ?_⟩
    · rcases addGo_mem _ _ _ (hR.trans hc) x hxc with h | h
      · cases h
      · exact hx.2 x h
    · have := addGo_len _ _ _ (hR.trans hc)
      simp at this
      omega
  have hn2 : n ≤ 1000 := by rw [HN.out]; exact hll
  obtain ⟨k0, kf, hO, hB⟩ := hw
  have hxl := hx.lt
  have HX := Lib.hid hxl
  have HO := Lib.hid hO
  have HW : Hid (WrAt wb B w lv ps) := Lib.hid ⟨k0, kf, hO, hB⟩
  have hwl := block_lt k0
  have HR0 : Hid (w.ownsRow w.heap.size 3 1 (.slice none 0 0) ([] : List Int).length (([] : List Int).map (.int .i64))) := Lib.hid (World.ownsRow_nil _ _ _ _)
  have HB0 : Hid (Below w.heap.size w w) := Lib.hid (Below.refl _ _)
  clear hinfo hinfo1 hR hx hll hxl hO
  go_enter Tryz.func22, Tryz.ntmps22
  go_wp2
  go_loopg [4, 9] n (fun gg u4 u9 wx => ∃ (j : Nat) (rv : Value) (rs : List Int), j + gg = n ∧ u9 = .int .i64 j ∧ u4 = rv ∧ Hid (Below w.heap.size w wx) ∧ Hid (wx.ownsRow w.heap.size 3 1 rv rs.length (rs.map (.int .i64))) ∧ rs.length ≤ j ∧ Hid (R = addGo (lits.drop j) rs))
  case atStart => exact ⟨0, _, [], by omega, rfl, rfl, HB0, HR0, by simp, HR⟩
  case round =>
  clear HR HR0 HB0
  obtain ⟨j, rv, rs, hjg, rfl, rfl, HBI, HOR, hrj, HR⟩ := hrel
  obtain ⟨ra, rc, hrv⟩ := own_form HOR.out
  obtain ⟨rn, hrn⟩ : ∃ m, rs.length = m := ⟨_, rfl⟩
  rw [hrn] at hrv hrj
  subst hrv
  have HRN := Lib.hid hrn
  clear hrn
  have hszi := HBI.out.size
  by_cases hj : j < n
  case neg =>
    have hd : decide (j < n) = false := decide_eq_false hj
    have HRF : Hid (R = some rs) := Lib.hid (by
      rw [HR.out, List.drop_eq_nil_of_le (by have := HN.out; omega)]
      rfl)
    have q0 := below_c HBI.out hwl k0
    have qf := below_z HBI.out hwl kf
    have hr4 : Ints (fun b => w.heap.size ≤ b) wr (.slice ra rn rc) rs := by
      have := HOR.out
      rw [HRN.out] at this
      exact ⟨(ownsRow_sl1 this (by omega)).mono fun b hb => hb.1, (HRI.out rs HRF.out).1⟩
    obtain ⟨la, lc, hlv⟩ := own_form HO.out.1
    obtain ⟨pn, hpn⟩ : ∃ m, ps.length = m := ⟨_, rfl⟩
    rw [hpn] at hlv hl
    subst hlv
    have HPN := Lib.hid hpn
    have HR5 := Lib.hid (hr4.mono (G := fun b => B ≤ b ∧ (Value.slice la pn lc).ownBlock ≠ some b) fun b hb => ⟨by omega, fun e => by have := (HO.out.lt b e).2; omega⟩)
    have HO5 := Lib.hid (HO.out.below HBI.out)
    have hown6 := HO5.out.1
    rw [HPN.out] at hown6
    have hlt6 := hown6.lt
    have HLT := Lib.hid hlt6
    clear k0 kf hr4 hpn HR hlt6
    go_wp2_with (at_builtin; go_loud (refine wpList_push1 rfl _ _ 29 rfl 22 (.slice none 0 0) 24 Tryz.underlying29 HI.out rfl B (.slice la pn lc) pn (ps.map Prod.fst) wr (.slice ra rn rc) rfl rfl hown6 rfl (by omega) (by omega) (by omega) ?_); intro g7 cap7 w7 hown7 hg7 hs7 hgb hgl hat; have HG7 := Lib.hid hg7; have HO7 : Hid (Out B w7 (.slice (some ⟨g7, 0, none⟩) (ps.length + 1) cap7) (ps ++ [(Value.slice ra rn rc, rs)])) := Lib.hid (HO5.out.push HR5.out (by rw [HPN.out]; exact hown7) hg7 hat); have y0 := grown_cell hg7 (fun e => by have := (HLT.out _ e.symm).1; omega) q0; have yf := grown_froz hg7 (fun e => by have := (HLT.out _ e.symm).1; omega) (by omega) qf; clear hown7 hg7 hown6)
    have hbel : Below wb w (w7.setCell ⟨wb, 0, none⟩ (.slice (some ⟨g7, 0, none⟩) (pn + 1) cap7)) :=
      (((HBI.out.mono (by omega)).trans ((Below.refl wb wr).grown HG7.out (by omega) (fun b hb => by have := (HLT.out b hb).1; omega))).setCell (Nat.le_refl _) _)
    rw [HPN.out] at HO7
    have hwr : WrAt wb B (w7.setCell ⟨wb, 0, none⟩ (.slice (some ⟨g7, 0, none⟩) (pn + 1) cap7)) (.slice (some ⟨g7, 0, none⟩) (pn + 1) cap7) (ps ++ [(.slice ra rn rc, rs)]) :=
      ⟨set_eq y0, by rw [World.frozen?_setCell]; exact yf, HO7.out.setCell _ hwb, by simp; omega⟩
    have HBEL := Lib.hid hbel
    have HWR := Lib.hid hwr
    clear hbel hwr
    go_end0
    exact ⟨rfl, HBEL.out, by simp; omega, _, _, HWR.out, by rw [HRM.out.2 rs HRF.out, List.map_append]; rfl⟩
  obtain ⟨y, hyy, ey⟩ := drop_at (xs := lits) (k := j) (by have := HN.out; omega)
  have hui := HX.out.below (hb := HBI.out)
  obtain ⟨yb, yo, rfl, _, hyb, hyc, hy64⟩ := hui.at hyy
  have hdj : decide ((j : Int) < n) = true := by simp; omega
  have hdj2 : decide (j < n) = true := by simp; omega
  have HR2 : Hid (R = if y = 20001 then none else if y = -20001 then addGo (lits.drop (j + 1)) rs else addGo (lits.drop (j + 1)) (rs ++ [y])) := Lib.hid (by rw [HR.out, ey, addGo])
  clear HR ey hyy hui
  by_cases h1 : y = 20001
  · have HF : Hid (R = none) := Lib.hid (by rw [HR2.out, if_pos h1])
    have hd1 : (y == 20001) = true := by simp [h1]
    clear h1 HR2
    go_wp2_with fail
    try rw [Exit.noGoto_ret]
    have hwr := HW.out.below HBI.out
    first
    | go_ret
    | go_end0
    exact ⟨rfl, HBI.out.mono (by omega), hszi, _, _, hwr, by rw [HRM.out.1 HF.out, List.append_nil]⟩
  have hd1 : (y == 20001) = false := by simp [h1]
  by_cases h2 : y = -20001
  · have HF : Hid (R = addGo (lits.drop (j + 1)) rs) := Lib.hid (by rw [HR2.out, if_neg h1, if_pos h2])
    have hd2 : (y == -20001) = true := by simp [h2]
    clear h1 h2 HR2
    go_wp2_with fail
    go_roundg (gk - 1)
    case measure => omega
    case rel => exact ⟨j + 1, _, rs, by omega, by go_num, rfl, HBI, HOR, by have := HRN.out; omega, HF⟩
  have hd2 : (y == -20001) = false := by simp [h2]
  have HF : Hid (R = addGo (lits.drop (j + 1)) (rs ++ [y])) := Lib.hid (by rw [HR2.out, if_neg h1, if_neg h2])
  have hown6 := HOR.out
  rw [HRN.out] at hown6
  clear h1 h2 HR2
  go_wp2_with (at_builtin; go_loud (refine wpList_push1 rfl _ _ 22 rfl 3 (.int .i64 0) 8 Tryz.underlying22 HI1.out rfl w.heap.size (.slice ra rn rc) rn (rs.map (.int .i64)) wr (.int .i64 y) rfl rfl hown6 rfl (by omega) (by omega) (by omega) ?_); intro g7 cap7 w7 hown7 hg7 hs7 hgb hgl hat; have HB7 := Lib.hid (HBI.out.grown hg7 (by omega) (fun k hk => (hown6.lt k hk).1)); have HO7 : Hid (w7.ownsRow w.heap.size 3 1 (.slice (some ⟨g7, 0, none⟩) (rn + 1) cap7) (rs ++ [y]).length ((rs ++ [y]).map (.int .i64))) := Lib.hid (by simpa [HRN.out] using hown7); clear hown7 hg7 hown6)
  go_roundg (gk - 1)
  case measure => omega
  case rel => exact ⟨j + 1, _, rs ++ [y], by omega, by go_num, rfl, HB7, HO7, by have := HRN.out; simp; omega, HF⟩
end Go.Proofs.YteadlkecngfcoaaGreat
