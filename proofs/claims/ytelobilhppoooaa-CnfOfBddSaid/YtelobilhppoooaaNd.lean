/- Walk: the closure of the statement's ofBdd, that adds a clause; plain: its clauses are the writer's. No condition but the sizes. -/
import Derived.Test.YtelobilhppoooaaQh
namespace Go.Proofs.Ytelobilhppoooaa
open Go.ChangeShapes Go.WideShapes Go.ChangeAt Go.RowKit
set_option linter.unusedVariables false

/-- the clause of signed references: none where it is true -/
def oclGo (vars : Int) : List (Int × Int) → List Int → Option (List Int)
  | [], out => some out
  | p :: t, out => if p.2 < 0 then oclGo vars t (out ++ [-p.1 * p.2]) else if p.2 < 2 then (if ((p.2 == 1) == decide (0 < p.1)) = true then none else oclGo vars t out) else oclGo vars t (out ++ [p.1 * (vars + p.2 - 1)])
def ocl (vars : Int) (l : List (Int × Int)) : List (List Int) := match oclGo vars l [] with
  | none => []
  | some c => [c]
def SgOk (p : Int × Int) : Prop := (p.1 = 1 ∨ p.1 = -1) ∧ -100000 ≤ p.2 ∧ p.2 ≤ 100000
theorem oclGo_mem {vars : Int} (hv : 0 ≤ vars ∧ vars ≤ 40) : ∀ (l : List (Int × Int)) (acc c : List Int), (∀ p ∈ l, SgOk p) → oclGo vars l acc = some c → (∀ x ∈ acc, I64 x) → (∀ x ∈ c, I64 x) ∧ c.length ≤ acc.length + l.length
  | [], acc, c, _, h, ha => by cases h; exact ⟨ha, by simp⟩
  | p :: t, acc, c, hp, h, ha => by
    obtain ⟨h1, h2, h3⟩ := hp p (List.mem_cons_self ..)
    have ht := fun q hq => hp q (List.mem_cons_of_mem _ hq)
    have push : ∀ y : Int, I64 y → ∀ x ∈ acc ++ [y], I64 x := fun y hy x hx => by
      rcases List.mem_append.1 hx with h | h
      · exact ha x h
      · rw [List.mem_singleton] at h; subst h; exact hy
    rw [oclGo] at h
    split at h
    · obtain ⟨a, b⟩ := oclGo_mem hv t _ c ht h (push _ (by unfold I64; rcases h1 with e | e <;> rw [e] <;> omega))
      exact ⟨a, by simp at b ⊢; omega⟩
    split at h
    · split at h
      · cases h
      · obtain ⟨a, b⟩ := oclGo_mem hv t _ c ht h ha
        exact ⟨a, by simp at b ⊢; omega⟩
    · obtain ⟨a, b⟩ := oclGo_mem hv t _ c ht h (push _ (by unfold I64; rcases h1 with e | e <;> rw [e] <;> omega))
      exact ⟨a, by simp at b ⊢; omega⟩
theorem ocl_len (vars : Int) (l : List (Int × Int)) : (ocl vars l).length ≤ 1 := by
  unfold ocl
  split <;> simp
/-! ### the same clauses as the writer's -/
/-- a signed reference as the writer's literal -/
def sgL (vars : Int) (p : Int × Int) : Int := p.1 * (if p.2 < 0 then -p.2 else nameM vars p.2)
theorem ocl_add {vars : Int} (hv : 0 ≤ vars ∧ vars ≤ 40) : ∀ (l : List (Int × Int)) (acc : List Int), (∀ p ∈ l, (p.1 = 1 ∨ p.1 = -1) ∧ -10000 ≤ p.2 ∧ p.2 ≤ 10000) → oclGo vars l acc = addGo (l.map (sgL vars)) acc
  | [], acc, _ => rfl
  | p :: t, acc, hp => by
    obtain ⟨h1, h2, h3⟩ := hp p (List.mem_cons_self ..)
    have ih := fun acc => ocl_add hv t acc fun q hq => hp q (List.mem_cons_of_mem _ hq)
    obtain ⟨s, r⟩ := p
    simp only at h1 h2 h3
    rw [oclGo, List.map_cons, addGo]
    simp only [ih]
    unfold sgL nameM
    simp only
    by_cases hr : r < 0
    · rw [if_pos hr, if_pos hr, if_neg (by rcases h1 with e | e <;> rw [e] <;> omega), if_neg (by rcases h1 with e | e <;> rw [e] <;> omega)]
      congr 3
      rcases h1 with e | e <;> rw [e] <;> omega
    rw [if_neg hr, if_neg hr]
    by_cases h0 : r = 0
    · subst h0
      rcases h1 with e | e <;> subst e <;> simp
    by_cases h4 : r = 1
    · subst h4
      rcases h1 with e | e <;> subst e <;> simp
    rw [if_neg (by omega), if_neg h0, if_neg h4, if_neg (by rcases h1 with e | e <;> rw [e] <;> omega), if_neg (by rcases h1 with e | e <;> rw [e] <;> omega)]
theorem ocl_addM {vars : Int} (hv : 0 ≤ vars ∧ vars ≤ 40) (l : List (Int × Int)) (h : ∀ p ∈ l, (p.1 = 1 ∨ p.1 = -1) ∧ -10000 ≤ p.2 ∧ p.2 ≤ 10000) : ocl vars l = addM (l.map (sgL vars)) := by
  unfold ocl addM
  rw [ocl_add hv l [] h]
  cases addGo (l.map (sgL vars)) [] <;> rfl
/-- the formula under way: its cells, and the clauses -/
def CnAt (cb B : Nat) (v0 v1 : Value) (w : World) (lv : Value) (ps : List (Value × List Int)) : Prop :=
  w.cell? ⟨cb, 0, none⟩ = some v0 ∧ w.cell? ⟨cb, 1, none⟩ = some v1 ∧ w.cell? ⟨cb, 2, none⟩ = some lv ∧ (∀ o, w.frozen? ⟨cb, o, none⟩ = false) ∧ Out B w lv ps ∧ B ≤ w.heap.size
theorem CnAt.below {cb B : Nat} {v0 v1 : Value} {w w' : World} {lv : Value} {ps : List (Value × List Int)} (h : CnAt cb B v0 v1 w lv ps) (hb : Below w.heap.size w w') : CnAt cb B v0 v1 w' lv ps :=
  ⟨below_c hb (block_lt h.1) h.1, below_c hb (block_lt h.2.1) h.2.1, below_c hb (block_lt h.2.2.1) h.2.2.1, fun o => below_z hb (block_lt h.1) (h.2.2.2.1 o), h.2.2.2.2.1.below hb, Nat.le_trans h.2.2.2.2.2 hb.size⟩
def OclPost (cb B FB : Nat) (v0 v1 : Value) (W : World) (cs : List (List Int)) (e : Ending) (w' : World) : Prop :=
  e = .returned (.tuple #[]) ∧ Below cb W w' ∧ W.heap.size ≤ w'.heap.size ∧ ∃ lv ps, CnAt cb B v0 v1 w' lv ps ∧ ps.map Prod.snd = cs ∧ w'.heap[FB]? = W.heap[FB]? ∧ lv.ownBlock ≠ some FB
/-- a block of pairs -/
def PairsB (w : World) (ab : Nat) (l : List (Int × Int)) : Prop := ∀ (k : Nat) (p : Int × Int), l[k]? = some p → w.cell? ⟨ab, k * 2, none⟩ = some (.int .i64 p.1) ∧ w.cell? ⟨ab, k * 2 + 1, none⟩ = some (.int .i64 p.2)
theorem PairsB.below {w w' : World} {ab : Nat} {l : List (Int × Int)} (h : PairsB w ab l) (hb : Below w.heap.size w w') : PairsB w' ab l := fun k p hp => ⟨below_c hb (block_lt (h k p hp).1) (h k p hp).1, below_c hb (block_lt (h k p hp).2) (h k p hp).2⟩

set_option maxRecDepth 100000 in
set_option maxHeartbeats 4000000 in
theorem ocl_any (bb cb B FB ab cap : Nat) (vars : Int) (v0 v1 lv : Value) (ps : List (Value × List Int)) (lits : List (Int × Int)) (w : World) (hv : 0 ≤ vars ∧ vars ≤ 40) (hk : w.cell? ⟨bb, 0, none⟩ = some (.int .i64 vars))
    (hw : CnAt cb B v0 v1 w lv ps) (hcb : cb < B) (hx : PairsB w ab lits) (hp : ∀ p ∈ lits, SgOk p) (hl : ps.length ≤ 1000000) (hll : lits.length ≤ 10) (hFB : FB < w.heap.size ∧ FB ≠ cb ∧ lv.ownBlock ≠ some FB) :
    Calls Try.prog 27 #[.slice (some ⟨ab, 0, none⟩) lits.length cap, .pointer (some ⟨bb, 0, none⟩), .pointer (some ⟨cb, 0, none⟩)] w (OclPost cb B FB v0 v1 w (ps.map Prod.snd ++ ocl vars lits)) := by
  have hinfo : (Try.prog.info? 50).map (fun i => (i.zero, i.size, i.bytes)) = some (some (.slice none 0 0), 1, 24) := by kernel_rfl
  have hinfo1 : (Try.prog.info? 3).map (fun i => (i.zero, i.size, i.bytes)) = some (some (.int .i64 0), 1, 8) := by kernel_rfl
  have HI := Lib.hid hinfo
  have HI1 := Lib.hid hinfo1
  obtain ⟨R, hR⟩ : ∃ R, oclGo vars lits [] = R := ⟨_, rfl⟩
  have HR : Hid (R = oclGo vars (lits.drop 0) []) := Lib.hid hR.symm
  have HRM : Hid ((R = none → ocl vars lits = []) ∧ ∀ c, R = some c → ocl vars lits = [c]) := Lib.hid ⟨fun h => by unfold ocl; rw [hR, h], fun c h => by unfold ocl; rw [hR, h]⟩
  have HRI : Hid (∀ c, R = some c → (∀ x ∈ c, I64 x) ∧ c.length ≤ 1000) := Lib.hid fun c hc => by
    obtain ⟨a, b⟩ := oclGo_mem hv lits [] c hp (hR.trans hc) (by simp)
    exact ⟨a, by simp at b; omega⟩
  obtain ⟨n, hn⟩ : ∃ n, lits.length = n := ⟨_, rfl⟩
  have HN := Lib.hid hn
  rw [hn] at hll ⊢
  obtain ⟨k0, k1, k2, kf, hO, hB⟩ := hw
  have HX := Lib.hid hx
  have HP := Lib.hid hp
  have HFB := Lib.hid hFB
  have HO := Lib.hid hO
  have HW : Hid (CnAt cb B v0 v1 w lv ps) := Lib.hid ⟨k0, k1, k2, kf, hO, hB⟩
  have hwl := block_lt k0
  have hwb := block_lt hk
  obtain ⟨W1, hW1⟩ : ∃ W, w.alloc (.cells #[] 3) = W := ⟨_, rfl⟩
  have hbe : Below w.heap.size w W1 := by rw [← hW1]; exact (Below.refl _ _).alloc (Nat.le_refl _) _
  have hR0 : W1.ownsRow w.heap.size 3 1 (.slice (some ⟨w.heap.size, 0, none⟩) 0 0) ([] : List Int).length (([] : List Int).map (.int .i64)) := by rw [← hW1]; simpa using own_new (base := w.heap.size) (w := w) #[] 3 (by omega) (by simp)
  have HR0 := Lib.hid hR0
  have HB0 := Lib.hid hbe
  clear hinfo hinfo1 hR hx hp hO hn hR0 hbe hFB
  go_enter Try.func27, Try.ntmps27
  go_wp2
  clear hW1
  go_loopg [4, 12] n (fun gg u4 u12 wx => ∃ (j : Nat) (rv : Value) (rs : List Int), j + gg = n ∧ u12 = .int .i64 j ∧ u4 = rv ∧ Hid (Below w.heap.size w wx) ∧ Hid (wx.ownsRow w.heap.size 3 1 rv rs.length (rs.map (.int .i64))) ∧ rs.length ≤ j ∧ Hid (R = oclGo vars (lits.drop j) rs))
  case atStart => exact ⟨0, _, [], by omega, rfl, rfl, HB0, HR0, by simp, HR⟩
  case round =>
  clear HR HR0 HB0
  obtain ⟨j, rv, rs, hjg, rfl, rfl, HBI, HOR, hrj, HR⟩ := hrel
  obtain ⟨ra, rc, hrv⟩ := own_form HOR.out
  obtain ⟨rn, hrn⟩ : ∃ m, rs.length = m := ⟨_, rfl⟩
  rw [hrn] at hrv hrj
  subst hrv
  have HRN := Lib.hid hrn
  clear hrn
  have hszi := HBI.out.size
  by_cases hj : j < n
  case neg =>
    have hd : decide (j < n) = false := decide_eq_false hj
    have HRF : Hid (R = some rs) := Lib.hid (by
      rw [HR.out, List.drop_eq_nil_of_le (by have := HN.out; omega)]
      rfl)
    have q0 := below_c HBI.out hwl k0
    have q1 := below_c HBI.out hwl k1
    have q2 := below_c HBI.out hwl k2
    have qf : ∀ o, wr.frozen? ⟨cb, o, none⟩ = false := fun o => below_z HBI.out hwl (kf o)
    have hr4 : Ints (fun b => w.heap.size ≤ b) wr (.slice ra rn rc) rs := by
      have := HOR.out
      rw [HRN.out] at this
      exact ⟨(ownsRow_sl1 this (by omega)).mono fun b hb => hb.1, (HRI.out rs HRF.out).1⟩
    obtain ⟨la, lc, hlv⟩ := own_form HO.out.1
    obtain ⟨pn, hpn⟩ : ∃ m, ps.length = m := ⟨_, rfl⟩
    rw [hpn] at hlv hl
    subst hlv
    have HPN := Lib.hid hpn
    have HR5 := Lib.hid (hr4.mono (G := fun b => B ≤ b ∧ (Value.slice la pn lc).ownBlock ≠ some b) fun b hb => ⟨by omega, fun e => by have := (HO.out.lt b e).2; omega⟩)
    have HO5 := Lib.hid (HO.out.below HBI.out)
    have hown6 := HO5.out.1
    rw [HPN.out] at hown6
    have hlt6 := hown6.lt
    have HLT := Lib.hid hlt6
    clear k0 k1 k2 kf hr4 hpn HR hlt6 hk
    go_wp2_with (at_builtin; go_loud (refine wpList_push1 rfl _ _ 26 rfl 50 (.slice none 0 0) 24 Try.underlying26 HI.out rfl B (.slice la pn lc) pn (ps.map Prod.fst) wr (.slice ra rn rc) rfl rfl hown6 rfl (by omega) (by omega) (by omega) ?_); intro g7 cap7 w7 hown7 hg7 hs7 hgb hgl hat; have HG7 := Lib.hid hg7; have HO7 : Hid (Out B w7 (.slice (some ⟨g7, 0, none⟩) (ps.length + 1) cap7) (ps ++ [(Value.slice ra rn rc, rs)])) := Lib.hid (HO5.out.push HR5.out (by rw [HPN.out]; exact hown7) hg7 hat); have hnc : some cb ≠ (Value.slice la pn lc).ownBlock := fun e => (by have := (HLT.out _ e.symm).1; omega); have y0 := grown_cell hg7 hnc q0; have y1 := grown_cell hg7 hnc q1; have y2 := grown_cell hg7 hnc q2; have yf : ∀ o, w7.frozen? ⟨cb, o, none⟩ = false := fun o => grown_froz hg7 hnc (by omega) (qf o); clear hown7 hg7 hown6 hnc)
    have hbel : Below cb w (w7.setCell ⟨cb, 2, none⟩ (.slice (some ⟨g7, 0, none⟩) (pn + 1) cap7)) :=
      (((HBI.out.mono (by omega)).trans ((Below.refl cb wr).grown HG7.out (by omega) (fun b hb => by have := (HLT.out b hb).1; omega))).setCell (Nat.le_refl _) _)
    rw [HPN.out] at HO7
    have hwr : CnAt cb B v0 v1 (w7.setCell ⟨cb, 2, none⟩ (.slice (some ⟨g7, 0, none⟩) (pn + 1) cap7)) (.slice (some ⟨g7, 0, none⟩) (pn + 1) cap7) (ps ++ [(.slice ra rn rc, rs)]) :=
      ⟨set_ne (by omega) y0, set_ne (by omega) y1, set_eq y2, fun o => by rw [World.frozen?_setCell]; exact yf o, ⟨own_setCell _ HO7.out.1 hcb, fun p hp => (HO7.out.2 p hp).move fun k hk _ => Below.heap_setCell _ _ _ _ (by show k ≠ cb; have := hk.1; omega)⟩, by simp; omega⟩
    have HKF : Hid ((w7.setCell ⟨cb, 2, none⟩ (.slice (some ⟨g7, 0, none⟩) (pn + 1) cap7)).heap[FB]? = w.heap[FB]? ∧ (Value.slice (some ⟨g7, 0, none⟩) (pn + 1) cap7).ownBlock ≠ some FB) := Lib.hid (by
      obtain ⟨f1, f2, f3⟩ := HFB.out
      refine ⟨?_, fun e => ?_⟩
      · rw [Below.heap_setCell _ _ _ _ (show FB ≠ cb from f2), HG7.out.block FB (by omega) (fun e => f3 e.symm), HBI.out.block FB f1]
      · simp [Value.ownBlock] at e
        rcases hat with h | h
        · exact f3 (by rw [h, e])
        · omega)
    have HBEL := Lib.hid hbel
    have HWR := Lib.hid hwr
    clear hbel hwr
    go_end0
    exact ⟨rfl, HBEL.out, by simp; omega, _, _, HWR.out, by rw [HRM.out.2 rs HRF.out, List.map_append]; rfl, HKF.out.1, HKF.out.2⟩
  obtain ⟨y, hyy, ey⟩ := drop_at (xs := lits) (k := j) (by have := HN.out; omega)
  obtain ⟨hs, hr1, hr2⟩ := HP.out y (List.mem_of_getElem? hyy)
  have hui := HX.out j y hyy
  have c0 := below_c HBI.out (block_lt hui.1) hui.1
  have c1 := below_c HBI.out (block_lt hui.1) hui.2
  have q0 := below_c HBI.out hwb hk
  have hdj : decide ((j : Int) < n) = true := by simp; omega
  have hdj2 : decide (j < n) = true := by simp; omega
  obtain ⟨s, r⟩ := y
  simp only at c0 c1 hs hr1 hr2
  have HR2 : Hid (R = if r < 0 then oclGo vars (lits.drop (j + 1)) (rs ++ [-s * r]) else if r < 2 then (if ((r == 1) == decide (0 < s)) = true then none else oclGo vars (lits.drop (j + 1)) rs) else oclGo vars (lits.drop (j + 1)) (rs ++ [s * (vars + r - 1)])) := Lib.hid (by rw [HR.out, ey, oclGo])
  have hw1 : IntKind.i64.wrap (-s) = -s := IntWalk.i64_in _ ⟨by omega, by omega⟩
  have hba : Below wr.heap.size wr (wr.alloc (.cells #[.int .i64 s, .int .i64 r] 66)) := (Below.refl _ _).alloc (Nat.le_refl _) _
  have HBA := Lib.hid hba
  have hqa := below_c hba (block_lt q0) q0
  clear HR ey hyy hui hba
  by_cases h1 : r < 0
  · have HF : Hid (R = oclGo vars (lits.drop (j + 1)) (rs ++ [-s * r])) := Lib.hid (by rw [HR2.out, if_pos h1])
    have hd1 : decide (r < 0) = true := decide_eq_true h1
    have hw2 : IntKind.i64.wrap (-s * r) = -s * r := IntWalk.i64_in _ (by rcases hs with e | e <;> rw [e] <;> constructor <;> omega)
    clear h1 HR2
    go_upto_region 4 with fail
    go_quiet (fail)
    have HBZ := Lib.hid (below_drewN (HBI.out.trans (HBA.out.mono hszi)) nq)
    have hown6 := own_below (own_below HOR.out HBA.out) (below_drewN (Below.refl _ _) nq)
    rw [HRN.out] at hown6
    obtain ⟨wz, hwz⟩ : ∃ W, (wr.alloc (.cells #[.int .i64 s, .int .i64 r] 66)).drewN nq = W := ⟨_, rfl⟩
    rw [hwz] at HBZ hown6 ⊢
    clear hwz
    have hszz := HBZ.out.size
    go_wp2_with (at_builtin; go_loud (refine wpList_push1 rfl _ _ 50 rfl 3 (.int .i64 0) 8 Try.underlying50 HI1.out rfl w.heap.size (.slice ra rn rc) rn (rs.map (.int .i64)) wz (.int .i64 (-s * r)) rfl rfl hown6 rfl (by omega) (by omega) (by omega) ?_); intro g7 cap7 w7 hown7 hg7 hs7 hgb hgl hat; have HB7 := Lib.hid (HBZ.out.grown hg7 (by omega) (fun k hk => (hown6.lt k hk).1)); have HO7 : Hid (w7.ownsRow w.heap.size 3 1 (.slice (some ⟨g7, 0, none⟩) (rn + 1) cap7) (rs ++ [-s * r]).length ((rs ++ [-s * r]).map (.int .i64))) := Lib.hid (by simpa [HRN.out] using hown7); clear hown7 hg7 hown6)
    go_roundg (gk - 1)
    case measure => omega
    case rel => exact ⟨j + 1, _, rs ++ [-s * r], by omega, by go_num, rfl, HB7, HO7, by have := HRN.out; simp; omega, HF⟩
  have hd1 : decide (r < 0) = false := decide_eq_false h1
  by_cases h2 : r < 2
  · have hd2 : decide (r < 2) = true := decide_eq_true h2
    obtain ⟨E, hE⟩ : ∃ E, ((r == 1) == decide (0 < s)) = E := ⟨_, rfl⟩
    have HR3 : Hid (R = if E = true then none else oclGo vars (lits.drop (j + 1)) rs) := Lib.hid (by rw [HR2.out, if_neg h1, if_pos h2, hE])
    rcases bool2 E with rfl | rfl
    · have HF : Hid (R = none) := Lib.hid (by rw [HR3.out, if_pos rfl])
      clear h1 h2 HR2 HR3
      go_upto_region 4 with fail
      go_quiet (fail)
      go_wp2_with fail
      try rw [Exit.noGoto_ret]
      have hwr := HW.out.below (below_drewN (HBI.out.trans (HBA.out.mono hszi)) nq)
      have HBB := Lib.hid (below_drewN (HBI.out.trans (HBA.out.mono hszi)) nq)
      first
      | go_ret
      | go_end0
      exact ⟨rfl, HBB.out.mono (by omega), HBB.out.size, _, _, hwr, by rw [HRM.out.1 HF.out, List.append_nil], HBB.out.block FB HFB.out.1, HFB.out.2.2⟩
    · have HF : Hid (R = oclGo vars (lits.drop (j + 1)) rs) := Lib.hid (by rw [HR3.out, if_neg (by simp)])
      clear h1 h2 HR2 HR3
      have HOX := Lib.hid (own_below (own_below HOR.out HBA.out) (Below.refl _ _))
      go_upto_region 4 with fail
      go_quiet (fail)
      go_wp2_with fail
      go_roundg (gk - 1)
      case measure => omega
      case rel => exact ⟨j + 1, _, rs, by omega, by go_num, rfl, Lib.hid (below_drewN (HBI.out.trans (HBA.out.mono hszi)) _), Lib.hid (own_below HOX.out (below_drewN (Below.refl _ _) _)), by have := HRN.out; omega, HF⟩
  have hd2 : decide (r < 2) = false := decide_eq_false h2
  have HF : Hid (R = oclGo vars (lits.drop (j + 1)) (rs ++ [s * (vars + r - 1)])) := Lib.hid (by rw [HR2.out, if_neg h1, if_neg h2])
  have hw3 : IntKind.i64.wrap (vars + r) = vars + r := IntWalk.i64_in _ ⟨by omega, by omega⟩
  have hw4 : IntKind.i64.wrap (vars + r - 1) = vars + r - 1 := IntWalk.i64_in _ ⟨by omega, by omega⟩
  have hw5 : IntKind.i64.wrap (s * (vars + r - 1)) = s * (vars + r - 1) := IntWalk.i64_in _ (by rcases hs with e | e <;> rw [e] <;> constructor <;> omega)
  obtain ⟨T, hT⟩ : ∃ T, s * (vars + r - 1) = T := ⟨_, rfl⟩
  rw [hT] at hw5 HF
  clear h1 h2 HR2
  go_upto_region 4 with fail
  go_quiet (fail)
  have HBZ := Lib.hid (below_drewN (HBI.out.trans (HBA.out.mono hszi)) nq)
  have hown6 := own_below (own_below HOR.out HBA.out) (below_drewN (Below.refl _ _) nq)
  rw [HRN.out] at hown6
  obtain ⟨wz, hwz⟩ : ∃ W, (wr.alloc (.cells #[.int .i64 s, .int .i64 r] 66)).drewN nq = W := ⟨_, rfl⟩
  rw [hwz] at HBZ hown6 ⊢
  clear hwz
  have hszz := HBZ.out.size
  have qz := below_c HBZ.out hwb hk
  go_wp2_with (at_builtin; go_loud (refine wpList_push1 rfl _ _ 50 rfl 3 (.int .i64 0) 8 Try.underlying50 HI1.out rfl w.heap.size (.slice ra rn rc) rn (rs.map (.int .i64)) wz (.int .i64 T) rfl rfl hown6 rfl (by omega) (by omega) (by omega) ?_); intro g7 cap7 w7 hown7 hg7 hs7 hgb hgl hat; have HB7 := Lib.hid (HBZ.out.grown hg7 (by omega) (fun k hk => (hown6.lt k hk).1)); have HO7 : Hid (w7.ownsRow w.heap.size 3 1 (.slice (some ⟨g7, 0, none⟩) (rn + 1) cap7) (rs ++ [T]).length ((rs ++ [T]).map (.int .i64))) := Lib.hid (by simpa [HRN.out] using hown7); clear hown7 hg7 hown6)
  go_roundg (gk - 1)
  case measure => omega
  case rel => exact ⟨j + 1, _, rs ++ [T], by omega, by go_num, rfl, HB7, HO7, by have := HRN.out; simp; omega, HF⟩
end Go.Proofs.Ytelobilhppoooaa
