/- Walk: the statement's ofMtbdd. A diagram of the right form, few words of one width. -/
import Derived.Test.YteadlkecngfcoaaGreatOu
import Derived.Test.YteadlkecngfcoaaGreatKh
namespace Go.Proofs.YteadlkecngfcoaaGreat
open Go.ChangeShapes Go.WideShapes Go.ChangeAt Go.RowKit
set_option linter.unusedVariables false
set_option linter.unusedSimpArgs false

open List renaming getElem_toArray → gz1, getElem_cons_succ → gz2, getElem_cons_zero → gz3, setIfInBounds_toArray → gz4, set_cons_zero → gz5, set_cons_succ → gz6
theorem keep_c {w w' : World} {b o : Nat} {v : Value} (hb : Below w.heap.size w w') (h : w.cell? ⟨b, o, none⟩ = some v) : w'.cell? ⟨b, o, none⟩ = some v := below_c hb (block_lt h) h
theorem keep_f {w w' : World} {b : Nat} (hb : Below w.heap.size w w') (h : b < w.heap.size) (hf : ∀ o, w.frozen? ⟨b, o, none⟩ = false) : ∀ o, w'.frozen? ⟨b, o, none⟩ = false := fun o => below_z hb h (hf o)
theorem step_push2 {P : Program} {ops : Array Oper} {o : Oper} {a : Act} {w : World} {K : Act → World → Prop} {Q : Exit → Act → World → Prop} {X : Prop}
    (hgd : o.guard = none) (s x : Operand) (t : TypeId)
    (ho : o.op = .call { callee := .builtin .append, args := #[s, x], argTypes := #[t, t] })
    (E : TypeId) (z : Value) (bytes : Nat) (ht : P.underlying t = some (.slice E)) (hinfo : (P.info? E).map (fun i => (i.zero, i.size, i.bytes)) = some (some z, 1, bytes)) (hz1 : z.cells.size = 1)
    (base : Nat) (v : Value) (n : Nat) (xs : List Value) (B : Nat) (u0 u1 : Value)
    (hs : a.eval s = v) (hx : a.eval x = .slice (some ⟨B, 0, none⟩) 2 2) (hc0 : w.cell? ⟨B, 0, none⟩ = some u0) (hc1 : w.cell? ⟨B, 1, none⟩ = some u1) (hown : w.ownsRow base E 1 v n xs) (hu0 : u0.oneCell' = true) (hu1 : u1.oneCell' = true)
    (hn : (n + 2) * bytes ≤ 140737488355328) (hby : 1 ≤ bytes) (hbase : base ≤ w.heap.size)
    (h : ∀ (g cap' : Nat) w', w'.ownsRow base E 1 (.slice (some ⟨g, 0, none⟩) (n + 2) cap') (n + 2) (xs ++ [u0, u1]) → w.grownBy w' v.ownBlock → (v.ownBlock = some g ∨ w.heap.size ≤ g) → K (a.put o.dst (.slice (some ⟨g, 0, none⟩) (n + 2) cap')) w') :
    if Region.wanted o (yielded ops a.tmps) = true then Oper.wp P o a w K Q else X := by
  have hw : Region.wanted o (yielded ops a.tmps) = true := by simp [Region.wanted, hgd]
  rw [if_pos hw]
  obtain ⟨i, hi, hz, h1, h2⟩ := info_parts hinfo
  have hle : n + 2 ≤ (n + 2) * bytes := Nat.le_mul_of_pos_right _ hby
  obtain ⟨v', w', hr, k2, k3, k4, k5⟩ := run_append_own_at (P := P) w base t o.type E i z 1 bytes ht hi hz h1 h2 hz1 (by decide) v n xs hown ⟨B, 0, none⟩ 2 2 [u0, u1] rfl
    (fun j y hj => by
      match j, hj with
      | 0, hj => simp at hj; subst hj; simpa [Addr.add] using hc0
      | 1, hj => simp at hj; subst hj; simpa [Addr.add] using hc1)
    (fun y hy => by simp at hy; rcases hy with rfl | rfl <;> assumption) (by unfold maxLen; omega) hn hbase
  unfold Oper.wp execOp
  simp only [ho, resolve, invoke, builtin, Sem.run_bind, Sem.run_pure, Result.andThen_ok, List.map_toArray, List.map_cons, List.map_nil, hs, hx, hr]
  rcases k2.2 with ⟨_, h0⟩ | ⟨g, cap', cur, rfl, hb, hh, _⟩
  · omega
  refine h g cap' w' k2 k3 ?_
  rcases k5 with h | h
  · exact .inl h.symm
  · right; simp [Value.ownBlock] at h; omega
/-- the formula under way -/
def OmS (T : Nat) (V K : Int) (w : World) (lv : Value) (ps : List (Value × List Int)) : Prop :=
  w.heap[T]? = some (.cells #[.int .i64 V, .int .i64 K, lv] 31) ∧ Out (T + 1) w lv ps ∧ T + 1 ≤ w.heap.size
theorem OmS.below {T : Nat} {V K : Int} {w w' : World} {lv : Value} {ps : List (Value × List Int)} (h : OmS T V K w lv ps) (hb : Below w.heap.size w w') : OmS T V K w' lv ps :=
  ⟨(hb.block _ (Array.getElem?_eq_some_iff.1 h.1).1).trans h.1, h.2.1.below hb, Nat.le_trans h.2.2 hb.size⟩
theorem OmS.push {T N lc g cap : Nat} {V K : Int} {w w5 w3 : World} {la : Option Addr} {ps rs : List (Value × List Int)} (h : OmS T V K w (.slice la N lc) ps) (hN : ps.length = N) (hb : Below w.heap.size w w5) (hr : ∀ p ∈ rs, Ints (fun b => w.heap.size ≤ b) w5 p.1 p.2)
    (hg : w5.grownBy w3 (Value.slice la N lc).ownBlock) (ho : w3.ownsRow (T + 1) 22 1 (.slice (some ⟨g, 0, none⟩) (N + rs.length) cap) (N + rs.length) (ps.map Prod.fst ++ rs.map Prod.fst)) (hat : (Value.slice la N lc).ownBlock = some g ∨ w5.heap.size ≤ g) :
    OmS T V K (w3.setCell ⟨T, 2, none⟩ (.slice (some ⟨g, 0, none⟩) (N + rs.length) cap)) (.slice (some ⟨g, 0, none⟩) (N + rs.length) cap) (ps ++ rs) := by
  obtain ⟨h1, h2, h3⟩ := h
  have hT := (Array.getElem?_eq_some_iff.1 h1).1
  have ol := h2.1.lt
  have hs := hb.size
  have hgT := (ho.lt g rfl).1
  have new : ∀ k, k ≠ T → (w3.setCell ⟨T, 2, none⟩ (.slice (some ⟨g, 0, none⟩) (N + rs.length) cap)).heap[k]? = w3.heap[k]? := fun k n => Below.heap_setCell _ _ _ _ (by simpa using n)
  have hz3 : w5.heap.size ≤ w3.heap.size := hg.size
  refine ⟨?_, ⟨?_, fun p hp => ?_⟩, by simp; omega⟩
  · rw [heap_set _ ((hg.block T (by omega) (fun e => by have := (ol _ e.symm).1; omega)).trans ((hb.block T hT).trans h1))]; rfl
  · have := row_same ho (w' := w3.setCell ⟨T, 2, none⟩ (.slice (some ⟨g, 0, none⟩) (N + rs.length) cap)) fun b e => new b (by simp [Value.ownBlock] at e; omega)
    rw [List.length_append, hN, List.map_append]
    exact this
  · rcases List.mem_append.1 hp with hp | hp
    · refine ((h2.2 p hp).lt.move (w' := w3.setCell ⟨T, 2, none⟩ (.slice (some ⟨g, 0, none⟩) (N + rs.length) cap)) fun b hb1 _ => ?_).mono fun b hb1 => ⟨hb1.1.1, fun e => ?_⟩
      · rw [new b (by have := hb1.1.1; omega), hg.block b (by omega) (fun e => hb1.1.2 e.symm), hb.block b hb1.2]
      · simp [Value.ownBlock] at e
        subst e
        rcases hat with h | h
        · exact hb1.1.2 h
        · have := hb1.2; omega
    · refine ((hr p hp).lt.move (w' := w3.setCell ⟨T, 2, none⟩ (.slice (some ⟨g, 0, none⟩) (N + rs.length) cap)) fun b hb1 hb2 => ?_).mono fun b hb1 => ⟨by have := hb1.1; omega, fun e => ?_⟩
      · rw [new b (by have := hb1.1; omega), hg.block b hb1.2 (fun e => by have := (ol b e.symm).2; have := hb1.1; omega)]
      · simp [Value.ownBlock] at e
        subst e
        rcases hat with h | h
        · have := (ol _ h).2; have := hb1.1; omega
        · have := hb1.2; omega
theorem omname_any (s2 s : Nat) (D vars r f0 : Int) (W : World) (h1 : W.cell? ⟨s2, 0, none⟩ = some (.int .i64 D)) (h2 : W.cell? ⟨s, 0, none⟩ = some (.int .i64 vars)) (hD : 0 ≤ D ∧ D ≤ 12) (hv : 0 ≤ vars ∧ vars ≤ 40) (hr : 0 ≤ r ∧ r ≤ 100) (hf : D + vars + 1 = f0) :
    Calls Tryz.prog 25 #[.int .i64 r, .pointer (some ⟨s2, 0, none⟩), .pointer (some ⟨s, 0, none⟩)] W fun e w' => e = .returned (.int .i64 (f0 + r)) ∧ W = w' := by
  have e1 : IntKind.i64.wrap (D + vars) = D + vars := IntWalk.i64_in _ ⟨by omega, by omega⟩
  have e2 : IntKind.i64.wrap (D + vars + 1) = f0 := by rw [hf]; exact IntWalk.i64_in _ ⟨by omega, by omega⟩
  have e3 : IntKind.i64.wrap (f0 + r) = f0 + r := IntWalk.i64_in _ ⟨by omega, by omega⟩
  clear hD hv hr hf
  go_enter Tryz.func25, Tryz.ntmps25
  go_wp2
  go_ret
  exact ⟨rfl, rfl⟩
/-- what ofMtbdd hands back -/
def OmPost (W : World) (V K : Int) (cs : List (List Int)) (e : Ending) (w' : World) : Prop :=
  ∃ cv, e = .returned (.agg #[.int .i64 V, .int .i64 K, cv]) ∧ Clss (fun b => W.heap.size ≤ b) w' cv (canM cs) ∧ Below W.heap.size W w'
set_option maxRecDepth 100000 in
set_option maxHeartbeats 16000000 in
theorem lofmtbdd_any (F : Nat → Prop) (vars root : Int) (lv0 nv0 wv0 : Value) (lvs : List Int) (ns : List Fork) (ws : List (List Bool)) (w : World) (hlv : Ints F w lv0 lvs) (hnv : Forks F w nv0 ns) (hwv : Wds F w wv0 ws) (hL : lvs.length ≤ 40) (hn : ns.length ≤ 40) (hw : ws.length ≤ 20) (hwl : ∀ x ∈ ws, x.length ≤ 12) (hM : MtP vars lvs ns root) (hSW : SameW ws) (hFW : FitW lvs ws) :
    Calls Tryz.prog 7 #[.agg #[.int .i64 vars, lv0, nv0, .int .i64 root], wv0] w (OmPost w (widM ws + vars + lvs.length + ns.length) (widM ws) (mtC vars lvs ns root ws)) := by
  obtain ⟨la, ll, lc, rfl, HLL, _⟩ := hlv.form'
  obtain ⟨na, nl, nc, rfl, HNL, _⟩ := hnv.form
  obtain ⟨wa, wl, wk, rfl, HWL, _⟩ := hwv.form2
  obtain ⟨s, hs⟩ : ∃ b, w.heap.size = b := ⟨_, rfl⟩
  obtain ⟨W1, hW1⟩ : ∃ W1, (((w.alloc (.cells #[.int .i64 vars, .slice la ll lc, .slice na nl nc, .int .i64 root] 25)).alloc (.cells #[.int .i64 0, .int .i64 0, .slice none 0 0] 31))).alloc (.cells #[.int .i64 0] 3) = W1 := ⟨_, rfl⟩
  have z1 : (w.alloc (.cells #[.int .i64 vars, .slice la ll lc, .slice na nl nc, .int .i64 root] 25)).heap.size = s + 1 := by rw [World.size_alloc, hs]
  have z2 : ((w.alloc (.cells #[.int .i64 vars, .slice la ll lc, .slice na nl nc, .int .i64 root] 25)).alloc (.cells #[.int .i64 0, .int .i64 0, .slice none 0 0] 31)).heap.size = s + 1 + 1 := by rw [World.size_alloc, z1]
  have hb1 : Below w.heap.size w W1 := by rw [← hW1]; exact (((Below.refl _ _).alloc (Nat.le_refl _) _).alloc (by rw [z1]; omega) _).alloc (by rw [z2]; omega) _
  have hs1 : W1.heap.size = s + 3 := by rw [← hW1, World.size_alloc, z2]
  have hA : W1.heap[s]? = some (.cells #[.int .i64 vars, .slice la ll lc, .slice na nl nc, .int .i64 root] 25) := by rw [← hW1]; exact old_at _ _ _ (old_at _ _ _ (new_at' _ _ hs.symm))
  have hAr : W1.heap[s + 1]? = some (.cells #[.int .i64 0, .int .i64 0, .slice none 0 0] 31) := by rw [← hW1]; exact old_at _ _ _ (new_at' _ _ z1.symm)
  have hAw : W1.heap[s + 1 + 1]? = some (.cells #[.int .i64 0] 3) := by rw [← hW1]; exact new_at' _ _ z2.symm
  have g0 : W1.cell? ⟨s + 1 + 1, 0, none⟩ = some (.int .i64 0) := cell_of hAw rfl
  have gf : ∀ o, W1.frozen? ⟨s + 1 + 1, o, none⟩ = false := froz_of hAw
  obtain ⟨D, hD⟩ : ∃ d, widM ws = d := ⟨_, rfl⟩
  have HD := Lib.hid hD
  have hD12 : D ≤ 12 := by
    rw [← hD]
    unfold widM
    rcases hx : ws[0]? with _ | x
    · rw [List.getD_eq_getElem?_getD, hx]; simp
    · rw [List.getD_eq_getElem?_getD, hx]; exact hwl x (List.mem_of_getElem? hx)
  rw [hD]
  have hv0 := hM.1
  have hv1 := hM.2.1
  have HMT := Lib.hid hM
  have HSW := Lib.hid hSW
  have HFW := Lib.hid hFW
  have HA := Lib.hid hA
  have HAr := Lib.hid hAr
  have HLV := Lib.hid ((hlv.lt.mono (G := fun b => b < w.heap.size) fun b h => h.2).below hb1)
  have HNV := Lib.hid ((hnv.lt.mono (G := fun b => b < w.heap.size) fun b h => h.2).below hb1)
  have HWV := Lib.hid (hwv.lt2.below hb1)
  have HW1 := Lib.hid hW1
  have HB1 := Lib.hid hb1
  have HS := Lib.hid hs
  have hll : ll ≤ 40 := by rw [HLL.out]; exact hL
  have hnl : nl ≤ 40 := by rw [HNL.out]; exact hn
  have hwl2 : wl ≤ 20 := by rw [HWL.out]; exact hw
  obtain ⟨B0, hB0⟩ : ∃ b, decide ((0 : Int) < wl) = b := ⟨_, rfl⟩
  obtain ⟨B1, hB1⟩ : ∃ b, decide (0 < wl) = b := ⟨_, rfl⟩
  have HB0 := Lib.hid hB0
  have hB01 : B0 = B1 := by rw [← hB0, ← hB1]; simp
  subst hB01
  rw [← HLL.out, ← HNL.out]
  obtain ⟨V, hV⟩ : ∃ x, (D : Int) + vars + ll + nl = x := ⟨_, rfl⟩
  rw [hV]
  have HVE := Lib.hid hV
  clear hV hlv hnv hwv hs hW1 hb1 hA hAr hAw hL hn hw hwl hM hSW hFW z1 z2 hD
  go_enter Tryz.func7, Tryz.ntmps7
  go_upto_region 2 with fail
  rw [HW1.out]
  try rw [HS.out]
  go_upto_if 19 with fail
  clear hB0 hB1
  go_cut [] from 20 to 24 (fun wx => Hid (Below (s + 1 + 1) W1 wx) ∧ Hid (wx.cell? ⟨s + 1 + 1, 0, none⟩ = some (.int .i64 D)) ∧ Hid (wx.heap.size = s + 3))
  case first =>
    rcases bool2 B0 with rfl | rfl
    · have hw0 : 0 < wl := by have := of_decide_eq_true HB0.out; omega
      obtain ⟨x, hx⟩ : ∃ x, ws[0]? = some x := ⟨_, List.getElem?_eq_getElem (by have := HWL.out; omega)⟩
      obtain ⟨xb, xo, xu, rfl, _, _, xc, xr⟩ := HWV.out.at hx
      obtain ⟨xa, xcp, rfl, _⟩ := xr.form
      have hxD : x.length = D := by rw [← HD.out]; unfold widM; rw [List.getD_eq_getElem?_getD, hx]; rfl
      rw [hxD, Nat.add_zero] at xc
      have hw1 : (0 : Int) < wl := by omega
      have HBS : Hid (Below (s + 1 + 1) W1 (W1.setCell ⟨s + 1 + 1, 0, none⟩ (.int .i64 D))) := Lib.hid ((Below.refl (s + 1 + 1) W1).setCell (Nat.le_refl (s + 1 + 1)) _)
      have HCS : Hid ((W1.setCell ⟨s + 1 + 1, 0, none⟩ (.int .i64 D)).cell? ⟨s + 1 + 1, 0, none⟩ = some (.int .i64 D)) := Lib.hid (set_eq g0)
      have HSS : Hid ((W1.setCell ⟨s + 1 + 1, 0, none⟩ (.int .i64 D)).heap.size = s + 3) := Lib.hid (by simp [hs1])
      clear hx xr hxD
      go_wp2_with fail
      go_meet
      exact ⟨HBS, HCS, HSS⟩
    · have hD0 : D = 0 := by
        have hw0 := of_decide_eq_false HB0.out
        have : ws = [] := List.eq_nil_of_length_eq_zero (by have := HWL.out; omega)
        rw [← HD.out, this]
        rfl
      subst hD0
      have HBS : Hid (Below (s + 1 + 1) W1 W1) := Lib.hid (Below.refl _ _)
      have HCS := Lib.hid g0
      have HSS : Hid (W1.heap.size = s + 3) := Lib.hid hs1
      go_wp2_with fail
      go_meet
      exact ⟨HBS, HCS, HSS⟩
  case rest =>
  obtain ⟨HBC, HCC, HSC⟩ := hcut
  have hsc := HSC.out
  have hAc : wc.heap[s]? = some (.cells #[.int .i64 vars, .slice la ll lc, .slice na nl nc, .int .i64 root] 25) := (HBC.out.block s (by omega)).trans HA.out
  have k0 : wc.cell? ⟨s, 0, none⟩ = some (.int .i64 vars) := cell_of hAc rfl
  have k1 : wc.cell? ⟨s, 1, none⟩ = some (.slice la ll lc) := cell_of hAc rfl
  have k2 : wc.cell? ⟨s, 2, none⟩ = some (.slice na nl nc) := cell_of hAc rfl
  have k3 : wc.cell? ⟨s, 3, none⟩ = some (.int .i64 root) := cell_of hAc rfl
  have kg := HCC.out
  have e1 : IntKind.i64.wrap ((D : Int) + vars) = D + vars := IntWalk.i64_in _ ⟨by omega, by omega⟩
  have e3 : IntKind.i64.wrap ((D : Int) + vars + ll) = D + vars + ll := IntWalk.i64_in _ ⟨by omega, by omega⟩
  have e4 : IntKind.i64.wrap ((D : Int) + vars + ll + nl) = D + vars + ll + nl := IntWalk.i64_in _ ⟨by omega, by omega⟩
  clear hAc g0 gf
  go_upto_region 6 with fail
  rw [HVE.out]
  obtain ⟨T, hT⟩ : ∃ t, s + 3 = t := ⟨_, rfl⟩
  rw [hT] at hsc
  obtain ⟨w5, hw5⟩ : ∃ W, wc.alloc (.cells #[.int .i64 V, .int .i64 D, .slice none 0 0] 31) = W := ⟨_, rfl⟩
  have hb5 : Below wc.heap.size wc w5 := by rw [← hw5]; exact (Below.refl _ _).alloc (Nat.le_refl _) _
  have hs5 : w5.heap.size = T + 1 := by rw [← hw5, World.size_alloc, hsc]
  have hTr : w5.heap[T]? = some (.cells #[.int .i64 V, .int .i64 D, .slice none 0 0] 31) := by rw [← hw5, ← hsc]; exact new_at _ _
  have HO5 : Hid (OmS T V D w5 (.slice none 0 0) []) := Lib.hid ⟨hTr, ⟨World.ownsRow_nil _ _ _ _, fun p hp => by simp at hp⟩, by omega⟩
  have HB15 : Hid (Below w.heap.size w w5) := Lib.hid (HB1.out.trans ((HBC.out.trans (hb5.mono (by omega))).mono (by have := HS.out; omega)))
  have HKK : Hid (∀ W, Below T w5 W → W.cell? ⟨s, 0, none⟩ = some (.int .i64 vars) ∧ W.cell? ⟨s, 1, none⟩ = some (.slice la ll lc) ∧ W.cell? ⟨s, 2, none⟩ = some (.slice na nl nc) ∧ W.cell? ⟨s, 3, none⟩ = some (.int .i64 root) ∧ W.cell? ⟨s + 1 + 1, 0, none⟩ = some (.int .i64 D)) := Lib.hid fun W hW => by
    have h := (hb5.mono (show T ≤ wc.heap.size by omega)).trans hW
    exact ⟨below_c h (by omega) k0, below_c h (by omega) k1, below_c h (by omega) k2, below_c h (by omega) k3, below_c h (by omega) kg⟩
  have hsm : ∀ k, k < w.heap.size → ∀ W, Below T w5 W → W.heap[k]? = W1.heap[k]? := fun k hk W hW => by
    have hk2 : k < s := by have := HS.out; omega
    rw [hW.block k (by omega), hb5.block k (by omega), HBC.out.block k (by omega)]
  have HDD : Hid (∀ W, Below T w5 W → Ints (fun k => k < s) W (.slice la ll lc) lvs ∧ Forks (fun k => k < s) W (.slice na nl nc) ns ∧ Wds (fun k => k < s) W (.slice wa wl wk) ws) := Lib.hid fun W hW => by
    have hss := HS.out
    exact ⟨(HLV.out.move fun k hk _ => hsm k hk W hW).mono fun k hk => by omega, (HNV.out.move fun k hk _ => hsm k hk W hW).mono fun k hk => by omega, Rows1.mono (fun _ _ _ _ _ h hg => h.mono hg) (Rows1.move (fun _ _ _ _ _ h hm => h.move hm) HWV.out fun k hk _ => hsm k hk W hW) fun k hk => by omega⟩
  have HRS : Hid (∀ W, Below T w5 W → W.heap[s + 1]? = some (.cells #[.int .i64 0, .int .i64 0, .slice none 0 0] 31)) := Lib.hid fun W hW => by
    rw [hW.block (s + 1) (by omega), hb5.block (s + 1) (by omega), HBC.out.block (s + 1) (by omega)]
    exact HAr.out
  obtain ⟨f0, hf0⟩ : ∃ f, (D : Int) + vars + 1 = f := ⟨_, rfl⟩
  have hf0r : 1 ≤ f0 ∧ f0 ≤ 53 := by omega
  have HF0 : Hid (fstM vars ws = f0) := Lib.hid (by unfold fstM; rw [HD.out, hf0])
  have HNM : Hid (∀ W (r : Int), W.cell? ⟨s + 1 + 1, 0, none⟩ = some (.int .i64 D) → W.cell? ⟨s, 0, none⟩ = some (.int .i64 vars) → 0 ≤ r ∧ r ≤ 100 → Calls Tryz.prog 25 #[.int .i64 r, .pointer (some ⟨s + 1 + 1, 0, none⟩), .pointer (some ⟨s, 0, none⟩)] W fun e w' => e = .returned (.int .i64 (f0 + r)) ∧ W = w') := Lib.hid fun W r h1 h2 h3 => omname_any (s + 1 + 1) s D vars r f0 W h1 h2 ⟨by omega, by omega⟩ ⟨hv0, hv1⟩ h3 hf0
  obtain ⟨MC, hMC⟩ : ∃ c, mtC vars lvs ns root ws = c := ⟨_, rfl⟩
  have HMC := Lib.hid hMC
  have HM1 : Hid (MC = ([] : List (List Int)) ++ [[f0 + root]] ++ (ndC f0 D ll ns 0 ++ lfC f0 ws lvs 0)) := Lib.hid (by rw [← hMC]; unfold mtC; rw [HF0.out, HD.out, HLL.out]; simp)
  have hrt : 0 ≤ root ∧ root < ll + nl := ⟨HMT.out.2.2.2.2.2.2.1, by have := HMT.out.2.2.2.2.2.2.2.1; have := HLL.out; have := HNL.out; omega⟩
  have HIN := Lib.hid (show (Tryz.prog.info? 22).map (fun i => (i.zero, i.size, i.bytes)) = some (some (.slice none 0 0), 1, 24) by kernel_rfl)
  have HW5 := Lib.hid hw5
  have HTT := Lib.hid hT
  have hsT : s + 3 ≤ T := by omega
  rw [hMC]
  rw [HTT.out, HW5.out]
  clear hw5 hb5 hTr hMC k0 k1 k2 k3 kg hsm hf0 hT
  obtain ⟨oa, pn, oc, ps, hom, hpn, hp0⟩ : ∃ (oa : Option Addr) (pn oc : Nat) (ps : List (Value × List Int)), OmS T V D w5 (.slice oa pn oc) ps ∧ ps.length = pn ∧ ps = [] := ⟨none, 0, 0, [], HO5.out, rfl, rfl⟩
  have HOM := Lib.hid hom
  have HPN := Lib.hid hpn
  have HP0 := Lib.hid hp0
  have HB : Hid (Below T w5 w5) := Lib.hid (Below.refl _ _)
  clear hom hpn hp0 HO5
  go_cut [] from 39 to 49 (fun wx => ∃ (lv : Value) (ps : List (Value × List Int)), Hid (Below T w5 wx) ∧ Hid (OmS T V D wx lv ps) ∧ Hid (MC = ps.map Prod.snd ++ (ndC f0 D ll (ns.drop 0) 0 ++ lfC f0 ws lvs 0)) ∧ Hid (ps.length = 1 + 2 * 0))
  case first =>
    have cT : w5.cell? ⟨T, 2, none⟩ = some (.slice oa pn oc) := cell_of HOM.out.1 rfl
    have cTf : ∀ o, w5.frozen? ⟨T, o, none⟩ = false := froz_of HOM.out.1
    obtain ⟨ck, _, _, _, cg⟩ := HKK.out w5 HB.out
    obtain ⟨z, hz⟩ : ∃ z, w5.heap.size = z := ⟨_, rfl⟩
    have hTz : T < z := by have := HOM.out.2.2; omega
    have HOB : Hid (∀ b, (Value.slice oa pn oc).ownBlock = some b → T + 1 ≤ b ∧ b < z) := Lib.hid fun b e => by have := HOM.out.2.1.1.lt b e; omega
    have k3 : w5.cell? ⟨s, 3, none⟩ = some (.int .i64 root) := (HKK.out w5 HB.out).2.2.2.1
    have hpl : pn ≤ 100 := by rw [← HPN.out, HP0.out]; simp
    go_upto_region 6 with fail
    refine wp_region_held_drew (S := fun w' => w'.cell? ⟨s, 3, none⟩ = some (.int .i64 root)) (by kernel_rfl) (by exact k3) (fun hHeld => ?_)
    refine wpAnyH_take (i := 0) (v := ?_) rfl (by kernel_rfl) (by kernel_rfl) (by kernel_rfl) (fun _ _ _ h => h) (Or.inl ⟨by rfl, ?_⟩) (by assumption) ?_
    rotate_left
    · intro w hSw
      try dsimp only at hSw
      go_simp
      try with_reducible rfl
    try simp only [Act.put, gz1, gz2, gz3, gz4, gz5, gz6]
    refine wpAnyH_take (i := 2) (v := ?_) rfl (by kernel_rfl) (by kernel_rfl) (by kernel_rfl) (fun _ _ _ h => h) (Or.inl ⟨by rfl, ?_⟩) (by assumption) ?_
    rotate_left
    · intro w hSw
      try dsimp only at hSw
      go_simp
      try with_reducible rfl
    try simp only [Act.put, gz1, gz2, gz3, gz4, gz5, gz6]
    refine wpAnyH_take (i := 3) (v := ?_) rfl (by kernel_rfl) (by kernel_rfl) (by kernel_rfl) (fun _ _ _ h => h) (Or.inl ⟨by rfl, ?_⟩) (by assumption) ?_
    rotate_left
    · intro w hSw
      try dsimp only at hSw
      go_simp
      try with_reducible rfl
    try simp only [Act.put, gz1, gz2, gz3, gz4, gz5, gz6]
    refine wpAnyH_take (i := 4) (v := ?_) rfl (by kernel_rfl) (by kernel_rfl) (by kernel_rfl) (fun _ _ _ h => h) (Or.inl ⟨by rfl, ?_⟩) (by assumption) ?_
    rotate_left
    · intro w hSw
      try dsimp only at hSw
      go_simp
      try with_reducible rfl
    try simp only [Act.put, gz1, gz2, gz3, gz4, gz5, gz6]
    refine wpAnyH_ready (rs := [1, 5]) (by kernel_rfl) (by simp) ?_
    refine AllReadyH.cons rfl (fun K hK => ?_) (AllReadyH.cons rfl (fun K hK => ?_) AllReadyH.nil)
    · obtain ⟨x0, hx0⟩ : ∃ W, w5.drew = W := ⟨_, rfl⟩
      have hBX : Below w5.heap.size w5 x0 := by rw [← hx0]; exact below_drew (Below.refl _ _)
      have hs0 : x0.heap.size = z := by rw [← hx0]; exact hz
      have cT : x0.cell? ⟨T, 2, none⟩ = some (.slice oa pn oc) := by rw [← hx0]; exact cT
      have cg : x0.cell? ⟨s + 1 + 1, 0, none⟩ = some (.int .i64 D) := by rw [← hx0]; exact cg
      have ck : x0.cell? ⟨s, 0, none⟩ = some (.int .i64 vars) := by rw [← hx0]; exact ck
      have k3 : x0.cell? ⟨s, 3, none⟩ = some (.int .i64 root) := by rw [← hx0]; exact k3
      have cTf : ∀ o, x0.frozen? ⟨T, o, none⟩ = false := by rw [← hx0]; exact cTf
      try rw [hx0]
      clear hx0
      go_simp
      refine hK.out _ _ (by exact k3) (fun _ => ?_)
      clear hK K
      try simp only [Act.put, gz1, gz2, gz3, gz4, gz5, gz6]
      refine wpAnyH_ready (rs := [5]) (by kernel_rfl) (by simp) ?_
      refine AllReadyH.cons rfl (fun K hK => ?_) AllReadyH.nil
      go_simp
      go_at_call 25
      (with_reducible refine (HNM.out _ _ cg ck (by omega)).mono ?_)
      rintro e w8 ⟨rfl, rfl⟩
      go_wp2_with fail
      refine hK.out _ _ (by exact k3) (fun _ => ?_)
      clear hK K
      try simp only [Act.put, gz1, gz2, gz3, gz4, gz5, gz6]
      refine wpAnyH_ready (rs := [6]) (by kernel_rfl) (by simp) ?_
      refine AllReadyH.cons rfl (fun K hK => ?_) AllReadyH.nil
      go_simp
      obtain ⟨x1, hnew⟩ : ∃ W, x0.alloc (.cells #[.int .i64 (f0 + root)] 3) = W := ⟨_, rfl⟩
      have hbn : Below x0.heap.size x0 x1 := by rw [← hnew]; exact (Below.refl _ _).alloc (Nat.le_refl _) _
      have hs1 : x1.heap.size = z + 1 := by rw [← hnew, World.size_alloc, hs0]
      have q6 : x1.heap[z]? = some (.cells #[.int .i64 (f0 + root)] 3) := by rw [← hnew, ← hs0]; exact new_at _ _
      have cT := keep_c hbn cT
      have cg := keep_c hbn cg
      have ck := keep_c hbn ck
      have k3 := keep_c hbn k3
      have cTf := keep_f hbn (by omega) cTf
      have hBX : Below w5.heap.size w5 x1 := hBX.trans (hbn.mono (by omega))
      try rw [hnew]
      clear hnew hbn
      refine hK.out _ _ (by exact k3) (fun _ => ?_)
      clear hK K
      try simp only [Act.put, gz1, gz2, gz3, gz4, gz5, gz6]
      refine wpAnyH_ready (rs := [7]) (by kernel_rfl) (by simp) ?_
      refine AllReadyH.cons rfl (fun K hK => ?_) AllReadyH.nil
      go_simp
      obtain ⟨x2, hnew⟩ : ∃ W, x1.alloc (.cells #[.slice (some ⟨z, 0, none⟩) 1 1] 22) = W := ⟨_, rfl⟩
      have hbn : Below x1.heap.size x1 x2 := by rw [← hnew]; exact (Below.refl _ _).alloc (Nat.le_refl _) _
      have hs2 : x2.heap.size = z + 2 := by rw [← hnew, World.size_alloc, hs1]
      have q7 : x2.heap[z + 1]? = some (.cells #[.slice (some ⟨z, 0, none⟩) 1 1] 22) := by rw [← hnew, ← hs1]; exact new_at _ _
      have q6 := (hbn.block (z) (by omega)).trans q6
      have cT := keep_c hbn cT
      have cg := keep_c hbn cg
      have ck := keep_c hbn ck
      have k3 := keep_c hbn k3
      have cTf := keep_f hbn (by omega) cTf
      have hBX : Below w5.heap.size w5 x2 := hBX.trans (hbn.mono (by omega))
      try rw [hnew]
      clear hnew hbn
      refine hK.out _ _ (by exact k3) (fun _ => ?_)
      clear hK K
      try simp only [Act.put, gz1, gz2, gz3, gz4, gz5, gz6]
      refine wpAnyH_ready (rs := [8]) (by kernel_rfl) (by simp) ?_
      refine AllReadyH.cons rfl (fun K hK => ?_) AllReadyH.nil
      have hrow := own_below HOM.out.2.1.1 hBX
      rw [HPN.out] at hrow
      refine step_push1 rfl _ _ 29 rfl 22 (.slice none 0 0) 24 Tryz.underlying29 HIN.out rfl (T + 1) (.slice oa pn oc) pn (ps.map Prod.fst) (z + 1) (Value.slice (some ⟨z, 0, none⟩) 1 1) rfl rfl (cell_of q7 rfl) hrow rfl (by omega) (by omega) (by omega) ?_
      intro g9 cap9 w9 hown9 hg9 hat9
      have HI9 : Hid (∀ p ∈ ([(Value.slice (some ⟨z, 0, none⟩) 1 1, [f0 + root])] : List (Value × List Int)), Ints (fun b => w5.heap.size ≤ b) x2 p.1 p.2) := Lib.hid (by
        intro p hp
        simp only [List.mem_cons, List.not_mem_nil, or_false] at hp
        subst hp
        exact (ints_block [f0 + root] 1 q6 (by simp) (by simp) (by intro y hy; simp at hy; unfold I64; omega)).mono fun b hb => by have hb : b = _ := hb; omega
      )
      have HO9 := Lib.hid (HOM.out.push (rs := [(Value.slice (some ⟨z, 0, none⟩) 1 1, [f0 + root])]) HPN.out hBX HI9.out hg9 hown9 hat9)
      have cT := grown_cell hg9 (fun e => by have := HOB.out _ e.symm; omega) cT
      have cg := grown_cell hg9 (fun e => by have := HOB.out _ e.symm; omega) cg
      have ck := grown_cell hg9 (fun e => by have := HOB.out _ e.symm; omega) ck
      have k3 := grown_cell hg9 (fun e => by have := HOB.out _ e.symm; omega) k3
      have cTf : ∀ o, w9.frozen? ⟨T, o, none⟩ = false := fun o => grown_froz hg9 (fun e => by have := HOB.out _ e.symm; omega) (by have := hTz; omega) (cTf o)
      have HBF : Hid (Below T w5 (w9.setCell ⟨T, 2, none⟩ (.slice (some ⟨g9, 0, none⟩) (pn + 1) cap9))) := Lib.hid (((HB.out.trans (hBX.mono (by omega))).grown hg9 (by have := hBX.size; have := HB.out.size; omega) (fun b e => by have := HOB.out b e; omega)).setCell (Nat.le_refl T) _)
      clear hown9 hg9 hat9 hrow hBX
      refine hK.out _ _ (by exact k3) (fun _ => ?_)
      clear hK K
      try simp only [Act.put, gz1, gz2, gz3, gz4, gz5, gz6]
      refine wpAnyH_take (i := 9) (v := ?_) rfl (by kernel_rfl) (by kernel_rfl) (by kernel_rfl) (fun _ _ _ h => h) (Or.inl ⟨by rfl, ?_⟩) (by assumption) ?_
      rotate_left
      · intro w hSw
        try dsimp only at hSw
        go_simp
        try with_reducible rfl
      try simp only [Act.put, gz1, gz2, gz3, gz4, gz5, gz6]
      refine wpAnyH_ready (rs := [10]) (by kernel_rfl) (by simp) ?_
      refine AllReadyH.cons rfl (fun K hK => ?_) AllReadyH.nil
      go_simp
      refine hK.out _ _ (by exact set_ne (by omega) k3) (fun _ => ?_)
      clear hK K
      try simp only [Act.put, gz1, gz2, gz3, gz4, gz5, gz6]
      refine wpAnyH_done (by kernel_rfl) ?_ _
      have HM9 : Hid (MC = (ps ++ [(Value.slice (some ⟨z, 0, none⟩) 1 1, [f0 + root])]).map Prod.snd ++ (ndC f0 D ll (ns.drop 0) 0 ++ lfC f0 ws lvs 0)) := Lib.hid (by rw [HM1.out, HP0.out]; simp)
      have HL9 : Hid ((ps ++ [(Value.slice (some ⟨z, 0, none⟩) 1 1, [f0 + root])]).length = 1 + 2 * 0) := Lib.hid (by rw [HP0.out]; rfl)
      go_wp2_with fail
      go_meet
      exact ⟨_, _, HBF, HO9, HM9, HL9⟩
    · obtain ⟨x0, hx0⟩ : ∃ W, w5.drew = W := ⟨_, rfl⟩
      have hBX : Below w5.heap.size w5 x0 := by rw [← hx0]; exact below_drew (Below.refl _ _)
      have hs0 : x0.heap.size = z := by rw [← hx0]; exact hz
      have cT : x0.cell? ⟨T, 2, none⟩ = some (.slice oa pn oc) := by rw [← hx0]; exact cT
      have cg : x0.cell? ⟨s + 1 + 1, 0, none⟩ = some (.int .i64 D) := by rw [← hx0]; exact cg
      have ck : x0.cell? ⟨s, 0, none⟩ = some (.int .i64 vars) := by rw [← hx0]; exact ck
      have k3 : x0.cell? ⟨s, 3, none⟩ = some (.int .i64 root) := by rw [← hx0]; exact k3
      have cTf : ∀ o, x0.frozen? ⟨T, o, none⟩ = false := by rw [← hx0]; exact cTf
      try rw [hx0]
      clear hx0
      go_simp
      go_at_call 25
      (with_reducible refine (HNM.out _ _ cg ck (by omega)).mono ?_)
      rintro e w8 ⟨rfl, rfl⟩
      go_wp2_with fail
      refine hK.out _ _ (by exact k3) (fun _ => ?_)
      clear hK K
      try simp only [Act.put, gz1, gz2, gz3, gz4, gz5, gz6]
      refine wpAnyH_ready (rs := [1, 6]) (by kernel_rfl) (by simp) ?_
      refine AllReadyH.cons rfl (fun K hK => ?_) (AllReadyH.cons rfl (fun K hK => ?_) AllReadyH.nil)
      · go_simp
        refine hK.out _ _ (by exact k3) (fun _ => ?_)
        clear hK K
        try simp only [Act.put, gz1, gz2, gz3, gz4, gz5, gz6]
        refine wpAnyH_ready (rs := [6]) (by kernel_rfl) (by simp) ?_
        refine AllReadyH.cons rfl (fun K hK => ?_) AllReadyH.nil
        go_simp
        obtain ⟨x1, hnew⟩ : ∃ W, x0.alloc (.cells #[.int .i64 (f0 + root)] 3) = W := ⟨_, rfl⟩
        have hbn : Below x0.heap.size x0 x1 := by rw [← hnew]; exact (Below.refl _ _).alloc (Nat.le_refl _) _
        have hs1 : x1.heap.size = z + 1 := by rw [← hnew, World.size_alloc, hs0]
        have q6 : x1.heap[z]? = some (.cells #[.int .i64 (f0 + root)] 3) := by rw [← hnew, ← hs0]; exact new_at _ _
        have cT := keep_c hbn cT
        have cg := keep_c hbn cg
        have ck := keep_c hbn ck
        have k3 := keep_c hbn k3
        have cTf := keep_f hbn (by omega) cTf
        have hBX : Below w5.heap.size w5 x1 := hBX.trans (hbn.mono (by omega))
        try rw [hnew]
        clear hnew hbn
        refine hK.out _ _ (by exact k3) (fun _ => ?_)
        clear hK K
        try simp only [Act.put, gz1, gz2, gz3, gz4, gz5, gz6]
        refine wpAnyH_ready (rs := [7]) (by kernel_rfl) (by simp) ?_
        refine AllReadyH.cons rfl (fun K hK => ?_) AllReadyH.nil
        go_simp
        obtain ⟨x2, hnew⟩ : ∃ W, x1.alloc (.cells #[.slice (some ⟨z, 0, none⟩) 1 1] 22) = W := ⟨_, rfl⟩
        have hbn : Below x1.heap.size x1 x2 := by rw [← hnew]; exact (Below.refl _ _).alloc (Nat.le_refl _) _
        have hs2 : x2.heap.size = z + 2 := by rw [← hnew, World.size_alloc, hs1]
        have q7 : x2.heap[z + 1]? = some (.cells #[.slice (some ⟨z, 0, none⟩) 1 1] 22) := by rw [← hnew, ← hs1]; exact new_at _ _
        have q6 := (hbn.block (z) (by omega)).trans q6
        have cT := keep_c hbn cT
        have cg := keep_c hbn cg
        have ck := keep_c hbn ck
        have k3 := keep_c hbn k3
        have cTf := keep_f hbn (by omega) cTf
        have hBX : Below w5.heap.size w5 x2 := hBX.trans (hbn.mono (by omega))
        try rw [hnew]
        clear hnew hbn
        refine hK.out _ _ (by exact k3) (fun _ => ?_)
        clear hK K
        try simp only [Act.put, gz1, gz2, gz3, gz4, gz5, gz6]
        refine wpAnyH_ready (rs := [8]) (by kernel_rfl) (by simp) ?_
        refine AllReadyH.cons rfl (fun K hK => ?_) AllReadyH.nil
        have hrow := own_below HOM.out.2.1.1 hBX
        rw [HPN.out] at hrow
        refine step_push1 rfl _ _ 29 rfl 22 (.slice none 0 0) 24 Tryz.underlying29 HIN.out rfl (T + 1) (.slice oa pn oc) pn (ps.map Prod.fst) (z + 1) (Value.slice (some ⟨z, 0, none⟩) 1 1) rfl rfl (cell_of q7 rfl) hrow rfl (by omega) (by omega) (by omega) ?_
        intro g9 cap9 w9 hown9 hg9 hat9
        have HI9 : Hid (∀ p ∈ ([(Value.slice (some ⟨z, 0, none⟩) 1 1, [f0 + root])] : List (Value × List Int)), Ints (fun b => w5.heap.size ≤ b) x2 p.1 p.2) := Lib.hid (by
          intro p hp
          simp only [List.mem_cons, List.not_mem_nil, or_false] at hp
          subst hp
          exact (ints_block [f0 + root] 1 q6 (by simp) (by simp) (by intro y hy; simp at hy; unfold I64; omega)).mono fun b hb => by have hb : b = _ := hb; omega
        )
        have HO9 := Lib.hid (HOM.out.push (rs := [(Value.slice (some ⟨z, 0, none⟩) 1 1, [f0 + root])]) HPN.out hBX HI9.out hg9 hown9 hat9)
        have cT := grown_cell hg9 (fun e => by have := HOB.out _ e.symm; omega) cT
        have cg := grown_cell hg9 (fun e => by have := HOB.out _ e.symm; omega) cg
        have ck := grown_cell hg9 (fun e => by have := HOB.out _ e.symm; omega) ck
        have k3 := grown_cell hg9 (fun e => by have := HOB.out _ e.symm; omega) k3
        have cTf : ∀ o, w9.frozen? ⟨T, o, none⟩ = false := fun o => grown_froz hg9 (fun e => by have := HOB.out _ e.symm; omega) (by have := hTz; omega) (cTf o)
        have HBF : Hid (Below T w5 (w9.setCell ⟨T, 2, none⟩ (.slice (some ⟨g9, 0, none⟩) (pn + 1) cap9))) := Lib.hid (((HB.out.trans (hBX.mono (by omega))).grown hg9 (by have := hBX.size; have := HB.out.size; omega) (fun b e => by have := HOB.out b e; omega)).setCell (Nat.le_refl T) _)
        clear hown9 hg9 hat9 hrow hBX
        refine hK.out _ _ (by exact k3) (fun _ => ?_)
        clear hK K
        try simp only [Act.put, gz1, gz2, gz3, gz4, gz5, gz6]
        refine wpAnyH_take (i := 9) (v := ?_) rfl (by kernel_rfl) (by kernel_rfl) (by kernel_rfl) (fun _ _ _ h => h) (Or.inl ⟨by rfl, ?_⟩) (by assumption) ?_
        rotate_left
        · intro w hSw
          try dsimp only at hSw
          go_simp
          try with_reducible rfl
        try simp only [Act.put, gz1, gz2, gz3, gz4, gz5, gz6]
        refine wpAnyH_ready (rs := [10]) (by kernel_rfl) (by simp) ?_
        refine AllReadyH.cons rfl (fun K hK => ?_) AllReadyH.nil
        go_simp
        refine hK.out _ _ (by exact set_ne (by omega) k3) (fun _ => ?_)
        clear hK K
        try simp only [Act.put, gz1, gz2, gz3, gz4, gz5, gz6]
        refine wpAnyH_done (by kernel_rfl) ?_ _
        have HM9 : Hid (MC = (ps ++ [(Value.slice (some ⟨z, 0, none⟩) 1 1, [f0 + root])]).map Prod.snd ++ (ndC f0 D ll (ns.drop 0) 0 ++ lfC f0 ws lvs 0)) := Lib.hid (by rw [HM1.out, HP0.out]; simp)
        have HL9 : Hid ((ps ++ [(Value.slice (some ⟨z, 0, none⟩) 1 1, [f0 + root])]).length = 1 + 2 * 0) := Lib.hid (by rw [HP0.out]; rfl)
        go_wp2_with fail
        go_meet
        exact ⟨_, _, HBF, HO9, HM9, HL9⟩
      · go_simp
        obtain ⟨x1, hnew⟩ : ∃ W, x0.alloc (.cells #[.int .i64 (f0 + root)] 3) = W := ⟨_, rfl⟩
        have hbn : Below x0.heap.size x0 x1 := by rw [← hnew]; exact (Below.refl _ _).alloc (Nat.le_refl _) _
        have hs1 : x1.heap.size = z + 1 := by rw [← hnew, World.size_alloc, hs0]
        have q6 : x1.heap[z]? = some (.cells #[.int .i64 (f0 + root)] 3) := by rw [← hnew, ← hs0]; exact new_at _ _
        have cT := keep_c hbn cT
        have cg := keep_c hbn cg
        have ck := keep_c hbn ck
        have k3 := keep_c hbn k3
        have cTf := keep_f hbn (by omega) cTf
        have hBX : Below w5.heap.size w5 x1 := hBX.trans (hbn.mono (by omega))
        try rw [hnew]
        clear hnew hbn
        refine hK.out _ _ (by exact k3) (fun _ => ?_)
        clear hK K
        try simp only [Act.put, gz1, gz2, gz3, gz4, gz5, gz6]
        refine wpAnyH_ready (rs := [1, 7]) (by kernel_rfl) (by simp) ?_
        refine AllReadyH.cons rfl (fun K hK => ?_) (AllReadyH.cons rfl (fun K hK => ?_) AllReadyH.nil)
        · go_simp
          refine hK.out _ _ (by exact k3) (fun _ => ?_)
          clear hK K
          try simp only [Act.put, gz1, gz2, gz3, gz4, gz5, gz6]
          refine wpAnyH_ready (rs := [7]) (by kernel_rfl) (by simp) ?_
          refine AllReadyH.cons rfl (fun K hK => ?_) AllReadyH.nil
          go_simp
          obtain ⟨x2, hnew⟩ : ∃ W, x1.alloc (.cells #[.slice (some ⟨z, 0, none⟩) 1 1] 22) = W := ⟨_, rfl⟩
          have hbn : Below x1.heap.size x1 x2 := by rw [← hnew]; exact (Below.refl _ _).alloc (Nat.le_refl _) _
          have hs2 : x2.heap.size = z + 2 := by rw [← hnew, World.size_alloc, hs1]
          have q7 : x2.heap[z + 1]? = some (.cells #[.slice (some ⟨z, 0, none⟩) 1 1] 22) := by rw [← hnew, ← hs1]; exact new_at _ _
          have q6 := (hbn.block (z) (by omega)).trans q6
          have cT := keep_c hbn cT
          have cg := keep_c hbn cg
          have ck := keep_c hbn ck
          have k3 := keep_c hbn k3
          have cTf := keep_f hbn (by omega) cTf
          have hBX : Below w5.heap.size w5 x2 := hBX.trans (hbn.mono (by omega))
          try rw [hnew]
          clear hnew hbn
          refine hK.out _ _ (by exact k3) (fun _ => ?_)
          clear hK K
          try simp only [Act.put, gz1, gz2, gz3, gz4, gz5, gz6]
          refine wpAnyH_ready (rs := [8]) (by kernel_rfl) (by simp) ?_
          refine AllReadyH.cons rfl (fun K hK => ?_) AllReadyH.nil
          have hrow := own_below HOM.out.2.1.1 hBX
          rw [HPN.out] at hrow
          refine step_push1 rfl _ _ 29 rfl 22 (.slice none 0 0) 24 Tryz.underlying29 HIN.out rfl (T + 1) (.slice oa pn oc) pn (ps.map Prod.fst) (z + 1) (Value.slice (some ⟨z, 0, none⟩) 1 1) rfl rfl (cell_of q7 rfl) hrow rfl (by omega) (by omega) (by omega) ?_
          intro g9 cap9 w9 hown9 hg9 hat9
          have HI9 : Hid (∀ p ∈ ([(Value.slice (some ⟨z, 0, none⟩) 1 1, [f0 + root])] : List (Value × List Int)), Ints (fun b => w5.heap.size ≤ b) x2 p.1 p.2) := Lib.hid (by
            intro p hp
            simp only [List.mem_cons, List.not_mem_nil, or_false] at hp
            subst hp
            exact (ints_block [f0 + root] 1 q6 (by simp) (by simp) (by intro y hy; simp at hy; unfold I64; omega)).mono fun b hb => by have hb : b = _ := hb; omega
          )
          have HO9 := Lib.hid (HOM.out.push (rs := [(Value.slice (some ⟨z, 0, none⟩) 1 1, [f0 + root])]) HPN.out hBX HI9.out hg9 hown9 hat9)
          have cT := grown_cell hg9 (fun e => by have := HOB.out _ e.symm; omega) cT
          have cg := grown_cell hg9 (fun e => by have := HOB.out _ e.symm; omega) cg
          have ck := grown_cell hg9 (fun e => by have := HOB.out _ e.symm; omega) ck
          have k3 := grown_cell hg9 (fun e => by have := HOB.out _ e.symm; omega) k3
          have cTf : ∀ o, w9.frozen? ⟨T, o, none⟩ = false := fun o => grown_froz hg9 (fun e => by have := HOB.out _ e.symm; omega) (by have := hTz; omega) (cTf o)
          have HBF : Hid (Below T w5 (w9.setCell ⟨T, 2, none⟩ (.slice (some ⟨g9, 0, none⟩) (pn + 1) cap9))) := Lib.hid (((HB.out.trans (hBX.mono (by omega))).grown hg9 (by have := hBX.size; have := HB.out.size; omega) (fun b e => by have := HOB.out b e; omega)).setCell (Nat.le_refl T) _)
          clear hown9 hg9 hat9 hrow hBX
          refine hK.out _ _ (by exact k3) (fun _ => ?_)
          clear hK K
          try simp only [Act.put, gz1, gz2, gz3, gz4, gz5, gz6]
          refine wpAnyH_take (i := 9) (v := ?_) rfl (by kernel_rfl) (by kernel_rfl) (by kernel_rfl) (fun _ _ _ h => h) (Or.inl ⟨by rfl, ?_⟩) (by assumption) ?_
          rotate_left
          · intro w hSw
            try dsimp only at hSw
            go_simp
            try with_reducible rfl
          try simp only [Act.put, gz1, gz2, gz3, gz4, gz5, gz6]
          refine wpAnyH_ready (rs := [10]) (by kernel_rfl) (by simp) ?_
          refine AllReadyH.cons rfl (fun K hK => ?_) AllReadyH.nil
          go_simp
          refine hK.out _ _ (by exact set_ne (by omega) k3) (fun _ => ?_)
          clear hK K
          try simp only [Act.put, gz1, gz2, gz3, gz4, gz5, gz6]
          refine wpAnyH_done (by kernel_rfl) ?_ _
          have HM9 : Hid (MC = (ps ++ [(Value.slice (some ⟨z, 0, none⟩) 1 1, [f0 + root])]).map Prod.snd ++ (ndC f0 D ll (ns.drop 0) 0 ++ lfC f0 ws lvs 0)) := Lib.hid (by rw [HM1.out, HP0.out]; simp)
          have HL9 : Hid ((ps ++ [(Value.slice (some ⟨z, 0, none⟩) 1 1, [f0 + root])]).length = 1 + 2 * 0) := Lib.hid (by rw [HP0.out]; rfl)
          go_wp2_with fail
          go_meet
          exact ⟨_, _, HBF, HO9, HM9, HL9⟩
        · go_simp
          obtain ⟨x2, hnew⟩ : ∃ W, x1.alloc (.cells #[.slice (some ⟨z, 0, none⟩) 1 1] 22) = W := ⟨_, rfl⟩
          have hbn : Below x1.heap.size x1 x2 := by rw [← hnew]; exact (Below.refl _ _).alloc (Nat.le_refl _) _
          have hs2 : x2.heap.size = z + 2 := by rw [← hnew, World.size_alloc, hs1]
          have q7 : x2.heap[z + 1]? = some (.cells #[.slice (some ⟨z, 0, none⟩) 1 1] 22) := by rw [← hnew, ← hs1]; exact new_at _ _
          have q6 := (hbn.block (z) (by omega)).trans q6
          have cT := keep_c hbn cT
          have cg := keep_c hbn cg
          have ck := keep_c hbn ck
          have k3 := keep_c hbn k3
          have cTf := keep_f hbn (by omega) cTf
          have hBX : Below w5.heap.size w5 x2 := hBX.trans (hbn.mono (by omega))
          try rw [hnew]
          clear hnew hbn
          refine hK.out _ _ (by exact k3) (fun _ => ?_)
          clear hK K
          try simp only [Act.put, gz1, gz2, gz3, gz4, gz5, gz6]
          refine wpAnyH_ready (rs := [1]) (by kernel_rfl) (by simp) ?_
          refine AllReadyH.cons rfl (fun K hK => ?_) AllReadyH.nil
          go_simp
          refine hK.out _ _ (by exact k3) (fun _ => ?_)
          clear hK K
          try simp only [Act.put, gz1, gz2, gz3, gz4, gz5, gz6]
          refine wpAnyH_ready (rs := [8]) (by kernel_rfl) (by simp) ?_
          refine AllReadyH.cons rfl (fun K hK => ?_) AllReadyH.nil
          have hrow := own_below HOM.out.2.1.1 hBX
          rw [HPN.out] at hrow
          refine step_push1 rfl _ _ 29 rfl 22 (.slice none 0 0) 24 Tryz.underlying29 HIN.out rfl (T + 1) (.slice oa pn oc) pn (ps.map Prod.fst) (z + 1) (Value.slice (some ⟨z, 0, none⟩) 1 1) rfl rfl (cell_of q7 rfl) hrow rfl (by omega) (by omega) (by omega) ?_
          intro g9 cap9 w9 hown9 hg9 hat9
          have HI9 : Hid (∀ p ∈ ([(Value.slice (some ⟨z, 0, none⟩) 1 1, [f0 + root])] : List (Value × List Int)), Ints (fun b => w5.heap.size ≤ b) x2 p.1 p.2) := Lib.hid (by
            intro p hp
            simp only [List.mem_cons, List.not_mem_nil, or_false] at hp
            subst hp
            exact (ints_block [f0 + root] 1 q6 (by simp) (by simp) (by intro y hy; simp at hy; unfold I64; omega)).mono fun b hb => by have hb : b = _ := hb; omega
          )
          have HO9 := Lib.hid (HOM.out.push (rs := [(Value.slice (some ⟨z, 0, none⟩) 1 1, [f0 + root])]) HPN.out hBX HI9.out hg9 hown9 hat9)
          have cT := grown_cell hg9 (fun e => by have := HOB.out _ e.symm; omega) cT
          have cg := grown_cell hg9 (fun e => by have := HOB.out _ e.symm; omega) cg
          have ck := grown_cell hg9 (fun e => by have := HOB.out _ e.symm; omega) ck
          have k3 := grown_cell hg9 (fun e => by have := HOB.out _ e.symm; omega) k3
          have cTf : ∀ o, w9.frozen? ⟨T, o, none⟩ = false := fun o => grown_froz hg9 (fun e => by have := HOB.out _ e.symm; omega) (by have := hTz; omega) (cTf o)
          have HBF : Hid (Below T w5 (w9.setCell ⟨T, 2, none⟩ (.slice (some ⟨g9, 0, none⟩) (pn + 1) cap9))) := Lib.hid (((HB.out.trans (hBX.mono (by omega))).grown hg9 (by have := hBX.size; have := HB.out.size; omega) (fun b e => by have := HOB.out b e; omega)).setCell (Nat.le_refl T) _)
          clear hown9 hg9 hat9 hrow hBX
          refine hK.out _ _ (by exact k3) (fun _ => ?_)
          clear hK K
          try simp only [Act.put, gz1, gz2, gz3, gz4, gz5, gz6]
          refine wpAnyH_take (i := 9) (v := ?_) rfl (by kernel_rfl) (by kernel_rfl) (by kernel_rfl) (fun _ _ _ h => h) (Or.inl ⟨by rfl, ?_⟩) (by assumption) ?_
          rotate_left
          · intro w hSw
            try dsimp only at hSw
            go_simp
            try with_reducible rfl
          try simp only [Act.put, gz1, gz2, gz3, gz4, gz5, gz6]
          refine wpAnyH_ready (rs := [10]) (by kernel_rfl) (by simp) ?_
          refine AllReadyH.cons rfl (fun K hK => ?_) AllReadyH.nil
          go_simp
          refine hK.out _ _ (by exact set_ne (by omega) k3) (fun _ => ?_)
          clear hK K
          try simp only [Act.put, gz1, gz2, gz3, gz4, gz5, gz6]
          refine wpAnyH_done (by kernel_rfl) ?_ _
          have HM9 : Hid (MC = (ps ++ [(Value.slice (some ⟨z, 0, none⟩) 1 1, [f0 + root])]).map Prod.snd ++ (ndC f0 D ll (ns.drop 0) 0 ++ lfC f0 ws lvs 0)) := Lib.hid (by rw [HM1.out, HP0.out]; simp)
          have HL9 : Hid ((ps ++ [(Value.slice (some ⟨z, 0, none⟩) 1 1, [f0 + root])]).length = 1 + 2 * 0) := Lib.hid (by rw [HP0.out]; rfl)
          go_wp2_with fail
          go_meet
          exact ⟨_, _, HBF, HO9, HM9, HL9⟩
  case rest =>
  obtain ⟨lv6, ps6, HB6, HW6, HM6, HL6⟩ := hcut
  obtain ⟨k0, k1, k2, k3, kg⟩ := HKK.out wc HB6.out
  clear HOM HPN HP0 HB HM1 e1 e3 e4
  go_wp2_with fail
  go_loopg [52] nl (fun gg u52 wx => ∃ (q : Nat) (lv : Value) (ps : List (Value × List Int)), q + gg = nl ∧ u52 = .int .i64 q ∧ Hid (Below T w5 wx) ∧ Hid (OmS T V D wx lv ps) ∧ Hid (MC = ps.map Prod.snd ++ (ndC f0 D ll (ns.drop q) q ++ lfC f0 ws lvs 0)) ∧ Hid (ps.length = 1 + 2 * q))
  case atStart => exact ⟨0, lv6, ps6, by omega, rfl, HB6, HW6, HM6, HL6⟩
  case round =>
  clear HB6 HW6 HM6 HL6 k0 k1 k2 k3 kg
  obtain ⟨q, lv, ps, hqg, rfl, HB, HOM, HM, HPL⟩ := hrel
  obtain ⟨k0, k1, k2, k3, kg⟩ := HKK.out wr HB.out
  by_cases hq : q < nl
  case neg =>
    have hdq : decide ((q : Int) < nl) = false := by simp; omega
    have hdq' : decide (q < nl) = false := decide_eq_false hq
    have HMF : Hid (MC = ps.map Prod.snd ++ lfC f0 ws (lvs.drop 0) 0) := Lib.hid (by
      rw [HM.out, List.drop_eq_nil_of_le (by have := HNL.out; omega), List.drop_zero]
      simp [ndC])
    have HPF : Hid (ps.length ≤ 100 + 12 * 0) := Lib.hid (by have := HPL.out; omega)
    clear hq HM HPL k0 k2 k3 kg
    go_wp2_with fail
    go_loopg [95] ll (fun gg u95 wx => ∃ (i : Nat) (lv : Value) (ps : List (Value × List Int)), i + gg = ll ∧ u95 = .int .i64 i ∧ Hid (Below T w5 wx) ∧ Hid (OmS T V D wx lv ps) ∧ Hid (MC = ps.map Prod.snd ++ lfC f0 ws (lvs.drop i) i) ∧ Hid (ps.length ≤ 100 + 12 * i))
    case atStart => exact ⟨0, lv, ps, by omega, rfl, HB, HOM, HMF, HPF⟩
    case round =>
    clear HB HOM HMF HPF k1
    obtain ⟨i, lv, ps, hig, rfl, HB, HOM, HM, HPL⟩ := hrel
    obtain ⟨k0, k1, k2, k3, kg⟩ := HKK.out wr HB.out
    by_cases hi : i < ll
    case neg =>
      have hdi : decide ((i : Int) < ll) = false := by simp; omega
      have hdi' : decide (i < ll) = false := decide_eq_false hi
      have HMF : Hid (ps.map Prod.snd = MC) := Lib.hid (by
        rw [HM.out, List.drop_eq_nil_of_le (by have := HLL.out; omega)]
        simp [lfC])
      have y0 : wr.cell? ⟨T, 0, none⟩ = some (.int .i64 V) := cell_of HOM.out.1 rfl
      have y1 : wr.cell? ⟨T, 1, none⟩ = some (.int .i64 D) := cell_of HOM.out.1 rfl
      have y2 : wr.cell? ⟨T, 2, none⟩ = some lv := cell_of HOM.out.1 rfl
      have yf : ∀ o, wr.frozen? ⟨T, o, none⟩ = false := froz_of HOM.out.1
      have hTw : T + 1 ≤ wr.heap.size := HOM.out.2.2
      have xr := HRS.out wr HB.out
      obtain ⟨xa, xn, xc, rfl⟩ : ∃ a n c, lv = .slice a n c := by
        obtain ⟨a, c, h⟩ := own_form HOM.out.2.1.1
        exact ⟨a, _, c, h⟩
      have hcl := HOM.out.2.1.clss (by have := HPL.out; omega)
      rw [HMF.out] at hcl
      have hMCl : MC.length ≤ 1000 := by
        have := congrArg List.length HMF.out
        rw [List.length_map] at this
        have := HPL.out
        omega
      have hMCe : ∀ c ∈ MC, c.length ≤ 3 := fun c hc => by
        rw [← HMC.out] at hc
        unfold mtC at hc
        rcases List.mem_cons.1 hc with h | h
        · rw [h]; simp
        rcases List.mem_append.1 h with h | h
        · exact ndC_each _ _ _ _ _ c h
        · exact lfC_each _ _ _ _ c h
      have HMK := Lib.hid (lcanonical_any _ (.slice xa xn xc) MC wr hcl (by omega) (fun c hc => by have := hMCe c hc; omega))
      have HBWR : Hid (Below w.heap.size w wr) := Lib.hid (HB15.out.trans (HB.out.mono (by have := HS.out; omega)))
      clear hi hcl HM HPL HOM hMCl hMCe k0 k1 k2 k3 kg
      go_wp2_with fail
      refine HMK.out.mono ?_
      rintro e w9 ⟨v9, rfl, hc9, hb9⟩
      obtain ⟨ca, cn, cc, rfl, _, _⟩ := hc9.form'
      have HC9 := Lib.hid hc9
      have HB9 := Lib.hid hb9
      have y0 := below_c hb9 (block_lt y0) y0
      have y1 := below_c hb9 (block_lt y1) y1
      have y2 := below_c hb9 (block_lt y2) y2
      have yf : ∀ o, w9.frozen? ⟨T, o, none⟩ = false := fun o => below_z hb9 (by omega) (yf o)
      have xr9 := (hb9.block (s + 1) (by omega)).trans xr
      clear hc9 hb9 xr HMK
      obtain ⟨w10, hw10⟩ : ∃ W, w9.setCell ⟨T, 2, none⟩ (.slice ca cn cc) = W := ⟨_, rfl⟩
      have t0 : w10.cell? ⟨T, 0, none⟩ = some (.int .i64 V) := by rw [← hw10]; exact set_ne (by omega) y0
      have t1 : w10.cell? ⟨T, 1, none⟩ = some (.int .i64 D) := by rw [← hw10]; exact set_ne (by omega) y1
      have t2 : w10.cell? ⟨T, 2, none⟩ = some (.slice ca cn cc) := by rw [← hw10]; exact set_eq y2
      have xr10 : w10.heap[s + 1]? = some (.cells #[.int .i64 0, .int .i64 0, .slice none 0 0] 31) := by rw [← hw10, Below.heap_setCell _ _ _ _ (by simp; omega)]; exact xr9
      have z0 : w10.cell? ⟨s + 1, 0, none⟩ = some (.int .i64 0) := cell_of xr10 rfl
      have z1 : w10.cell? ⟨s + 1, 1, none⟩ = some (.int .i64 0) := cell_of xr10 rfl
      have z2 : w10.cell? ⟨s + 1, 2, none⟩ = some (.slice none 0 0) := cell_of xr10 rfl
      have zf : ∀ o, w10.frozen? ⟨s + 1, o, none⟩ = false := froz_of xr10
      have HB10 : Hid (Below T w9 w10) := Lib.hid (by rw [← hw10]; exact (Below.refl _ _).setCell (Nat.le_refl T) _)
      have HC10 : Hid (Clss (fun k => wr.heap.size ≤ k) w10 (.slice ca cn cc) (canM MC)) := Lib.hid (Rows1.move (fun _ _ _ _ _ h hm => h.move hm) HC9.out fun k hk hlt => by
        rw [← hw10]
        exact Below.heap_setCell _ _ _ _ (by have : wr.heap.size ≤ k := hk; simp; omega))
      have HW10 := Lib.hid hw10
      clear hw10 xr9 xr10 HC9
      go_upto_region 28 with fail
      rw [HW10.out]
      clear y0 y1 y2 yf HW10
      obtain ⟨v0, v1, v2⟩ := set3_at (x := .int .i64 V) (y := .int .i64 D) (z := .slice ca cn cc) z0 z1 z2
      have HBF : Hid (Below w.heap.size w (((w10.setCell ⟨s + 1, 0, none⟩ (.int .i64 V)).setCell ⟨s + 1, 1, none⟩ (.int .i64 D)).setCell ⟨s + 1, 2, none⟩ (.slice ca cn cc))) := Lib.hid (set3_below _ _ _ (HBWR.out.trans ((HB9.out.mono HBWR.out.size).trans (HB10.out.mono (by have := HS.out; omega)))) (by have := HS.out; omega))
      have HCF : Hid (Clss (fun k => w.heap.size ≤ k) (((w10.setCell ⟨s + 1, 0, none⟩ (.int .i64 V)).setCell ⟨s + 1, 1, none⟩ (.int .i64 D)).setCell ⟨s + 1, 2, none⟩ (.slice ca cn cc)) (.slice ca cn cc) (canM MC)) :=
        Lib.hid (Rows1.mono (fun _ _ _ _ _ h hg => h.mono hg) (Rows1.move (fun _ _ _ _ _ h hm => h.move hm) HC10.out fun k hk hlt => set3_block _ _ _ (by have : wr.heap.size ≤ k := hk; omega)) fun k hk => show w.heap.size ≤ k by have : wr.heap.size ≤ k := hk; have := HS.out; omega)
      go_wp2_with fail
      refine bodyPost_ret (v := .agg #[.int .i64 V, .int .i64 D, .slice ca cn cc]) (by simp [results, Tryz.results7, go_sem, v0, v1, v2]) rfl ?_
      exact ⟨_, rfl, (by rw [HMC.out]; exact HCF.out), HBF.out⟩
    have hdi : decide ((i : Int) < ll) = true := by simp; omega
    have hdi' : decide (i < ll) = true := decide_eq_true hi
    have hi0 : (0 : Int) ≤ i := by omega
    have hin : (i : Int) < ll := by omega
    obtain ⟨v, hv, ed⟩ := drop_at (xs := lvs) (k := i) (by have := HLL.out; omega)
    obtain ⟨eb, eo, rfl, _, hebl, e0, _⟩ := (HDD.out wr HB.out).1.at hv
    have hvw := HFW.out v (List.mem_of_getElem? hv)
    have HVW : Hid (v < wl) := Lib.hid (by have := HWL.out; omega)
    obtain ⟨A, hA⟩ : ∃ a, f0 + (i : Int) = a := ⟨_, rfl⟩
    have hAr : 1 ≤ A ∧ A ≤ 200 := by omega
    have HM2 : Hid (MC = ps.map Prod.snd ++ ((if v < 0 then [[-A]] else btC A (ws.getD v.toNat []) 0) ++ lfC f0 ws (lvs.drop (i + 1)) (i + 1))) := Lib.hid (by rw [HM.out, ed, lfC, hA])
    have uw5 : IntKind.i64.wrap (-(f0 + (i : Int))) = -A := by rw [hA]; exact IntWalk.i64_in _ ⟨by omega, by omega⟩
    have HAE := Lib.hid hA
    have hir : (i : Int) ≤ 40 := by omega
    obtain ⟨GK, hGK⟩ : ∃ G, G = gk := ⟨_, rfl⟩
    subst hGK
    clear hv ed hvw hA HM
    by_cases hv0' : v < 0
    · have hd : decide (v < 0) = true := decide_eq_true hv0'
      have HM3 : Hid (MC = ps.map Prod.snd ++ [[-A]] ++ lfC f0 ws (lvs.drop (i + 1)) (i + 1)) := Lib.hid (by rw [HM2.out, if_pos hv0']; simp)
      obtain ⟨oa, oc, hoc⟩ := own_form HOM.out.2.1.1
      obtain ⟨pn, hpn⟩ : ∃ n, ps.length = n := ⟨_, rfl⟩
      rw [hpn] at hoc
      subst hoc
      have HPN := Lib.hid hpn
      have hpl : pn ≤ 100000 := by have := HPL.out; omega
      clear hv0' HM2 hpn k0 k1 k2 k3 kg
      have cT : wr.cell? ⟨T, 2, none⟩ = some (.slice oa pn oc) := cell_of HOM.out.1 rfl
      have cTf : ∀ o, wr.frozen? ⟨T, o, none⟩ = false := froz_of HOM.out.1
      obtain ⟨ck, _, _, _, cg⟩ := HKK.out wr HB.out
      obtain ⟨z, hz⟩ : ∃ z, wr.heap.size = z := ⟨_, rfl⟩
      have hTz : T < z := by have := HOM.out.2.2; omega
      have HOB : Hid (∀ b, (Value.slice oa pn oc).ownBlock = some b → T + 1 ≤ b ∧ b < z) := Lib.hid fun b e => by have := HOM.out.2.1.1.lt b e; omega
      go_upto_region 17 with fail
      refine wp_region_held_drew (S := fun _ => True) (by kernel_rfl) (by trivial) (fun hHeld => ?_)
      refine wpAnyH_take (i := 0) (v := ?_) rfl (by kernel_rfl) (by kernel_rfl) (by kernel_rfl) (fun _ _ _ h => h) (Or.inl ⟨by rfl, ?_⟩) (by assumption) ?_
      rotate_left
      · intro w hSw
        try dsimp only at hSw
        go_simp
        try with_reducible rfl
      try simp only [Act.put, gz1, gz2, gz3, gz4, gz5, gz6]
      refine wpAnyH_take (i := 2) (v := ?_) rfl (by kernel_rfl) (by kernel_rfl) (by kernel_rfl) (fun _ _ _ h => h) (Or.inl ⟨by rfl, ?_⟩) (by assumption) ?_
      rotate_left
      · intro w hSw
        try dsimp only at hSw
        go_simp
        try with_reducible rfl
      try simp only [Act.put, gz1, gz2, gz3, gz4, gz5, gz6]
      refine wpAnyH_take (i := 3) (v := ?_) rfl (by kernel_rfl) (by kernel_rfl) (by kernel_rfl) (fun _ _ _ h => h) (Or.inl ⟨by rfl, ?_⟩) (by assumption) ?_
      rotate_left
      · intro w hSw
        try dsimp only at hSw
        go_simp
        try with_reducible rfl
      try simp only [Act.put, gz1, gz2, gz3, gz4, gz5, gz6]
      refine wpAnyH_ready (rs := [1, 4]) (by kernel_rfl) (by simp) ?_
      refine AllReadyH.cons rfl (fun K hK => ?_) (AllReadyH.cons rfl (fun K hK => ?_) AllReadyH.nil)
      · obtain ⟨x0, hx0⟩ : ∃ W, wr.drew = W := ⟨_, rfl⟩
        have hBX : Below wr.heap.size wr x0 := by rw [← hx0]; exact below_drew (Below.refl _ _)
        have hs0 : x0.heap.size = z := by rw [← hx0]; exact hz
        have cT : x0.cell? ⟨T, 2, none⟩ = some (.slice oa pn oc) := by rw [← hx0]; exact cT
        have cg : x0.cell? ⟨s + 1 + 1, 0, none⟩ = some (.int .i64 D) := by rw [← hx0]; exact cg
        have ck : x0.cell? ⟨s, 0, none⟩ = some (.int .i64 vars) := by rw [← hx0]; exact ck
        have cTf : ∀ o, x0.frozen? ⟨T, o, none⟩ = false := by rw [← hx0]; exact cTf
        try rw [hx0]
        clear hx0
        go_simp
        refine hK.out _ _ (by trivial) (fun _ => ?_)
        clear hK K
        try simp only [Act.put, gz1, gz2, gz3, gz4, gz5, gz6]
        refine wpAnyH_ready (rs := [4]) (by kernel_rfl) (by simp) ?_
        refine AllReadyH.cons rfl (fun K hK => ?_) AllReadyH.nil
        go_simp
        go_at_call 25
        (with_reducible refine (HNM.out _ _ cg ck (by omega)).mono ?_)
        rintro e w8 ⟨rfl, rfl⟩
        go_wp2_with fail
        refine hK.out _ _ (by trivial) (fun _ => ?_)
        clear hK K
        try simp only [Act.put, gz1, gz2, gz3, gz4, gz5, gz6]
        refine wpAnyH_take (i := 5) (v := ?_) rfl (by kernel_rfl) (by kernel_rfl) (by kernel_rfl) (fun _ _ _ h => h) (Or.inl ⟨by rfl, ?_⟩) (by assumption) ?_
        rotate_left
        · intro w hSw
          try dsimp only at hSw
          go_simp
          try with_reducible rfl
        try simp only [Act.put, gz1, gz2, gz3, gz4, gz5, gz6]
        refine wpAnyH_ready (rs := [6]) (by kernel_rfl) (by simp) ?_
        refine AllReadyH.cons rfl (fun K hK => ?_) AllReadyH.nil
        go_simp
        obtain ⟨x1, hnew⟩ : ∃ W, x0.alloc (.cells #[.int .i64 (-A)] 3) = W := ⟨_, rfl⟩
        have hbn : Below x0.heap.size x0 x1 := by rw [← hnew]; exact (Below.refl _ _).alloc (Nat.le_refl _) _
        have hs1 : x1.heap.size = z + 1 := by rw [← hnew, World.size_alloc, hs0]
        have q6 : x1.heap[z]? = some (.cells #[.int .i64 (-A)] 3) := by rw [← hnew, ← hs0]; exact new_at _ _
        have cT := keep_c hbn cT
        have cg := keep_c hbn cg
        have ck := keep_c hbn ck
        have cTf := keep_f hbn (by omega) cTf
        have hBX : Below wr.heap.size wr x1 := hBX.trans (hbn.mono (by omega))
        try rw [hnew]
        clear hnew hbn
        refine hK.out _ _ (by trivial) (fun _ => ?_)
        clear hK K
        try simp only [Act.put, gz1, gz2, gz3, gz4, gz5, gz6]
        refine wpAnyH_ready (rs := [7]) (by kernel_rfl) (by simp) ?_
        refine AllReadyH.cons rfl (fun K hK => ?_) AllReadyH.nil
        go_simp
        obtain ⟨x2, hnew⟩ : ∃ W, x1.alloc (.cells #[.slice (some ⟨z, 0, none⟩) 1 1] 22) = W := ⟨_, rfl⟩
        have hbn : Below x1.heap.size x1 x2 := by rw [← hnew]; exact (Below.refl _ _).alloc (Nat.le_refl _) _
        have hs2 : x2.heap.size = z + 2 := by rw [← hnew, World.size_alloc, hs1]
        have q7 : x2.heap[z + 1]? = some (.cells #[.slice (some ⟨z, 0, none⟩) 1 1] 22) := by rw [← hnew, ← hs1]; exact new_at _ _
        have q6 := (hbn.block (z) (by omega)).trans q6
        have cT := keep_c hbn cT
        have cg := keep_c hbn cg
        have ck := keep_c hbn ck
        have cTf := keep_f hbn (by omega) cTf
        have hBX : Below wr.heap.size wr x2 := hBX.trans (hbn.mono (by omega))
        try rw [hnew]
        clear hnew hbn
        refine hK.out _ _ (by trivial) (fun _ => ?_)
        clear hK K
        try simp only [Act.put, gz1, gz2, gz3, gz4, gz5, gz6]
        refine wpAnyH_ready (rs := [8]) (by kernel_rfl) (by simp) ?_
        refine AllReadyH.cons rfl (fun K hK => ?_) AllReadyH.nil
        have hrow := own_below HOM.out.2.1.1 hBX
        rw [HPN.out] at hrow
        refine step_push1 rfl _ _ 29 rfl 22 (.slice none 0 0) 24 Tryz.underlying29 HIN.out rfl (T + 1) (.slice oa pn oc) pn (ps.map Prod.fst) (z + 1) (Value.slice (some ⟨z, 0, none⟩) 1 1) rfl rfl (cell_of q7 rfl) hrow rfl (by omega) (by omega) (by omega) ?_
        intro g9 cap9 w9 hown9 hg9 hat9
        have HI9 : Hid (∀ p ∈ ([(Value.slice (some ⟨z, 0, none⟩) 1 1, [-A])] : List (Value × List Int)), Ints (fun b => wr.heap.size ≤ b) x2 p.1 p.2) := Lib.hid (by
          intro p hp
          simp only [List.mem_cons, List.not_mem_nil, or_false] at hp
          subst hp
          exact (ints_block [-A] 1 q6 (by simp) (by simp) (by intro y hy; simp at hy; unfold I64; omega)).mono fun b hb => by have hb : b = _ := hb; omega
        )
        have HO9 := Lib.hid (HOM.out.push (rs := [(Value.slice (some ⟨z, 0, none⟩) 1 1, [-A])]) HPN.out hBX HI9.out hg9 hown9 hat9)
        have cT := grown_cell hg9 (fun e => by have := HOB.out _ e.symm; omega) cT
        have cg := grown_cell hg9 (fun e => by have := HOB.out _ e.symm; omega) cg
        have ck := grown_cell hg9 (fun e => by have := HOB.out _ e.symm; omega) ck
        have cTf : ∀ o, w9.frozen? ⟨T, o, none⟩ = false := fun o => grown_froz hg9 (fun e => by have := HOB.out _ e.symm; omega) (by have := hTz; omega) (cTf o)
        have HBF : Hid (Below T w5 (w9.setCell ⟨T, 2, none⟩ (.slice (some ⟨g9, 0, none⟩) (pn + 1) cap9))) := Lib.hid (((HB.out.trans (hBX.mono (by omega))).grown hg9 (by have := hBX.size; have := HB.out.size; omega) (fun b e => by have := HOB.out b e; omega)).setCell (Nat.le_refl T) _)
        clear hown9 hg9 hat9 hrow hBX
        refine hK.out _ _ (by trivial) (fun _ => ?_)
        clear hK K
        try simp only [Act.put, gz1, gz2, gz3, gz4, gz5, gz6]
        refine wpAnyH_take (i := 9) (v := ?_) rfl (by kernel_rfl) (by kernel_rfl) (by kernel_rfl) (fun _ _ _ h => h) (Or.inl ⟨by rfl, ?_⟩) (by assumption) ?_
        rotate_left
        · intro w hSw
          try dsimp only at hSw
          go_simp
          try with_reducible rfl
        try simp only [Act.put, gz1, gz2, gz3, gz4, gz5, gz6]
        refine wpAnyH_ready (rs := [10]) (by kernel_rfl) (by simp) ?_
        refine AllReadyH.cons rfl (fun K hK => ?_) AllReadyH.nil
        go_simp
        refine hK.out _ _ (by trivial) (fun _ => ?_)
        clear hK K
        try simp only [Act.put, gz1, gz2, gz3, gz4, gz5, gz6]
        refine wpAnyH_done (by kernel_rfl) ?_ _
        have HM9 : Hid (MC = (ps ++ [(Value.slice (some ⟨z, 0, none⟩) 1 1, [-A])]).map Prod.snd ++ lfC f0 ws (lvs.drop (i + 1)) (i + 1)) := Lib.hid (by rw [HM3.out]; simp)
        have HL9 : Hid ((ps ++ [(Value.slice (some ⟨z, 0, none⟩) 1 1, [-A])]).length ≤ 100 + 12 * (i + 1)) := Lib.hid (by have := HPL.out; simp; omega)
        go_wp2_with fail
        go_roundg (GK - 1)
        case measure => omega
        case rel => exact ⟨i + 1, _, _, by omega, by go_num, HBF, HO9, HM9, HL9⟩
      · obtain ⟨x0, hx0⟩ : ∃ W, wr.drew = W := ⟨_, rfl⟩
        have hBX : Below wr.heap.size wr x0 := by rw [← hx0]; exact below_drew (Below.refl _ _)
        have hs0 : x0.heap.size = z := by rw [← hx0]; exact hz
        have cT : x0.cell? ⟨T, 2, none⟩ = some (.slice oa pn oc) := by rw [← hx0]; exact cT
        have cg : x0.cell? ⟨s + 1 + 1, 0, none⟩ = some (.int .i64 D) := by rw [← hx0]; exact cg
        have ck : x0.cell? ⟨s, 0, none⟩ = some (.int .i64 vars) := by rw [← hx0]; exact ck
        have cTf : ∀ o, x0.frozen? ⟨T, o, none⟩ = false := by rw [← hx0]; exact cTf
        try rw [hx0]
        clear hx0
        go_simp
        go_at_call 25
        (with_reducible refine (HNM.out _ _ cg ck (by omega)).mono ?_)
        rintro e w8 ⟨rfl, rfl⟩
        go_wp2_with fail
        refine hK.out _ _ (by trivial) (fun _ => ?_)
        clear hK K
        try simp only [Act.put, gz1, gz2, gz3, gz4, gz5, gz6]
        refine wpAnyH_take (i := 5) (v := ?_) rfl (by kernel_rfl) (by kernel_rfl) (by kernel_rfl) (fun _ _ _ h => h) (Or.inl ⟨by rfl, ?_⟩) (by assumption) ?_
        rotate_left
        · intro w hSw
          try dsimp only at hSw
          go_simp
          try with_reducible rfl
        try simp only [Act.put, gz1, gz2, gz3, gz4, gz5, gz6]
        refine wpAnyH_ready (rs := [1, 6]) (by kernel_rfl) (by simp) ?_
        refine AllReadyH.cons rfl (fun K hK => ?_) (AllReadyH.cons rfl (fun K hK => ?_) AllReadyH.nil)
        · go_simp
          refine hK.out _ _ (by trivial) (fun _ => ?_)
          clear hK K
          try simp only [Act.put, gz1, gz2, gz3, gz4, gz5, gz6]
          refine wpAnyH_ready (rs := [6]) (by kernel_rfl) (by simp) ?_
          refine AllReadyH.cons rfl (fun K hK => ?_) AllReadyH.nil
          go_simp
          obtain ⟨x1, hnew⟩ : ∃ W, x0.alloc (.cells #[.int .i64 (-A)] 3) = W := ⟨_, rfl⟩
          have hbn : Below x0.heap.size x0 x1 := by rw [← hnew]; exact (Below.refl _ _).alloc (Nat.le_refl _) _
          have hs1 : x1.heap.size = z + 1 := by rw [← hnew, World.size_alloc, hs0]
          have q6 : x1.heap[z]? = some (.cells #[.int .i64 (-A)] 3) := by rw [← hnew, ← hs0]; exact new_at _ _
          have cT := keep_c hbn cT
          have cg := keep_c hbn cg
          have ck := keep_c hbn ck
          have cTf := keep_f hbn (by omega) cTf
          have hBX : Below wr.heap.size wr x1 := hBX.trans (hbn.mono (by omega))
          try rw [hnew]
          clear hnew hbn
          refine hK.out _ _ (by trivial) (fun _ => ?_)
          clear hK K
          try simp only [Act.put, gz1, gz2, gz3, gz4, gz5, gz6]
          refine wpAnyH_ready (rs := [7]) (by kernel_rfl) (by simp) ?_
          refine AllReadyH.cons rfl (fun K hK => ?_) AllReadyH.nil
          go_simp
          obtain ⟨x2, hnew⟩ : ∃ W, x1.alloc (.cells #[.slice (some ⟨z, 0, none⟩) 1 1] 22) = W := ⟨_, rfl⟩
          have hbn : Below x1.heap.size x1 x2 := by rw [← hnew]; exact (Below.refl _ _).alloc (Nat.le_refl _) _
          have hs2 : x2.heap.size = z + 2 := by rw [← hnew, World.size_alloc, hs1]
          have q7 : x2.heap[z + 1]? = some (.cells #[.slice (some ⟨z, 0, none⟩) 1 1] 22) := by rw [← hnew, ← hs1]; exact new_at _ _
          have q6 := (hbn.block (z) (by omega)).trans q6
          have cT := keep_c hbn cT
          have cg := keep_c hbn cg
          have ck := keep_c hbn ck
          have cTf := keep_f hbn (by omega) cTf
          have hBX : Below wr.heap.size wr x2 := hBX.trans (hbn.mono (by omega))
          try rw [hnew]
          clear hnew hbn
          refine hK.out _ _ (by trivial) (fun _ => ?_)
          clear hK K
          try simp only [Act.put, gz1, gz2, gz3, gz4, gz5, gz6]
          refine wpAnyH_ready (rs := [8]) (by kernel_rfl) (by simp) ?_
          refine AllReadyH.cons rfl (fun K hK => ?_) AllReadyH.nil
          have hrow := own_below HOM.out.2.1.1 hBX
          rw [HPN.out] at hrow
          refine step_push1 rfl _ _ 29 rfl 22 (.slice none 0 0) 24 Tryz.underlying29 HIN.out rfl (T + 1) (.slice oa pn oc) pn (ps.map Prod.fst) (z + 1) (Value.slice (some ⟨z, 0, none⟩) 1 1) rfl rfl (cell_of q7 rfl) hrow rfl (by omega) (by omega) (by omega) ?_
          intro g9 cap9 w9 hown9 hg9 hat9
          have HI9 : Hid (∀ p ∈ ([(Value.slice (some ⟨z, 0, none⟩) 1 1, [-A])] : List (Value × List Int)), Ints (fun b => wr.heap.size ≤ b) x2 p.1 p.2) := Lib.hid (by
            intro p hp
            simp only [List.mem_cons, List.not_mem_nil, or_false] at hp
            subst hp
            exact (ints_block [-A] 1 q6 (by simp) (by simp) (by intro y hy; simp at hy; unfold I64; omega)).mono fun b hb => by have hb : b = _ := hb; omega
          )
          have HO9 := Lib.hid (HOM.out.push (rs := [(Value.slice (some ⟨z, 0, none⟩) 1 1, [-A])]) HPN.out hBX HI9.out hg9 hown9 hat9)
          have cT := grown_cell hg9 (fun e => by have := HOB.out _ e.symm; omega) cT
          have cg := grown_cell hg9 (fun e => by have := HOB.out _ e.symm; omega) cg
          have ck := grown_cell hg9 (fun e => by have := HOB.out _ e.symm; omega) ck
          have cTf : ∀ o, w9.frozen? ⟨T, o, none⟩ = false := fun o => grown_froz hg9 (fun e => by have := HOB.out _ e.symm; omega) (by have := hTz; omega) (cTf o)
          have HBF : Hid (Below T w5 (w9.setCell ⟨T, 2, none⟩ (.slice (some ⟨g9, 0, none⟩) (pn + 1) cap9))) := Lib.hid (((HB.out.trans (hBX.mono (by omega))).grown hg9 (by have := hBX.size; have := HB.out.size; omega) (fun b e => by have := HOB.out b e; omega)).setCell (Nat.le_refl T) _)
          clear hown9 hg9 hat9 hrow hBX
          refine hK.out _ _ (by trivial) (fun _ => ?_)
          clear hK K
          try simp only [Act.put, gz1, gz2, gz3, gz4, gz5, gz6]
          refine wpAnyH_take (i := 9) (v := ?_) rfl (by kernel_rfl) (by kernel_rfl) (by kernel_rfl) (fun _ _ _ h => h) (Or.inl ⟨by rfl, ?_⟩) (by assumption) ?_
          rotate_left
          · intro w hSw
            try dsimp only at hSw
            go_simp
            try with_reducible rfl
          try simp only [Act.put, gz1, gz2, gz3, gz4, gz5, gz6]
          refine wpAnyH_ready (rs := [10]) (by kernel_rfl) (by simp) ?_
          refine AllReadyH.cons rfl (fun K hK => ?_) AllReadyH.nil
          go_simp
          refine hK.out _ _ (by trivial) (fun _ => ?_)
          clear hK K
          try simp only [Act.put, gz1, gz2, gz3, gz4, gz5, gz6]
          refine wpAnyH_done (by kernel_rfl) ?_ _
          have HM9 : Hid (MC = (ps ++ [(Value.slice (some ⟨z, 0, none⟩) 1 1, [-A])]).map Prod.snd ++ lfC f0 ws (lvs.drop (i + 1)) (i + 1)) := Lib.hid (by rw [HM3.out]; simp)
          have HL9 : Hid ((ps ++ [(Value.slice (some ⟨z, 0, none⟩) 1 1, [-A])]).length ≤ 100 + 12 * (i + 1)) := Lib.hid (by have := HPL.out; simp; omega)
          go_wp2_with fail
          go_roundg (GK - 1)
          case measure => omega
          case rel => exact ⟨i + 1, _, _, by omega, by go_num, HBF, HO9, HM9, HL9⟩
        · go_simp
          obtain ⟨x1, hnew⟩ : ∃ W, x0.alloc (.cells #[.int .i64 (-A)] 3) = W := ⟨_, rfl⟩
          have hbn : Below x0.heap.size x0 x1 := by rw [← hnew]; exact (Below.refl _ _).alloc (Nat.le_refl _) _
          have hs1 : x1.heap.size = z + 1 := by rw [← hnew, World.size_alloc, hs0]
          have q6 : x1.heap[z]? = some (.cells #[.int .i64 (-A)] 3) := by rw [← hnew, ← hs0]; exact new_at _ _
          have cT := keep_c hbn cT
          have cg := keep_c hbn cg
          have ck := keep_c hbn ck
          have cTf := keep_f hbn (by omega) cTf
          have hBX : Below wr.heap.size wr x1 := hBX.trans (hbn.mono (by omega))
          try rw [hnew]
          clear hnew hbn
          refine hK.out _ _ (by trivial) (fun _ => ?_)
          clear hK K
          try simp only [Act.put, gz1, gz2, gz3, gz4, gz5, gz6]
          refine wpAnyH_ready (rs := [1, 7]) (by kernel_rfl) (by simp) ?_
          refine AllReadyH.cons rfl (fun K hK => ?_) (AllReadyH.cons rfl (fun K hK => ?_) AllReadyH.nil)
          · go_simp
            refine hK.out _ _ (by trivial) (fun _ => ?_)
            clear hK K
            try simp only [Act.put, gz1, gz2, gz3, gz4, gz5, gz6]
            refine wpAnyH_ready (rs := [7]) (by kernel_rfl) (by simp) ?_
            refine AllReadyH.cons rfl (fun K hK => ?_) AllReadyH.nil
            go_simp
            obtain ⟨x2, hnew⟩ : ∃ W, x1.alloc (.cells #[.slice (some ⟨z, 0, none⟩) 1 1] 22) = W := ⟨_, rfl⟩
            have hbn : Below x1.heap.size x1 x2 := by rw [← hnew]; exact (Below.refl _ _).alloc (Nat.le_refl _) _
            have hs2 : x2.heap.size = z + 2 := by rw [← hnew, World.size_alloc, hs1]
            have q7 : x2.heap[z + 1]? = some (.cells #[.slice (some ⟨z, 0, none⟩) 1 1] 22) := by rw [← hnew, ← hs1]; exact new_at _ _
            have q6 := (hbn.block (z) (by omega)).trans q6
            have cT := keep_c hbn cT
            have cg := keep_c hbn cg
            have ck := keep_c hbn ck
            have cTf := keep_f hbn (by omega) cTf
            have hBX : Below wr.heap.size wr x2 := hBX.trans (hbn.mono (by omega))
            try rw [hnew]
            clear hnew hbn
            refine hK.out _ _ (by trivial) (fun _ => ?_)
            clear hK K
            try simp only [Act.put, gz1, gz2, gz3, gz4, gz5, gz6]
            refine wpAnyH_ready (rs := [8]) (by kernel_rfl) (by simp) ?_
            refine AllReadyH.cons rfl (fun K hK => ?_) AllReadyH.nil
            have hrow := own_below HOM.out.2.1.1 hBX
            rw [HPN.out] at hrow
            refine step_push1 rfl _ _ 29 rfl 22 (.slice none 0 0) 24 Tryz.underlying29 HIN.out rfl (T + 1) (.slice oa pn oc) pn (ps.map Prod.fst) (z + 1) (Value.slice (some ⟨z, 0, none⟩) 1 1) rfl rfl (cell_of q7 rfl) hrow rfl (by omega) (by omega) (by omega) ?_
            intro g9 cap9 w9 hown9 hg9 hat9
            have HI9 : Hid (∀ p ∈ ([(Value.slice (some ⟨z, 0, none⟩) 1 1, [-A])] : List (Value × List Int)), Ints (fun b => wr.heap.size ≤ b) x2 p.1 p.2) := Lib.hid (by
              intro p hp
              simp only [List.mem_cons, List.not_mem_nil, or_false] at hp
              subst hp
              exact (ints_block [-A] 1 q6 (by simp) (by simp) (by intro y hy; simp at hy; unfold I64; omega)).mono fun b hb => by have hb : b = _ := hb; omega
            )
            have HO9 := Lib.hid (HOM.out.push (rs := [(Value.slice (some ⟨z, 0, none⟩) 1 1, [-A])]) HPN.out hBX HI9.out hg9 hown9 hat9)
            have cT := grown_cell hg9 (fun e => by have := HOB.out _ e.symm; omega) cT
            have cg := grown_cell hg9 (fun e => by have := HOB.out _ e.symm; omega) cg
            have ck := grown_cell hg9 (fun e => by have := HOB.out _ e.symm; omega) ck
            have cTf : ∀ o, w9.frozen? ⟨T, o, none⟩ = false := fun o => grown_froz hg9 (fun e => by have := HOB.out _ e.symm; omega) (by have := hTz; omega) (cTf o)
            have HBF : Hid (Below T w5 (w9.setCell ⟨T, 2, none⟩ (.slice (some ⟨g9, 0, none⟩) (pn + 1) cap9))) := Lib.hid (((HB.out.trans (hBX.mono (by omega))).grown hg9 (by have := hBX.size; have := HB.out.size; omega) (fun b e => by have := HOB.out b e; omega)).setCell (Nat.le_refl T) _)
            clear hown9 hg9 hat9 hrow hBX
            refine hK.out _ _ (by trivial) (fun _ => ?_)
            clear hK K
            try simp only [Act.put, gz1, gz2, gz3, gz4, gz5, gz6]
            refine wpAnyH_take (i := 9) (v := ?_) rfl (by kernel_rfl) (by kernel_rfl) (by kernel_rfl) (fun _ _ _ h => h) (Or.inl ⟨by rfl, ?_⟩) (by assumption) ?_
            rotate_left
            · intro w hSw
              try dsimp only at hSw
              go_simp
              try with_reducible rfl
            try simp only [Act.put, gz1, gz2, gz3, gz4, gz5, gz6]
            refine wpAnyH_ready (rs := [10]) (by kernel_rfl) (by simp) ?_
            refine AllReadyH.cons rfl (fun K hK => ?_) AllReadyH.nil
            go_simp
            refine hK.out _ _ (by trivial) (fun _ => ?_)
            clear hK K
            try simp only [Act.put, gz1, gz2, gz3, gz4, gz5, gz6]
            refine wpAnyH_done (by kernel_rfl) ?_ _
            have HM9 : Hid (MC = (ps ++ [(Value.slice (some ⟨z, 0, none⟩) 1 1, [-A])]).map Prod.snd ++ lfC f0 ws (lvs.drop (i + 1)) (i + 1)) := Lib.hid (by rw [HM3.out]; simp)
            have HL9 : Hid ((ps ++ [(Value.slice (some ⟨z, 0, none⟩) 1 1, [-A])]).length ≤ 100 + 12 * (i + 1)) := Lib.hid (by have := HPL.out; simp; omega)
            go_wp2_with fail
            go_roundg (GK - 1)
            case measure => omega
            case rel => exact ⟨i + 1, _, _, by omega, by go_num, HBF, HO9, HM9, HL9⟩
          · go_simp
            obtain ⟨x2, hnew⟩ : ∃ W, x1.alloc (.cells #[.slice (some ⟨z, 0, none⟩) 1 1] 22) = W := ⟨_, rfl⟩
            have hbn : Below x1.heap.size x1 x2 := by rw [← hnew]; exact (Below.refl _ _).alloc (Nat.le_refl _) _
            have hs2 : x2.heap.size = z + 2 := by rw [← hnew, World.size_alloc, hs1]
            have q7 : x2.heap[z + 1]? = some (.cells #[.slice (some ⟨z, 0, none⟩) 1 1] 22) := by rw [← hnew, ← hs1]; exact new_at _ _
            have q6 := (hbn.block (z) (by omega)).trans q6
            have cT := keep_c hbn cT
            have cg := keep_c hbn cg
            have ck := keep_c hbn ck
            have cTf := keep_f hbn (by omega) cTf
            have hBX : Below wr.heap.size wr x2 := hBX.trans (hbn.mono (by omega))
            try rw [hnew]
            clear hnew hbn
            refine hK.out _ _ (by trivial) (fun _ => ?_)
            clear hK K
            try simp only [Act.put, gz1, gz2, gz3, gz4, gz5, gz6]
            refine wpAnyH_ready (rs := [1]) (by kernel_rfl) (by simp) ?_
            refine AllReadyH.cons rfl (fun K hK => ?_) AllReadyH.nil
            go_simp
            refine hK.out _ _ (by trivial) (fun _ => ?_)
            clear hK K
            try simp only [Act.put, gz1, gz2, gz3, gz4, gz5, gz6]
            refine wpAnyH_ready (rs := [8]) (by kernel_rfl) (by simp) ?_
            refine AllReadyH.cons rfl (fun K hK => ?_) AllReadyH.nil
            have hrow := own_below HOM.out.2.1.1 hBX
            rw [HPN.out] at hrow
            refine step_push1 rfl _ _ 29 rfl 22 (.slice none 0 0) 24 Tryz.underlying29 HIN.out rfl (T + 1) (.slice oa pn oc) pn (ps.map Prod.fst) (z + 1) (Value.slice (some ⟨z, 0, none⟩) 1 1) rfl rfl (cell_of q7 rfl) hrow rfl (by omega) (by omega) (by omega) ?_
            intro g9 cap9 w9 hown9 hg9 hat9
            have HI9 : Hid (∀ p ∈ ([(Value.slice (some ⟨z, 0, none⟩) 1 1, [-A])] : List (Value × List Int)), Ints (fun b => wr.heap.size ≤ b) x2 p.1 p.2) := Lib.hid (by
              intro p hp
              simp only [List.mem_cons, List.not_mem_nil, or_false] at hp
              subst hp
              exact (ints_block [-A] 1 q6 (by simp) (by simp) (by intro y hy; simp at hy; unfold I64; omega)).mono fun b hb => by have hb : b = _ := hb; omega
            )
            have HO9 := Lib.hid (HOM.out.push (rs := [(Value.slice (some ⟨z, 0, none⟩) 1 1, [-A])]) HPN.out hBX HI9.out hg9 hown9 hat9)
            have cT := grown_cell hg9 (fun e => by have := HOB.out _ e.symm; omega) cT
            have cg := grown_cell hg9 (fun e => by have := HOB.out _ e.symm; omega) cg
            have ck := grown_cell hg9 (fun e => by have := HOB.out _ e.symm; omega) ck
            have cTf : ∀ o, w9.frozen? ⟨T, o, none⟩ = false := fun o => grown_froz hg9 (fun e => by have := HOB.out _ e.symm; omega) (by have := hTz; omega) (cTf o)
            have HBF : Hid (Below T w5 (w9.setCell ⟨T, 2, none⟩ (.slice (some ⟨g9, 0, none⟩) (pn + 1) cap9))) := Lib.hid (((HB.out.trans (hBX.mono (by omega))).grown hg9 (by have := hBX.size; have := HB.out.size; omega) (fun b e => by have := HOB.out b e; omega)).setCell (Nat.le_refl T) _)
            clear hown9 hg9 hat9 hrow hBX
            refine hK.out _ _ (by trivial) (fun _ => ?_)
            clear hK K
            try simp only [Act.put, gz1, gz2, gz3, gz4, gz5, gz6]
            refine wpAnyH_take (i := 9) (v := ?_) rfl (by kernel_rfl) (by kernel_rfl) (by kernel_rfl) (fun _ _ _ h => h) (Or.inl ⟨by rfl, ?_⟩) (by assumption) ?_
            rotate_left
            · intro w hSw
              try dsimp only at hSw
              go_simp
              try with_reducible rfl
            try simp only [Act.put, gz1, gz2, gz3, gz4, gz5, gz6]
            refine wpAnyH_ready (rs := [10]) (by kernel_rfl) (by simp) ?_
            refine AllReadyH.cons rfl (fun K hK => ?_) AllReadyH.nil
            go_simp
            refine hK.out _ _ (by trivial) (fun _ => ?_)
            clear hK K
            try simp only [Act.put, gz1, gz2, gz3, gz4, gz5, gz6]
            refine wpAnyH_done (by kernel_rfl) ?_ _
            have HM9 : Hid (MC = (ps ++ [(Value.slice (some ⟨z, 0, none⟩) 1 1, [-A])]).map Prod.snd ++ lfC f0 ws (lvs.drop (i + 1)) (i + 1)) := Lib.hid (by rw [HM3.out]; simp)
            have HL9 : Hid ((ps ++ [(Value.slice (some ⟨z, 0, none⟩) 1 1, [-A])]).length ≤ 100 + 12 * (i + 1)) := Lib.hid (by have := HPL.out; simp; omega)
            go_wp2_with fail
            go_roundg (GK - 1)
            case measure => omega
            case rel => exact ⟨i + 1, _, _, by omega, by go_num, HBF, HO9, HM9, HL9⟩
    have hd : decide (v < 0) = false := decide_eq_false hv0'
    obtain ⟨k, rfl⟩ : ∃ k : Nat, v = k := ⟨v.toNat, by omega⟩
    have hkw : k < wl := by have := HVW.out; omega
    have hkw0 : (0 : Int) ≤ k := by omega
    have hkw1 : (k : Int) < wl := by omega
    obtain ⟨word, hwd⟩ : ∃ x, ws[k]? = some x := ⟨_, List.getElem?_eq_getElem (by have := HWL.out; omega)⟩
    obtain ⟨xb, xo, xu, rfl, _, hxb, xc, xr⟩ := (HDD.out wr HB.out).2.2.at hwd
    obtain ⟨xa, xcp, rfl, _⟩ := xr.form
    have hxD : word.length = D := by rw [HSW.out word (List.mem_of_getElem? hwd), HD.out]
    rw [hxD] at xc xr
    have HXD := Lib.hid hxD
    have hxr5 : Bools (fun k => k < s) wr (.slice xa D xcp) word := xr
    have HXR : Hid (∀ W, Below T wr W → Bools (fun k => k < s) W (.slice xa D xcp) word) := Lib.hid fun W hW => hxr5.move fun k hk _ => hW.block k (by omega)
    have HM3 : Hid (MC = ps.map Prod.snd ++ (btC A (word.drop 0) 0 ++ lfC f0 ws (lvs.drop (i + 1)) (i + 1))) := Lib.hid (by rw [HM2.out, if_neg hv0', show ((k : Int)).toNat = k from rfl, getD_some hwd, List.drop_zero])
    have HL3 : Hid (ps.length ≤ 100 + 12 * i + 0) := Lib.hid HPL.out
    clear hv0' HM2 hwd hxD xr hxr5
    obtain ⟨WO, hWO⟩ : ∃ W, W = wr := ⟨_, rfl⟩
    subst hWO
    have HBO := Lib.hid HB.out
    clear k0 k1 k2 k3 kg
    go_wp2_with fail
    go_loopg [117] D (fun gg u117 wx => ∃ (j : Nat) (lv : Value) (ps : List (Value × List Int)), j + gg = D ∧ u117 = .int .i64 j ∧ Hid (Below T w5 wx) ∧ Hid (OmS T V D wx lv ps) ∧ Hid (MC = ps.map Prod.snd ++ (btC A (word.drop j) j ++ lfC f0 ws (lvs.drop (i + 1)) (i + 1))) ∧ Hid (ps.length ≤ 100 + 12 * i + j))
    case atStart => exact ⟨0, lv, ps, by omega, rfl, HB, HOM, HM3, HL3⟩
    case round =>
    clear HB HOM HM3 HL3 HPL
    obtain ⟨j, lv, ps, hjg, rfl, HB, HOM, HM, HPL⟩ := hrel
    by_cases hj : j < D
    case neg =>
      have hdj : decide ((j : Int) < D) = false := by simp; omega
      have hdj' : decide (j < D) = false := decide_eq_false hj
      have HMF : Hid (MC = ps.map Prod.snd ++ lfC f0 ws (lvs.drop (i + 1)) (i + 1)) := Lib.hid (by
        rw [HM.out, List.drop_eq_nil_of_le (by have := HXD.out; omega)]
        simp [btC])
      have HPF : Hid (ps.length ≤ 100 + 12 * (i + 1)) := Lib.hid (by have := HPL.out; omega)
      clear hj HM HPL
      go_wp2_with fail
      go_roundg (GK - 1)
      case measure => omega
      case rel => exact ⟨i + 1, lv, ps, by omega, by go_num, HB, HOM, HMF, HPF⟩
    have hdj : decide ((j : Int) < D) = true := by simp; omega
    have hdj' : decide (j < D) = true := decide_eq_true hj
    have hj0 : (0 : Int) ≤ j := by omega
    have hjn : (j : Int) < D := by omega
    have hjr : (j : Int) ≤ 12 := by omega
    have hps : ps.length ≤ 100000 := by have := HPL.out; omega
    obtain ⟨bt, hbt, ebt⟩ := drop_at (xs := word) (k := j) (by rw [HXD.out]; exact hj)
    have hbw : Bools (fun k => k < s) wr (.slice xa D xcp) word := (HXR.out WO (Below.refl _ _)).move fun k hk _ => by rw [HB.out.block k (by omega), HBO.out.block k (by omega)]
    obtain ⟨yb, yo, rfl, _, _, yc⟩ := hbw.at hbt
    have uw1 : IntKind.i64.wrap ((j : Int) + 1) = j + 1 := IntWalk.i64_in _ ⟨by omega, by omega⟩
    have uw3 : IntKind.i64.wrap (-((j : Int) + 1)) = -(j : Int) - 1 := by rw [IntWalk.i64_in _ ⟨by omega, by omega⟩]; omega
    have HMB : Hid (MC = ps.map Prod.snd ++ [[-A, if bt = true then (j : Int) + 1 else -(j : Int) - 1]] ++ (btC A (word.drop (j + 1)) (j + 1) ++ lfC f0 ws (lvs.drop (i + 1)) (i + 1))) := Lib.hid (by rw [HM.out, ebt, btC]; simp)
    obtain ⟨oa, oc, hoc⟩ := own_form HOM.out.2.1.1
    obtain ⟨pn, hpn⟩ : ∃ n, ps.length = n := ⟨_, rfl⟩
    rw [hpn] at hoc
    subst hoc
    have HPN := Lib.hid hpn
    have hpl : pn ≤ 100000 := by rw [← hpn]; exact hps
    clear hbt ebt HM hbw hpn
    rcases bool2 bt with rfl | rfl
    · have cT : wr.cell? ⟨T, 2, none⟩ = some (.slice oa pn oc) := cell_of HOM.out.1 rfl
      have cTf : ∀ o, wr.frozen? ⟨T, o, none⟩ = false := froz_of HOM.out.1
      obtain ⟨ck, _, _, _, cg⟩ := HKK.out wr HB.out
      obtain ⟨z, hz⟩ : ∃ z, wr.heap.size = z := ⟨_, rfl⟩
      have hTz : T < z := by have := HOM.out.2.2; omega
      have HOB : Hid (∀ b, (Value.slice oa pn oc).ownBlock = some b → T + 1 ≤ b ∧ b < z) := Lib.hid fun b e => by have := HOM.out.2.1.1.lt b e; omega
      go_upto_region 24 with fail
      clear uw1 uw3 hdj hdj' hj0 hjn yc e0 hd hkw0 hkw1 hdi hdi' hi0 hin
      refine wp_region_held_drew (S := fun _ => True) (by kernel_rfl) (by trivial) (fun hHeld => ?_)
      refine wpAnyH_take (i := 0) (v := ?_) rfl (by kernel_rfl) (by kernel_rfl) (by kernel_rfl) (fun _ _ _ h => h) (Or.inl ⟨by rfl, ?_⟩) (by assumption) ?_
      rotate_left
      · intro w hSw
        try dsimp only at hSw
        go_simp
        try with_reducible rfl
      try simp only [Act.put, gz1, gz2, gz3, gz4, gz5, gz6]
      refine wpAnyH_take (i := 2) (v := ?_) rfl (by kernel_rfl) (by kernel_rfl) (by kernel_rfl) (fun _ _ _ h => h) (Or.inl ⟨by rfl, ?_⟩) (by assumption) ?_
      rotate_left
      · intro w hSw
        try dsimp only at hSw
        go_simp
        try with_reducible rfl
      try simp only [Act.put, gz1, gz2, gz3, gz4, gz5, gz6]
      refine wpAnyH_take (i := 3) (v := ?_) rfl (by kernel_rfl) (by kernel_rfl) (by kernel_rfl) (fun _ _ _ h => h) (Or.inl ⟨by rfl, ?_⟩) (by assumption) ?_
      rotate_left
      · intro w hSw
        try dsimp only at hSw
        go_simp
        try with_reducible rfl
      try simp only [Act.put, gz1, gz2, gz3, gz4, gz5, gz6]
      refine wpAnyH_take (i := 6) (v := ?_) rfl (by kernel_rfl) (by kernel_rfl) (by kernel_rfl) (fun _ _ _ h => h) (Or.inl ⟨by rfl, ?_⟩) (by assumption) ?_
      rotate_left
      · intro w hSw
        try dsimp only at hSw
        go_simp
        try with_reducible rfl
      try simp only [Act.put, gz1, gz2, gz3, gz4, gz5, gz6]
      refine wpAnyH_ready (rs := [1, 4]) (by kernel_rfl) (by simp) ?_
      refine AllReadyH.cons rfl (fun K hK => ?_) (AllReadyH.cons rfl (fun K hK => ?_) AllReadyH.nil)
      · obtain ⟨x0, hx0⟩ : ∃ W, wr.drew = W := ⟨_, rfl⟩
        have hBX : Below wr.heap.size wr x0 := by rw [← hx0]; exact below_drew (Below.refl _ _)
        have hs0 : x0.heap.size = z := by rw [← hx0]; exact hz
        have cT : x0.cell? ⟨T, 2, none⟩ = some (.slice oa pn oc) := by rw [← hx0]; exact cT
        have cg : x0.cell? ⟨s + 1 + 1, 0, none⟩ = some (.int .i64 D) := by rw [← hx0]; exact cg
        have ck : x0.cell? ⟨s, 0, none⟩ = some (.int .i64 vars) := by rw [← hx0]; exact ck
        have cTf : ∀ o, x0.frozen? ⟨T, o, none⟩ = false := by rw [← hx0]; exact cTf
        try rw [hx0]
        clear hx0
        go_simp
        refine hK.out _ _ (by trivial) (fun _ => ?_)
        clear hK K
        try simp only [Act.put, gz1, gz2, gz3, gz4, gz5, gz6]
        refine wpAnyH_ready (rs := [4]) (by kernel_rfl) (by simp) ?_
        refine AllReadyH.cons rfl (fun K hK => ?_) AllReadyH.nil
        go_simp
        go_at_call 25
        (with_reducible refine (HNM.out _ _ cg ck (by omega)).mono ?_)
        rintro e w8 ⟨rfl, rfl⟩
        go_wp2_with fail
        refine hK.out _ _ (by trivial) (fun _ => ?_)
        clear hK K
        try simp only [Act.put, gz1, gz2, gz3, gz4, gz5, gz6]
        refine wpAnyH_take (i := 5) (v := ?_) rfl (by kernel_rfl) (by kernel_rfl) (by kernel_rfl) (fun _ _ _ h => h) (Or.inl ⟨by rfl, ?_⟩) (by assumption) ?_
        rotate_left
        · intro w hSw
          try dsimp only at hSw
          go_simp
          try with_reducible rfl
        try simp only [Act.put, gz1, gz2, gz3, gz4, gz5, gz6]
        refine wpAnyH_ready (rs := [7]) (by kernel_rfl) (by simp) ?_
        refine AllReadyH.cons rfl (fun K hK => ?_) AllReadyH.nil
        go_simp
        obtain ⟨x1, hnew⟩ : ∃ W, x0.alloc (.cells #[.int .i64 (-A), .int .i64 ((j : Int) + 1)] 3) = W := ⟨_, rfl⟩
        have hbn : Below x0.heap.size x0 x1 := by rw [← hnew]; exact (Below.refl _ _).alloc (Nat.le_refl _) _
        have hs1 : x1.heap.size = z + 1 := by rw [← hnew, World.size_alloc, hs0]
        have q7 : x1.heap[z]? = some (.cells #[.int .i64 (-A), .int .i64 ((j : Int) + 1)] 3) := by rw [← hnew, ← hs0]; exact new_at _ _
        have cT := keep_c hbn cT
        have cg := keep_c hbn cg
        have ck := keep_c hbn ck
        have cTf := keep_f hbn (by omega) cTf
        have hBX : Below wr.heap.size wr x1 := hBX.trans (hbn.mono (by omega))
        try rw [hnew]
        clear hnew hbn
        refine hK.out _ _ (by trivial) (fun _ => ?_)
        clear hK K
        try simp only [Act.put, gz1, gz2, gz3, gz4, gz5, gz6]
        refine wpAnyH_ready (rs := [8]) (by kernel_rfl) (by simp) ?_
        refine AllReadyH.cons rfl (fun K hK => ?_) AllReadyH.nil
        go_simp
        obtain ⟨x2, hnew⟩ : ∃ W, x1.alloc (.cells #[.slice (some ⟨z, 0, none⟩) 2 2] 22) = W := ⟨_, rfl⟩
        have hbn : Below x1.heap.size x1 x2 := by rw [← hnew]; exact (Below.refl _ _).alloc (Nat.le_refl _) _
        have hs2 : x2.heap.size = z + 2 := by rw [← hnew, World.size_alloc, hs1]
        have q8 : x2.heap[z + 1]? = some (.cells #[.slice (some ⟨z, 0, none⟩) 2 2] 22) := by rw [← hnew, ← hs1]; exact new_at _ _
        have q7 := (hbn.block (z) (by omega)).trans q7
        have cT := keep_c hbn cT
        have cg := keep_c hbn cg
        have ck := keep_c hbn ck
        have cTf := keep_f hbn (by omega) cTf
        have hBX : Below wr.heap.size wr x2 := hBX.trans (hbn.mono (by omega))
        try rw [hnew]
        clear hnew hbn
        refine hK.out _ _ (by trivial) (fun _ => ?_)
        clear hK K
        try simp only [Act.put, gz1, gz2, gz3, gz4, gz5, gz6]
        refine wpAnyH_ready (rs := [9]) (by kernel_rfl) (by simp) ?_
        refine AllReadyH.cons rfl (fun K hK => ?_) AllReadyH.nil
        have hrow := own_below HOM.out.2.1.1 hBX
        rw [HPN.out] at hrow
        refine step_push1 rfl _ _ 29 rfl 22 (.slice none 0 0) 24 Tryz.underlying29 HIN.out rfl (T + 1) (.slice oa pn oc) pn (ps.map Prod.fst) (z + 1) (Value.slice (some ⟨z, 0, none⟩) 2 2) rfl rfl (cell_of q8 rfl) hrow rfl (by omega) (by omega) (by omega) ?_
        intro g9 cap9 w9 hown9 hg9 hat9
        have HI9 : Hid (∀ p ∈ ([(Value.slice (some ⟨z, 0, none⟩) 2 2, [-A, (j : Int) + 1])] : List (Value × List Int)), Ints (fun b => wr.heap.size ≤ b) x2 p.1 p.2) := Lib.hid (by
          intro p hp
          simp only [List.mem_cons, List.not_mem_nil, or_false] at hp
          subst hp
          exact (ints_block [-A, (j : Int) + 1] 2 q7 (by simp) (by simp) (by intro y hy; simp at hy; unfold I64; omega)).mono fun b hb => by have hb : b = _ := hb; omega
        )
        have HO9 := Lib.hid (HOM.out.push (rs := [(Value.slice (some ⟨z, 0, none⟩) 2 2, [-A, (j : Int) + 1])]) HPN.out hBX HI9.out hg9 hown9 hat9)
        have cT := grown_cell hg9 (fun e => by have := HOB.out _ e.symm; omega) cT
        have cg := grown_cell hg9 (fun e => by have := HOB.out _ e.symm; omega) cg
        have ck := grown_cell hg9 (fun e => by have := HOB.out _ e.symm; omega) ck
        have cTf : ∀ o, w9.frozen? ⟨T, o, none⟩ = false := fun o => grown_froz hg9 (fun e => by have := HOB.out _ e.symm; omega) (by have := hTz; omega) (cTf o)
        have HBF : Hid (Below T w5 (w9.setCell ⟨T, 2, none⟩ (.slice (some ⟨g9, 0, none⟩) (pn + 1) cap9))) := Lib.hid (((HB.out.trans (hBX.mono (by omega))).grown hg9 (by have := hBX.size; have := HB.out.size; omega) (fun b e => by have := HOB.out b e; omega)).setCell (Nat.le_refl T) _)
        clear hown9 hg9 hat9 hrow hBX
        refine hK.out _ _ (by trivial) (fun _ => ?_)
        clear hK K
        try simp only [Act.put, gz1, gz2, gz3, gz4, gz5, gz6]
        refine wpAnyH_take (i := 10) (v := ?_) rfl (by kernel_rfl) (by kernel_rfl) (by kernel_rfl) (fun _ _ _ h => h) (Or.inl ⟨by rfl, ?_⟩) (by assumption) ?_
        rotate_left
        · intro w hSw
          try dsimp only at hSw
          go_simp
          try with_reducible rfl
        try simp only [Act.put, gz1, gz2, gz3, gz4, gz5, gz6]
        refine wpAnyH_ready (rs := [11]) (by kernel_rfl) (by simp) ?_
        refine AllReadyH.cons rfl (fun K hK => ?_) AllReadyH.nil
        go_simp
        refine hK.out _ _ (by trivial) (fun _ => ?_)
        clear hK K
        try simp only [Act.put, gz1, gz2, gz3, gz4, gz5, gz6]
        refine wpAnyH_done (by kernel_rfl) ?_ _
        have HM9 : Hid (MC = (ps ++ [(Value.slice (some ⟨z, 0, none⟩) 2 2, [-A, (j : Int) + 1])]).map Prod.snd ++ (btC A (word.drop (j + 1)) (j + 1) ++ lfC f0 ws (lvs.drop (i + 1)) (i + 1))) := Lib.hid (by rw [HMB.out]; simp)
        have HL9 : Hid ((ps ++ [(Value.slice (some ⟨z, 0, none⟩) 2 2, [-A, (j : Int) + 1])]).length ≤ 100 + 12 * i + (j + 1)) := Lib.hid (by have := HPL.out; simp; omega)
        go_wp2_with fail
        go_roundg (gk - 1)
        case measure => omega
        case rel => exact ⟨j + 1, _, _, by omega, by go_num, HBF, HO9, HM9, HL9⟩
      · obtain ⟨x0, hx0⟩ : ∃ W, wr.drew = W := ⟨_, rfl⟩
        have hBX : Below wr.heap.size wr x0 := by rw [← hx0]; exact below_drew (Below.refl _ _)
        have hs0 : x0.heap.size = z := by rw [← hx0]; exact hz
        have cT : x0.cell? ⟨T, 2, none⟩ = some (.slice oa pn oc) := by rw [← hx0]; exact cT
        have cg : x0.cell? ⟨s + 1 + 1, 0, none⟩ = some (.int .i64 D) := by rw [← hx0]; exact cg
        have ck : x0.cell? ⟨s, 0, none⟩ = some (.int .i64 vars) := by rw [← hx0]; exact ck
        have cTf : ∀ o, x0.frozen? ⟨T, o, none⟩ = false := by rw [← hx0]; exact cTf
        try rw [hx0]
        clear hx0
        go_simp
        go_at_call 25
        (with_reducible refine (HNM.out _ _ cg ck (by omega)).mono ?_)
        rintro e w8 ⟨rfl, rfl⟩
        go_wp2_with fail
        refine hK.out _ _ (by trivial) (fun _ => ?_)
        clear hK K
        try simp only [Act.put, gz1, gz2, gz3, gz4, gz5, gz6]
        refine wpAnyH_take (i := 5) (v := ?_) rfl (by kernel_rfl) (by kernel_rfl) (by kernel_rfl) (fun _ _ _ h => h) (Or.inl ⟨by rfl, ?_⟩) (by assumption) ?_
        rotate_left
        · intro w hSw
          try dsimp only at hSw
          go_simp
          try with_reducible rfl
        try simp only [Act.put, gz1, gz2, gz3, gz4, gz5, gz6]
        refine wpAnyH_ready (rs := [1, 7]) (by kernel_rfl) (by simp) ?_
        refine AllReadyH.cons rfl (fun K hK => ?_) (AllReadyH.cons rfl (fun K hK => ?_) AllReadyH.nil)
        · go_simp
          refine hK.out _ _ (by trivial) (fun _ => ?_)
          clear hK K
          try simp only [Act.put, gz1, gz2, gz3, gz4, gz5, gz6]
          refine wpAnyH_ready (rs := [7]) (by kernel_rfl) (by simp) ?_
          refine AllReadyH.cons rfl (fun K hK => ?_) AllReadyH.nil
          go_simp
          obtain ⟨x1, hnew⟩ : ∃ W, x0.alloc (.cells #[.int .i64 (-A), .int .i64 ((j : Int) + 1)] 3) = W := ⟨_, rfl⟩
          have hbn : Below x0.heap.size x0 x1 := by rw [← hnew]; exact (Below.refl _ _).alloc (Nat.le_refl _) _
          have hs1 : x1.heap.size = z + 1 := by rw [← hnew, World.size_alloc, hs0]
          have q7 : x1.heap[z]? = some (.cells #[.int .i64 (-A), .int .i64 ((j : Int) + 1)] 3) := by rw [← hnew, ← hs0]; exact new_at _ _
          have cT := keep_c hbn cT
          have cg := keep_c hbn cg
          have ck := keep_c hbn ck
          have cTf := keep_f hbn (by omega) cTf
          have hBX : Below wr.heap.size wr x1 := hBX.trans (hbn.mono (by omega))
          try rw [hnew]
          clear hnew hbn
          refine hK.out _ _ (by trivial) (fun _ => ?_)
          clear hK K
          try simp only [Act.put, gz1, gz2, gz3, gz4, gz5, gz6]
          refine wpAnyH_ready (rs := [8]) (by kernel_rfl) (by simp) ?_
          refine AllReadyH.cons rfl (fun K hK => ?_) AllReadyH.nil
          go_simp
          obtain ⟨x2, hnew⟩ : ∃ W, x1.alloc (.cells #[.slice (some ⟨z, 0, none⟩) 2 2] 22) = W := ⟨_, rfl⟩
          have hbn : Below x1.heap.size x1 x2 := by rw [← hnew]; exact (Below.refl _ _).alloc (Nat.le_refl _) _
          have hs2 : x2.heap.size = z + 2 := by rw [← hnew, World.size_alloc, hs1]
          have q8 : x2.heap[z + 1]? = some (.cells #[.slice (some ⟨z, 0, none⟩) 2 2] 22) := by rw [← hnew, ← hs1]; exact new_at _ _
          have q7 := (hbn.block (z) (by omega)).trans q7
          have cT := keep_c hbn cT
          have cg := keep_c hbn cg
          have ck := keep_c hbn ck
          have cTf := keep_f hbn (by omega) cTf
          have hBX : Below wr.heap.size wr x2 := hBX.trans (hbn.mono (by omega))
          try rw [hnew]
          clear hnew hbn
          refine hK.out _ _ (by trivial) (fun _ => ?_)
          clear hK K
          try simp only [Act.put, gz1, gz2, gz3, gz4, gz5, gz6]
          refine wpAnyH_ready (rs := [9]) (by kernel_rfl) (by simp) ?_
          refine AllReadyH.cons rfl (fun K hK => ?_) AllReadyH.nil
          have hrow := own_below HOM.out.2.1.1 hBX
          rw [HPN.out] at hrow
          refine step_push1 rfl _ _ 29 rfl 22 (.slice none 0 0) 24 Tryz.underlying29 HIN.out rfl (T + 1) (.slice oa pn oc) pn (ps.map Prod.fst) (z + 1) (Value.slice (some ⟨z, 0, none⟩) 2 2) rfl rfl (cell_of q8 rfl) hrow rfl (by omega) (by omega) (by omega) ?_
          intro g9 cap9 w9 hown9 hg9 hat9
          have HI9 : Hid (∀ p ∈ ([(Value.slice (some ⟨z, 0, none⟩) 2 2, [-A, (j : Int) + 1])] : List (Value × List Int)), Ints (fun b => wr.heap.size ≤ b) x2 p.1 p.2) := Lib.hid (by
            intro p hp
            simp only [List.mem_cons, List.not_mem_nil, or_false] at hp
            subst hp
            exact (ints_block [-A, (j : Int) + 1] 2 q7 (by simp) (by simp) (by intro y hy; simp at hy; unfold I64; omega)).mono fun b hb => by have hb : b = _ := hb; omega
          )
          have HO9 := Lib.hid (HOM.out.push (rs := [(Value.slice (some ⟨z, 0, none⟩) 2 2, [-A, (j : Int) + 1])]) HPN.out hBX HI9.out hg9 hown9 hat9)
          have cT := grown_cell hg9 (fun e => by have := HOB.out _ e.symm; omega) cT
          have cg := grown_cell hg9 (fun e => by have := HOB.out _ e.symm; omega) cg
          have ck := grown_cell hg9 (fun e => by have := HOB.out _ e.symm; omega) ck
          have cTf : ∀ o, w9.frozen? ⟨T, o, none⟩ = false := fun o => grown_froz hg9 (fun e => by have := HOB.out _ e.symm; omega) (by have := hTz; omega) (cTf o)
          have HBF : Hid (Below T w5 (w9.setCell ⟨T, 2, none⟩ (.slice (some ⟨g9, 0, none⟩) (pn + 1) cap9))) := Lib.hid (((HB.out.trans (hBX.mono (by omega))).grown hg9 (by have := hBX.size; have := HB.out.size; omega) (fun b e => by have := HOB.out b e; omega)).setCell (Nat.le_refl T) _)
          clear hown9 hg9 hat9 hrow hBX
          refine hK.out _ _ (by trivial) (fun _ => ?_)
          clear hK K
          try simp only [Act.put, gz1, gz2, gz3, gz4, gz5, gz6]
          refine wpAnyH_take (i := 10) (v := ?_) rfl (by kernel_rfl) (by kernel_rfl) (by kernel_rfl) (fun _ _ _ h => h) (Or.inl ⟨by rfl, ?_⟩) (by assumption) ?_
          rotate_left
          · intro w hSw
            try dsimp only at hSw
            go_simp
            try with_reducible rfl
          try simp only [Act.put, gz1, gz2, gz3, gz4, gz5, gz6]
          refine wpAnyH_ready (rs := [11]) (by kernel_rfl) (by simp) ?_
          refine AllReadyH.cons rfl (fun K hK => ?_) AllReadyH.nil
          go_simp
          refine hK.out _ _ (by trivial) (fun _ => ?_)
          clear hK K
          try simp only [Act.put, gz1, gz2, gz3, gz4, gz5, gz6]
          refine wpAnyH_done (by kernel_rfl) ?_ _
          have HM9 : Hid (MC = (ps ++ [(Value.slice (some ⟨z, 0, none⟩) 2 2, [-A, (j : Int) + 1])]).map Prod.snd ++ (btC A (word.drop (j + 1)) (j + 1) ++ lfC f0 ws (lvs.drop (i + 1)) (i + 1))) := Lib.hid (by rw [HMB.out]; simp)
          have HL9 : Hid ((ps ++ [(Value.slice (some ⟨z, 0, none⟩) 2 2, [-A, (j : Int) + 1])]).length ≤ 100 + 12 * i + (j + 1)) := Lib.hid (by have := HPL.out; simp; omega)
          go_wp2_with fail
          go_roundg (gk - 1)
          case measure => omega
          case rel => exact ⟨j + 1, _, _, by omega, by go_num, HBF, HO9, HM9, HL9⟩
        · go_simp
          obtain ⟨x1, hnew⟩ : ∃ W, x0.alloc (.cells #[.int .i64 (-A), .int .i64 ((j : Int) + 1)] 3) = W := ⟨_, rfl⟩
          have hbn : Below x0.heap.size x0 x1 := by rw [← hnew]; exact (Below.refl _ _).alloc (Nat.le_refl _) _
          have hs1 : x1.heap.size = z + 1 := by rw [← hnew, World.size_alloc, hs0]
          have q7 : x1.heap[z]? = some (.cells #[.int .i64 (-A), .int .i64 ((j : Int) + 1)] 3) := by rw [← hnew, ← hs0]; exact new_at _ _
          have cT := keep_c hbn cT
          have cg := keep_c hbn cg
          have ck := keep_c hbn ck
          have cTf := keep_f hbn (by omega) cTf
          have hBX : Below wr.heap.size wr x1 := hBX.trans (hbn.mono (by omega))
          try rw [hnew]
          clear hnew hbn
          refine hK.out _ _ (by trivial) (fun _ => ?_)
          clear hK K
          try simp only [Act.put, gz1, gz2, gz3, gz4, gz5, gz6]
          refine wpAnyH_ready (rs := [1, 8]) (by kernel_rfl) (by simp) ?_
          refine AllReadyH.cons rfl (fun K hK => ?_) (AllReadyH.cons rfl (fun K hK => ?_) AllReadyH.nil)
          · go_simp
            refine hK.out _ _ (by trivial) (fun _ => ?_)
            clear hK K
            try simp only [Act.put, gz1, gz2, gz3, gz4, gz5, gz6]
            refine wpAnyH_ready (rs := [8]) (by kernel_rfl) (by simp) ?_
            refine AllReadyH.cons rfl (fun K hK => ?_) AllReadyH.nil
            go_simp
            obtain ⟨x2, hnew⟩ : ∃ W, x1.alloc (.cells #[.slice (some ⟨z, 0, none⟩) 2 2] 22) = W := ⟨_, rfl⟩
            have hbn : Below x1.heap.size x1 x2 := by rw [← hnew]; exact (Below.refl _ _).alloc (Nat.le_refl _) _
            have hs2 : x2.heap.size = z + 2 := by rw [← hnew, World.size_alloc, hs1]
            have q8 : x2.heap[z + 1]? = some (.cells #[.slice (some ⟨z, 0, none⟩) 2 2] 22) := by rw [← hnew, ← hs1]; exact new_at _ _
            have q7 := (hbn.block (z) (by omega)).trans q7
            have cT := keep_c hbn cT
            have cg := keep_c hbn cg
            have ck := keep_c hbn ck
            have cTf := keep_f hbn (by omega) cTf
            have hBX : Below wr.heap.size wr x2 := hBX.trans (hbn.mono (by omega))
            try rw [hnew]
            clear hnew hbn
            refine hK.out _ _ (by trivial) (fun _ => ?_)
            clear hK K
            try simp only [Act.put, gz1, gz2, gz3, gz4, gz5, gz6]
            refine wpAnyH_ready (rs := [9]) (by kernel_rfl) (by simp) ?_
            refine AllReadyH.cons rfl (fun K hK => ?_) AllReadyH.nil
            have hrow := own_below HOM.out.2.1.1 hBX
            rw [HPN.out] at hrow
            refine step_push1 rfl _ _ 29 rfl 22 (.slice none 0 0) 24 Tryz.underlying29 HIN.out rfl (T + 1) (.slice oa pn oc) pn (ps.map Prod.fst) (z + 1) (Value.slice (some ⟨z, 0, none⟩) 2 2) rfl rfl (cell_of q8 rfl) hrow rfl (by omega) (by omega) (by omega) ?_
            intro g9 cap9 w9 hown9 hg9 hat9
            have HI9 : Hid (∀ p ∈ ([(Value.slice (some ⟨z, 0, none⟩) 2 2, [-A, (j : Int) + 1])] : List (Value × List Int)), Ints (fun b => wr.heap.size ≤ b) x2 p.1 p.2) := Lib.hid (by
              intro p hp
              simp only [List.mem_cons, List.not_mem_nil, or_false] at hp
              subst hp
              exact (ints_block [-A, (j : Int) + 1] 2 q7 (by simp) (by simp) (by intro y hy; simp at hy; unfold I64; omega)).mono fun b hb => by have hb : b = _ := hb; omega
            )
            have HO9 := Lib.hid (HOM.out.push (rs := [(Value.slice (some ⟨z, 0, none⟩) 2 2, [-A, (j : Int) + 1])]) HPN.out hBX HI9.out hg9 hown9 hat9)
            have cT := grown_cell hg9 (fun e => by have := HOB.out _ e.symm; omega) cT
            have cg := grown_cell hg9 (fun e => by have := HOB.out _ e.symm; omega) cg
            have ck := grown_cell hg9 (fun e => by have := HOB.out _ e.symm; omega) ck
            have cTf : ∀ o, w9.frozen? ⟨T, o, none⟩ = false := fun o => grown_froz hg9 (fun e => by have := HOB.out _ e.symm; omega) (by have := hTz; omega) (cTf o)
            have HBF : Hid (Below T w5 (w9.setCell ⟨T, 2, none⟩ (.slice (some ⟨g9, 0, none⟩) (pn + 1) cap9))) := Lib.hid (((HB.out.trans (hBX.mono (by omega))).grown hg9 (by have := hBX.size; have := HB.out.size; omega) (fun b e => by have := HOB.out b e; omega)).setCell (Nat.le_refl T) _)
            clear hown9 hg9 hat9 hrow hBX
            refine hK.out _ _ (by trivial) (fun _ => ?_)
            clear hK K
            try simp only [Act.put, gz1, gz2, gz3, gz4, gz5, gz6]
            refine wpAnyH_take (i := 10) (v := ?_) rfl (by kernel_rfl) (by kernel_rfl) (by kernel_rfl) (fun _ _ _ h => h) (Or.inl ⟨by rfl, ?_⟩) (by assumption) ?_
            rotate_left
            · intro w hSw
              try dsimp only at hSw
              go_simp
              try with_reducible rfl
            try simp only [Act.put, gz1, gz2, gz3, gz4, gz5, gz6]
            refine wpAnyH_ready (rs := [11]) (by kernel_rfl) (by simp) ?_
            refine AllReadyH.cons rfl (fun K hK => ?_) AllReadyH.nil
            go_simp
            refine hK.out _ _ (by trivial) (fun _ => ?_)
            clear hK K
            try simp only [Act.put, gz1, gz2, gz3, gz4, gz5, gz6]
            refine wpAnyH_done (by kernel_rfl) ?_ _
            have HM9 : Hid (MC = (ps ++ [(Value.slice (some ⟨z, 0, none⟩) 2 2, [-A, (j : Int) + 1])]).map Prod.snd ++ (btC A (word.drop (j + 1)) (j + 1) ++ lfC f0 ws (lvs.drop (i + 1)) (i + 1))) := Lib.hid (by rw [HMB.out]; simp)
            have HL9 : Hid ((ps ++ [(Value.slice (some ⟨z, 0, none⟩) 2 2, [-A, (j : Int) + 1])]).length ≤ 100 + 12 * i + (j + 1)) := Lib.hid (by have := HPL.out; simp; omega)
            go_wp2_with fail
            go_roundg (gk - 1)
            case measure => omega
            case rel => exact ⟨j + 1, _, _, by omega, by go_num, HBF, HO9, HM9, HL9⟩
          · go_simp
            obtain ⟨x2, hnew⟩ : ∃ W, x1.alloc (.cells #[.slice (some ⟨z, 0, none⟩) 2 2] 22) = W := ⟨_, rfl⟩
            have hbn : Below x1.heap.size x1 x2 := by rw [← hnew]; exact (Below.refl _ _).alloc (Nat.le_refl _) _
            have hs2 : x2.heap.size = z + 2 := by rw [← hnew, World.size_alloc, hs1]
            have q8 : x2.heap[z + 1]? = some (.cells #[.slice (some ⟨z, 0, none⟩) 2 2] 22) := by rw [← hnew, ← hs1]; exact new_at _ _
            have q7 := (hbn.block (z) (by omega)).trans q7
            have cT := keep_c hbn cT
            have cg := keep_c hbn cg
            have ck := keep_c hbn ck
            have cTf := keep_f hbn (by omega) cTf
            have hBX : Below wr.heap.size wr x2 := hBX.trans (hbn.mono (by omega))
            try rw [hnew]
            clear hnew hbn
            refine hK.out _ _ (by trivial) (fun _ => ?_)
            clear hK K
            try simp only [Act.put, gz1, gz2, gz3, gz4, gz5, gz6]
            refine wpAnyH_ready (rs := [1]) (by kernel_rfl) (by simp) ?_
            refine AllReadyH.cons rfl (fun K hK => ?_) AllReadyH.nil
            go_simp
            refine hK.out _ _ (by trivial) (fun _ => ?_)
            clear hK K
            try simp only [Act.put, gz1, gz2, gz3, gz4, gz5, gz6]
            refine wpAnyH_ready (rs := [9]) (by kernel_rfl) (by simp) ?_
            refine AllReadyH.cons rfl (fun K hK => ?_) AllReadyH.nil
            have hrow := own_below HOM.out.2.1.1 hBX
            rw [HPN.out] at hrow
            refine step_push1 rfl _ _ 29 rfl 22 (.slice none 0 0) 24 Tryz.underlying29 HIN.out rfl (T + 1) (.slice oa pn oc) pn (ps.map Prod.fst) (z + 1) (Value.slice (some ⟨z, 0, none⟩) 2 2) rfl rfl (cell_of q8 rfl) hrow rfl (by omega) (by omega) (by omega) ?_
            intro g9 cap9 w9 hown9 hg9 hat9
            have HI9 : Hid (∀ p ∈ ([(Value.slice (some ⟨z, 0, none⟩) 2 2, [-A, (j : Int) + 1])] : List (Value × List Int)), Ints (fun b => wr.heap.size ≤ b) x2 p.1 p.2) := Lib.hid (by
              intro p hp
              simp only [List.mem_cons, List.not_mem_nil, or_false] at hp
              subst hp
              exact (ints_block [-A, (j : Int) + 1] 2 q7 (by simp) (by simp) (by intro y hy; simp at hy; unfold I64; omega)).mono fun b hb => by have hb : b = _ := hb; omega
            )
            have HO9 := Lib.hid (HOM.out.push (rs := [(Value.slice (some ⟨z, 0, none⟩) 2 2, [-A, (j : Int) + 1])]) HPN.out hBX HI9.out hg9 hown9 hat9)
            have cT := grown_cell hg9 (fun e => by have := HOB.out _ e.symm; omega) cT
            have cg := grown_cell hg9 (fun e => by have := HOB.out _ e.symm; omega) cg
            have ck := grown_cell hg9 (fun e => by have := HOB.out _ e.symm; omega) ck
            have cTf : ∀ o, w9.frozen? ⟨T, o, none⟩ = false := fun o => grown_froz hg9 (fun e => by have := HOB.out _ e.symm; omega) (by have := hTz; omega) (cTf o)
            have HBF : Hid (Below T w5 (w9.setCell ⟨T, 2, none⟩ (.slice (some ⟨g9, 0, none⟩) (pn + 1) cap9))) := Lib.hid (((HB.out.trans (hBX.mono (by omega))).grown hg9 (by have := hBX.size; have := HB.out.size; omega) (fun b e => by have := HOB.out b e; omega)).setCell (Nat.le_refl T) _)
            clear hown9 hg9 hat9 hrow hBX
            refine hK.out _ _ (by trivial) (fun _ => ?_)
            clear hK K
            try simp only [Act.put, gz1, gz2, gz3, gz4, gz5, gz6]
            refine wpAnyH_take (i := 10) (v := ?_) rfl (by kernel_rfl) (by kernel_rfl) (by kernel_rfl) (fun _ _ _ h => h) (Or.inl ⟨by rfl, ?_⟩) (by assumption) ?_
            rotate_left
            · intro w hSw
              try dsimp only at hSw
              go_simp
              try with_reducible rfl
            try simp only [Act.put, gz1, gz2, gz3, gz4, gz5, gz6]
            refine wpAnyH_ready (rs := [11]) (by kernel_rfl) (by simp) ?_
            refine AllReadyH.cons rfl (fun K hK => ?_) AllReadyH.nil
            go_simp
            refine hK.out _ _ (by trivial) (fun _ => ?_)
            clear hK K
            try simp only [Act.put, gz1, gz2, gz3, gz4, gz5, gz6]
            refine wpAnyH_done (by kernel_rfl) ?_ _
            have HM9 : Hid (MC = (ps ++ [(Value.slice (some ⟨z, 0, none⟩) 2 2, [-A, (j : Int) + 1])]).map Prod.snd ++ (btC A (word.drop (j + 1)) (j + 1) ++ lfC f0 ws (lvs.drop (i + 1)) (i + 1))) := Lib.hid (by rw [HMB.out]; simp)
            have HL9 : Hid ((ps ++ [(Value.slice (some ⟨z, 0, none⟩) 2 2, [-A, (j : Int) + 1])]).length ≤ 100 + 12 * i + (j + 1)) := Lib.hid (by have := HPL.out; simp; omega)
            go_wp2_with fail
            go_roundg (gk - 1)
            case measure => omega
            case rel => exact ⟨j + 1, _, _, by omega, by go_num, HBF, HO9, HM9, HL9⟩
    · have cT : wr.cell? ⟨T, 2, none⟩ = some (.slice oa pn oc) := cell_of HOM.out.1 rfl
      have cTf : ∀ o, wr.frozen? ⟨T, o, none⟩ = false := froz_of HOM.out.1
      obtain ⟨ck, _, _, _, cg⟩ := HKK.out wr HB.out
      obtain ⟨z, hz⟩ : ∃ z, wr.heap.size = z := ⟨_, rfl⟩
      have hTz : T < z := by have := HOM.out.2.2; omega
      have HOB : Hid (∀ b, (Value.slice oa pn oc).ownBlock = some b → T + 1 ≤ b ∧ b < z) := Lib.hid fun b e => by have := HOM.out.2.1.1.lt b e; omega
      go_upto_region 24 with fail
      clear uw1 uw3 hdj hdj' hj0 hjn yc e0 hd hkw0 hkw1 hdi hdi' hi0 hin
      refine wp_region_held_drew (S := fun _ => True) (by kernel_rfl) (by trivial) (fun hHeld => ?_)
      refine wpAnyH_take (i := 0) (v := ?_) rfl (by kernel_rfl) (by kernel_rfl) (by kernel_rfl) (fun _ _ _ h => h) (Or.inl ⟨by rfl, ?_⟩) (by assumption) ?_
      rotate_left
      · intro w hSw
        try dsimp only at hSw
        go_simp
        try with_reducible rfl
      try simp only [Act.put, gz1, gz2, gz3, gz4, gz5, gz6]
      refine wpAnyH_take (i := 2) (v := ?_) rfl (by kernel_rfl) (by kernel_rfl) (by kernel_rfl) (fun _ _ _ h => h) (Or.inl ⟨by rfl, ?_⟩) (by assumption) ?_
      rotate_left
      · intro w hSw
        try dsimp only at hSw
        go_simp
        try with_reducible rfl
      try simp only [Act.put, gz1, gz2, gz3, gz4, gz5, gz6]
      refine wpAnyH_take (i := 3) (v := ?_) rfl (by kernel_rfl) (by kernel_rfl) (by kernel_rfl) (fun _ _ _ h => h) (Or.inl ⟨by rfl, ?_⟩) (by assumption) ?_
      rotate_left
      · intro w hSw
        try dsimp only at hSw
        go_simp
        try with_reducible rfl
      try simp only [Act.put, gz1, gz2, gz3, gz4, gz5, gz6]
      refine wpAnyH_take (i := 6) (v := ?_) rfl (by kernel_rfl) (by kernel_rfl) (by kernel_rfl) (fun _ _ _ h => h) (Or.inl ⟨by rfl, ?_⟩) (by assumption) ?_
      rotate_left
      · intro w hSw
        try dsimp only at hSw
        go_simp
        try with_reducible rfl
      try simp only [Act.put, gz1, gz2, gz3, gz4, gz5, gz6]
      refine wpAnyH_ready (rs := [1, 4]) (by kernel_rfl) (by simp) ?_
      refine AllReadyH.cons rfl (fun K hK => ?_) (AllReadyH.cons rfl (fun K hK => ?_) AllReadyH.nil)
      · obtain ⟨x0, hx0⟩ : ∃ W, wr.drew = W := ⟨_, rfl⟩
        have hBX : Below wr.heap.size wr x0 := by rw [← hx0]; exact below_drew (Below.refl _ _)
        have hs0 : x0.heap.size = z := by rw [← hx0]; exact hz
        have cT : x0.cell? ⟨T, 2, none⟩ = some (.slice oa pn oc) := by rw [← hx0]; exact cT
        have cg : x0.cell? ⟨s + 1 + 1, 0, none⟩ = some (.int .i64 D) := by rw [← hx0]; exact cg
        have ck : x0.cell? ⟨s, 0, none⟩ = some (.int .i64 vars) := by rw [← hx0]; exact ck
        have cTf : ∀ o, x0.frozen? ⟨T, o, none⟩ = false := by rw [← hx0]; exact cTf
        try rw [hx0]
        clear hx0
        go_simp
        refine hK.out _ _ (by trivial) (fun _ => ?_)
        clear hK K
        try simp only [Act.put, gz1, gz2, gz3, gz4, gz5, gz6]
        refine wpAnyH_ready (rs := [4]) (by kernel_rfl) (by simp) ?_
        refine AllReadyH.cons rfl (fun K hK => ?_) AllReadyH.nil
        go_simp
        go_at_call 25
        (with_reducible refine (HNM.out _ _ cg ck (by omega)).mono ?_)
        rintro e w8 ⟨rfl, rfl⟩
        go_wp2_with fail
        refine hK.out _ _ (by trivial) (fun _ => ?_)
        clear hK K
        try simp only [Act.put, gz1, gz2, gz3, gz4, gz5, gz6]
        refine wpAnyH_take (i := 5) (v := ?_) rfl (by kernel_rfl) (by kernel_rfl) (by kernel_rfl) (fun _ _ _ h => h) (Or.inl ⟨by rfl, ?_⟩) (by assumption) ?_
        rotate_left
        · intro w hSw
          try dsimp only at hSw
          go_simp
          try with_reducible rfl
        try simp only [Act.put, gz1, gz2, gz3, gz4, gz5, gz6]
        refine wpAnyH_ready (rs := [7]) (by kernel_rfl) (by simp) ?_
        refine AllReadyH.cons rfl (fun K hK => ?_) AllReadyH.nil
        go_simp
        obtain ⟨x1, hnew⟩ : ∃ W, x0.alloc (.cells #[.int .i64 (-A), .int .i64 (-(j : Int) - 1)] 3) = W := ⟨_, rfl⟩
        have hbn : Below x0.heap.size x0 x1 := by rw [← hnew]; exact (Below.refl _ _).alloc (Nat.le_refl _) _
        have hs1 : x1.heap.size = z + 1 := by rw [← hnew, World.size_alloc, hs0]
        have q7 : x1.heap[z]? = some (.cells #[.int .i64 (-A), .int .i64 (-(j : Int) - 1)] 3) := by rw [← hnew, ← hs0]; exact new_at _ _
        have cT := keep_c hbn cT
        have cg := keep_c hbn cg
        have ck := keep_c hbn ck
        have cTf := keep_f hbn (by omega) cTf
        have hBX : Below wr.heap.size wr x1 := hBX.trans (hbn.mono (by omega))
        try rw [hnew]
        clear hnew hbn
        refine hK.out _ _ (by trivial) (fun _ => ?_)
        clear hK K
        try simp only [Act.put, gz1, gz2, gz3, gz4, gz5, gz6]
        refine wpAnyH_ready (rs := [8]) (by kernel_rfl) (by simp) ?_
        refine AllReadyH.cons rfl (fun K hK => ?_) AllReadyH.nil
        go_simp
        obtain ⟨x2, hnew⟩ : ∃ W, x1.alloc (.cells #[.slice (some ⟨z, 0, none⟩) 2 2] 22) = W := ⟨_, rfl⟩
        have hbn : Below x1.heap.size x1 x2 := by rw [← hnew]; exact (Below.refl _ _).alloc (Nat.le_refl _) _
        have hs2 : x2.heap.size = z + 2 := by rw [← hnew, World.size_alloc, hs1]
        have q8 : x2.heap[z + 1]? = some (.cells #[.slice (some ⟨z, 0, none⟩) 2 2] 22) := by rw [← hnew, ← hs1]; exact new_at _ _
        have q7 := (hbn.block (z) (by omega)).trans q7
        have cT := keep_c hbn cT
        have cg := keep_c hbn cg
        have ck := keep_c hbn ck
        have cTf := keep_f hbn (by omega) cTf
        have hBX : Below wr.heap.size wr x2 := hBX.trans (hbn.mono (by omega))
        try rw [hnew]
        clear hnew hbn
        refine hK.out _ _ (by trivial) (fun _ => ?_)
        clear hK K
        try simp only [Act.put, gz1, gz2, gz3, gz4, gz5, gz6]
        refine wpAnyH_ready (rs := [9]) (by kernel_rfl) (by simp) ?_
        refine AllReadyH.cons rfl (fun K hK => ?_) AllReadyH.nil
        have hrow := own_below HOM.out.2.1.1 hBX
        rw [HPN.out] at hrow
        refine step_push1 rfl _ _ 29 rfl 22 (.slice none 0 0) 24 Tryz.underlying29 HIN.out rfl (T + 1) (.slice oa pn oc) pn (ps.map Prod.fst) (z + 1) (Value.slice (some ⟨z, 0, none⟩) 2 2) rfl rfl (cell_of q8 rfl) hrow rfl (by omega) (by omega) (by omega) ?_
        intro g9 cap9 w9 hown9 hg9 hat9
        have HI9 : Hid (∀ p ∈ ([(Value.slice (some ⟨z, 0, none⟩) 2 2, [-A, -(j : Int) - 1])] : List (Value × List Int)), Ints (fun b => wr.heap.size ≤ b) x2 p.1 p.2) := Lib.hid (by
          intro p hp
          simp only [List.mem_cons, List.not_mem_nil, or_false] at hp
          subst hp
          exact (ints_block [-A, -(j : Int) - 1] 2 q7 (by simp) (by simp) (by intro y hy; simp at hy; unfold I64; omega)).mono fun b hb => by have hb : b = _ := hb; omega
        )
        have HO9 := Lib.hid (HOM.out.push (rs := [(Value.slice (some ⟨z, 0, none⟩) 2 2, [-A, -(j : Int) - 1])]) HPN.out hBX HI9.out hg9 hown9 hat9)
        have cT := grown_cell hg9 (fun e => by have := HOB.out _ e.symm; omega) cT
        have cg := grown_cell hg9 (fun e => by have := HOB.out _ e.symm; omega) cg
        have ck := grown_cell hg9 (fun e => by have := HOB.out _ e.symm; omega) ck
        have cTf : ∀ o, w9.frozen? ⟨T, o, none⟩ = false := fun o => grown_froz hg9 (fun e => by have := HOB.out _ e.symm; omega) (by have := hTz; omega) (cTf o)
        have HBF : Hid (Below T w5 (w9.setCell ⟨T, 2, none⟩ (.slice (some ⟨g9, 0, none⟩) (pn + 1) cap9))) := Lib.hid (((HB.out.trans (hBX.mono (by omega))).grown hg9 (by have := hBX.size; have := HB.out.size; omega) (fun b e => by have := HOB.out b e; omega)).setCell (Nat.le_refl T) _)
        clear hown9 hg9 hat9 hrow hBX
        refine hK.out _ _ (by trivial) (fun _ => ?_)
        clear hK K
        try simp only [Act.put, gz1, gz2, gz3, gz4, gz5, gz6]
        refine wpAnyH_take (i := 10) (v := ?_) rfl (by kernel_rfl) (by kernel_rfl) (by kernel_rfl) (fun _ _ _ h => h) (Or.inl ⟨by rfl, ?_⟩) (by assumption) ?_
        rotate_left
        · intro w hSw
          try dsimp only at hSw
          go_simp
          try with_reducible rfl
        try simp only [Act.put, gz1, gz2, gz3, gz4, gz5, gz6]
        refine wpAnyH_ready (rs := [11]) (by kernel_rfl) (by simp) ?_
        refine AllReadyH.cons rfl (fun K hK => ?_) AllReadyH.nil
        go_simp
        refine hK.out _ _ (by trivial) (fun _ => ?_)
        clear hK K
        try simp only [Act.put, gz1, gz2, gz3, gz4, gz5, gz6]
        refine wpAnyH_done (by kernel_rfl) ?_ _
        have HM9 : Hid (MC = (ps ++ [(Value.slice (some ⟨z, 0, none⟩) 2 2, [-A, -(j : Int) - 1])]).map Prod.snd ++ (btC A (word.drop (j + 1)) (j + 1) ++ lfC f0 ws (lvs.drop (i + 1)) (i + 1))) := Lib.hid (by rw [HMB.out]; simp)
        have HL9 : Hid ((ps ++ [(Value.slice (some ⟨z, 0, none⟩) 2 2, [-A, -(j : Int) - 1])]).length ≤ 100 + 12 * i + (j + 1)) := Lib.hid (by have := HPL.out; simp; omega)
        go_wp2_with fail
        go_roundg (gk - 1)
        case measure => omega
        case rel => exact ⟨j + 1, _, _, by omega, by go_num, HBF, HO9, HM9, HL9⟩
      · obtain ⟨x0, hx0⟩ : ∃ W, wr.drew = W := ⟨_, rfl⟩
        have hBX : Below wr.heap.size wr x0 := by rw [← hx0]; exact below_drew (Below.refl _ _)
        have hs0 : x0.heap.size = z := by rw [← hx0]; exact hz
        have cT : x0.cell? ⟨T, 2, none⟩ = some (.slice oa pn oc) := by rw [← hx0]; exact cT
        have cg : x0.cell? ⟨s + 1 + 1, 0, none⟩ = some (.int .i64 D) := by rw [← hx0]; exact cg
        have ck : x0.cell? ⟨s, 0, none⟩ = some (.int .i64 vars) := by rw [← hx0]; exact ck
        have cTf : ∀ o, x0.frozen? ⟨T, o, none⟩ = false := by rw [← hx0]; exact cTf
        try rw [hx0]
        clear hx0
        go_simp
        go_at_call 25
        (with_reducible refine (HNM.out _ _ cg ck (by omega)).mono ?_)
        rintro e w8 ⟨rfl, rfl⟩
        go_wp2_with fail
        refine hK.out _ _ (by trivial) (fun _ => ?_)
        clear hK K
        try simp only [Act.put, gz1, gz2, gz3, gz4, gz5, gz6]
        refine wpAnyH_take (i := 5) (v := ?_) rfl (by kernel_rfl) (by kernel_rfl) (by kernel_rfl) (fun _ _ _ h => h) (Or.inl ⟨by rfl, ?_⟩) (by assumption) ?_
        rotate_left
        · intro w hSw
          try dsimp only at hSw
          go_simp
          try with_reducible rfl
        try simp only [Act.put, gz1, gz2, gz3, gz4, gz5, gz6]
        refine wpAnyH_ready (rs := [1, 7]) (by kernel_rfl) (by simp) ?_
        refine AllReadyH.cons rfl (fun K hK => ?_) (AllReadyH.cons rfl (fun K hK => ?_) AllReadyH.nil)
        · go_simp
          refine hK.out _ _ (by trivial) (fun _ => ?_)
          clear hK K
          try simp only [Act.put, gz1, gz2, gz3, gz4, gz5, gz6]
          refine wpAnyH_ready (rs := [7]) (by kernel_rfl) (by simp) ?_
          refine AllReadyH.cons rfl (fun K hK => ?_) AllReadyH.nil
          go_simp
          obtain ⟨x1, hnew⟩ : ∃ W, x0.alloc (.cells #[.int .i64 (-A), .int .i64 (-(j : Int) - 1)] 3) = W := ⟨_, rfl⟩
          have hbn : Below x0.heap.size x0 x1 := by rw [← hnew]; exact (Below.refl _ _).alloc (Nat.le_refl _) _
          have hs1 : x1.heap.size = z + 1 := by rw [← hnew, World.size_alloc, hs0]
          have q7 : x1.heap[z]? = some (.cells #[.int .i64 (-A), .int .i64 (-(j : Int) - 1)] 3) := by rw [← hnew, ← hs0]; exact new_at _ _
          have cT := keep_c hbn cT
          have cg := keep_c hbn cg
          have ck := keep_c hbn ck
          have cTf := keep_f hbn (by omega) cTf
          have hBX : Below wr.heap.size wr x1 := hBX.trans (hbn.mono (by omega))
          try rw [hnew]
          clear hnew hbn
          refine hK.out _ _ (by trivial) (fun _ => ?_)
          clear hK K
          try simp only [Act.put, gz1, gz2, gz3, gz4, gz5, gz6]
          refine wpAnyH_ready (rs := [8]) (by kernel_rfl) (by simp) ?_
          refine AllReadyH.cons rfl (fun K hK => ?_) AllReadyH.nil
          go_simp
          obtain ⟨x2, hnew⟩ : ∃ W, x1.alloc (.cells #[.slice (some ⟨z, 0, none⟩) 2 2] 22) = W := ⟨_, rfl⟩
          have hbn : Below x1.heap.size x1 x2 := by rw [← hnew]; exact (Below.refl _ _).alloc (Nat.le_refl _) _
          have hs2 : x2.heap.size = z + 2 := by rw [← hnew, World.size_alloc, hs1]
          have q8 : x2.heap[z + 1]? = some (.cells #[.slice (some ⟨z, 0, none⟩) 2 2] 22) := by rw [← hnew, ← hs1]; exact new_at _ _
          have q7 := (hbn.block (z) (by omega)).trans q7
          have cT := keep_c hbn cT
          have cg := keep_c hbn cg
          have ck := keep_c hbn ck
          have cTf := keep_f hbn (by omega) cTf
          have hBX : Below wr.heap.size wr x2 := hBX.trans (hbn.mono (by omega))
          try rw [hnew]
          clear hnew hbn
          refine hK.out _ _ (by trivial) (fun _ => ?_)
          clear hK K
          try simp only [Act.put, gz1, gz2, gz3, gz4, gz5, gz6]
          refine wpAnyH_ready (rs := [9]) (by kernel_rfl) (by simp) ?_
          refine AllReadyH.cons rfl (fun K hK => ?_) AllReadyH.nil
          have hrow := own_below HOM.out.2.1.1 hBX
          rw [HPN.out] at hrow
          refine step_push1 rfl _ _ 29 rfl 22 (.slice none 0 0) 24 Tryz.underlying29 HIN.out rfl (T + 1) (.slice oa pn oc) pn (ps.map Prod.fst) (z + 1) (Value.slice (some ⟨z, 0, none⟩) 2 2) rfl rfl (cell_of q8 rfl) hrow rfl (by omega) (by omega) (by omega) ?_
          intro g9 cap9 w9 hown9 hg9 hat9
          have HI9 : Hid (∀ p ∈ ([(Value.slice (some ⟨z, 0, none⟩) 2 2, [-A, -(j : Int) - 1])] : List (Value × List Int)), Ints (fun b => wr.heap.size ≤ b) x2 p.1 p.2) := Lib.hid (by
            intro p hp
            simp only [List.mem_cons, List.not_mem_nil, or_false] at hp
            subst hp
            exact (ints_block [-A, -(j : Int) - 1] 2 q7 (by simp) (by simp) (by intro y hy; simp at hy; unfold I64; omega)).mono fun b hb => by have hb : b = _ := hb; omega
          )
          have HO9 := Lib.hid (HOM.out.push (rs := [(Value.slice (some ⟨z, 0, none⟩) 2 2, [-A, -(j : Int) - 1])]) HPN.out hBX HI9.out hg9 hown9 hat9)
          have cT := grown_cell hg9 (fun e => by have := HOB.out _ e.symm; omega) cT
          have cg := grown_cell hg9 (fun e => by have := HOB.out _ e.symm; omega) cg
          have ck := grown_cell hg9 (fun e => by have := HOB.out _ e.symm; omega) ck
          have cTf : ∀ o, w9.frozen? ⟨T, o, none⟩ = false := fun o => grown_froz hg9 (fun e => by have := HOB.out _ e.symm; omega) (by have := hTz; omega) (cTf o)
          have HBF : Hid (Below T w5 (w9.setCell ⟨T, 2, none⟩ (.slice (some ⟨g9, 0, none⟩) (pn + 1) cap9))) := Lib.hid (((HB.out.trans (hBX.mono (by omega))).grown hg9 (by have := hBX.size; have := HB.out.size; omega) (fun b e => by have := HOB.out b e; omega)).setCell (Nat.le_refl T) _)
          clear hown9 hg9 hat9 hrow hBX
          refine hK.out _ _ (by trivial) (fun _ => ?_)
          clear hK K
          try simp only [Act.put, gz1, gz2, gz3, gz4, gz5, gz6]
          refine wpAnyH_take (i := 10) (v := ?_) rfl (by kernel_rfl) (by kernel_rfl) (by kernel_rfl) (fun _ _ _ h => h) (Or.inl ⟨by rfl, ?_⟩) (by assumption) ?_
          rotate_left
          · intro w hSw
            try dsimp only at hSw
            go_simp
            try with_reducible rfl
          try simp only [Act.put, gz1, gz2, gz3, gz4, gz5, gz6]
          refine wpAnyH_ready (rs := [11]) (by kernel_rfl) (by simp) ?_
          refine AllReadyH.cons rfl (fun K hK => ?_) AllReadyH.nil
          go_simp
          refine hK.out _ _ (by trivial) (fun _ => ?_)
          clear hK K
          try simp only [Act.put, gz1, gz2, gz3, gz4, gz5, gz6]
          refine wpAnyH_done (by kernel_rfl) ?_ _
          have HM9 : Hid (MC = (ps ++ [(Value.slice (some ⟨z, 0, none⟩) 2 2, [-A, -(j : Int) - 1])]).map Prod.snd ++ (btC A (word.drop (j + 1)) (j + 1) ++ lfC f0 ws (lvs.drop (i + 1)) (i + 1))) := Lib.hid (by rw [HMB.out]; simp)
          have HL9 : Hid ((ps ++ [(Value.slice (some ⟨z, 0, none⟩) 2 2, [-A, -(j : Int) - 1])]).length ≤ 100 + 12 * i + (j + 1)) := Lib.hid (by have := HPL.out; simp; omega)
          go_wp2_with fail
          go_roundg (gk - 1)
          case measure => omega
          case rel => exact ⟨j + 1, _, _, by omega, by go_num, HBF, HO9, HM9, HL9⟩
        · go_simp
          obtain ⟨x1, hnew⟩ : ∃ W, x0.alloc (.cells #[.int .i64 (-A), .int .i64 (-(j : Int) - 1)] 3) = W := ⟨_, rfl⟩
          have hbn : Below x0.heap.size x0 x1 := by rw [← hnew]; exact (Below.refl _ _).alloc (Nat.le_refl _) _
          have hs1 : x1.heap.size = z + 1 := by rw [← hnew, World.size_alloc, hs0]
          have q7 : x1.heap[z]? = some (.cells #[.int .i64 (-A), .int .i64 (-(j : Int) - 1)] 3) := by rw [← hnew, ← hs0]; exact new_at _ _
          have cT := keep_c hbn cT
          have cg := keep_c hbn cg
          have ck := keep_c hbn ck
          have cTf := keep_f hbn (by omega) cTf
          have hBX : Below wr.heap.size wr x1 := hBX.trans (hbn.mono (by omega))
          try rw [hnew]
          clear hnew hbn
          refine hK.out _ _ (by trivial) (fun _ => ?_)
          clear hK K
          try simp only [Act.put, gz1, gz2, gz3, gz4, gz5, gz6]
          refine wpAnyH_ready (rs := [1, 8]) (by kernel_rfl) (by simp) ?_
          refine AllReadyH.cons rfl (fun K hK => ?_) (AllReadyH.cons rfl (fun K hK => ?_) AllReadyH.nil)
          · go_simp
            refine hK.out _ _ (by trivial) (fun _ => ?_)
            clear hK K
            try simp only [Act.put, gz1, gz2, gz3, gz4, gz5, gz6]
            refine wpAnyH_ready (rs := [8]) (by kernel_rfl) (by simp) ?_
            refine AllReadyH.cons rfl (fun K hK => ?_) AllReadyH.nil
            go_simp
            obtain ⟨x2, hnew⟩ : ∃ W, x1.alloc (.cells #[.slice (some ⟨z, 0, none⟩) 2 2] 22) = W := ⟨_, rfl⟩
            have hbn : Below x1.heap.size x1 x2 := by rw [← hnew]; exact (Below.refl _ _).alloc (Nat.le_refl _) _
            have hs2 : x2.heap.size = z + 2 := by rw [← hnew, World.size_alloc, hs1]
            have q8 : x2.heap[z + 1]? = some (.cells #[.slice (some ⟨z, 0, none⟩) 2 2] 22) := by rw [← hnew, ← hs1]; exact new_at _ _
            have q7 := (hbn.block (z) (by omega)).trans q7
            have cT := keep_c hbn cT
            have cg := keep_c hbn cg
            have ck := keep_c hbn ck
            have cTf := keep_f hbn (by omega) cTf
            have hBX : Below wr.heap.size wr x2 := hBX.trans (hbn.mono (by omega))
            try rw [hnew]
            clear hnew hbn
            refine hK.out _ _ (by trivial) (fun _ => ?_)
            clear hK K
            try simp only [Act.put, gz1, gz2, gz3, gz4, gz5, gz6]
            refine wpAnyH_ready (rs := [9]) (by kernel_rfl) (by simp) ?_
            refine AllReadyH.cons rfl (fun K hK => ?_) AllReadyH.nil
            have hrow := own_below HOM.out.2.1.1 hBX
            rw [HPN.out] at hrow
            refine step_push1 rfl _ _ 29 rfl 22 (.slice none 0 0) 24 Tryz.underlying29 HIN.out rfl (T + 1) (.slice oa pn oc) pn (ps.map Prod.fst) (z + 1) (Value.slice (some ⟨z, 0, none⟩) 2 2) rfl rfl (cell_of q8 rfl) hrow rfl (by omega) (by omega) (by omega) ?_
            intro g9 cap9 w9 hown9 hg9 hat9
            have HI9 : Hid (∀ p ∈ ([(Value.slice (some ⟨z, 0, none⟩) 2 2, [-A, -(j : Int) - 1])] : List (Value × List Int)), Ints (fun b => wr.heap.size ≤ b) x2 p.1 p.2) := Lib.hid (by
              intro p hp
              simp only [List.mem_cons, List.not_mem_nil, or_false] at hp
              subst hp
              exact (ints_block [-A, -(j : Int) - 1] 2 q7 (by simp) (by simp) (by intro y hy; simp at hy; unfold I64; omega)).mono fun b hb => by have hb : b = _ := hb; omega
            )
            have HO9 := Lib.hid (HOM.out.push (rs := [(Value.slice (some ⟨z, 0, none⟩) 2 2, [-A, -(j : Int) - 1])]) HPN.out hBX HI9.out hg9 hown9 hat9)
            have cT := grown_cell hg9 (fun e => by have := HOB.out _ e.symm; omega) cT
            have cg := grown_cell hg9 (fun e => by have := HOB.out _ e.symm; omega) cg
            have ck := grown_cell hg9 (fun e => by have := HOB.out _ e.symm; omega) ck
            have cTf : ∀ o, w9.frozen? ⟨T, o, none⟩ = false := fun o => grown_froz hg9 (fun e => by have := HOB.out _ e.symm; omega) (by have := hTz; omega) (cTf o)
            have HBF : Hid (Below T w5 (w9.setCell ⟨T, 2, none⟩ (.slice (some ⟨g9, 0, none⟩) (pn + 1) cap9))) := Lib.hid (((HB.out.trans (hBX.mono (by omega))).grown hg9 (by have := hBX.size; have := HB.out.size; omega) (fun b e => by have := HOB.out b e; omega)).setCell (Nat.le_refl T) _)
            clear hown9 hg9 hat9 hrow hBX
            refine hK.out _ _ (by trivial) (fun _ => ?_)
            clear hK K
            try simp only [Act.put, gz1, gz2, gz3, gz4, gz5, gz6]
            refine wpAnyH_take (i := 10) (v := ?_) rfl (by kernel_rfl) (by kernel_rfl) (by kernel_rfl) (fun _ _ _ h => h) (Or.inl ⟨by rfl, ?_⟩) (by assumption) ?_
            rotate_left
            · intro w hSw
              try dsimp only at hSw
              go_simp
              try with_reducible rfl
            try simp only [Act.put, gz1, gz2, gz3, gz4, gz5, gz6]
            refine wpAnyH_ready (rs := [11]) (by kernel_rfl) (by simp) ?_
            refine AllReadyH.cons rfl (fun K hK => ?_) AllReadyH.nil
            go_simp
            refine hK.out _ _ (by trivial) (fun _ => ?_)
            clear hK K
            try simp only [Act.put, gz1, gz2, gz3, gz4, gz5, gz6]
            refine wpAnyH_done (by kernel_rfl) ?_ _
            have HM9 : Hid (MC = (ps ++ [(Value.slice (some ⟨z, 0, none⟩) 2 2, [-A, -(j : Int) - 1])]).map Prod.snd ++ (btC A (word.drop (j + 1)) (j + 1) ++ lfC f0 ws (lvs.drop (i + 1)) (i + 1))) := Lib.hid (by rw [HMB.out]; simp)
            have HL9 : Hid ((ps ++ [(Value.slice (some ⟨z, 0, none⟩) 2 2, [-A, -(j : Int) - 1])]).length ≤ 100 + 12 * i + (j + 1)) := Lib.hid (by have := HPL.out; simp; omega)
            go_wp2_with fail
            go_roundg (gk - 1)
            case measure => omega
            case rel => exact ⟨j + 1, _, _, by omega, by go_num, HBF, HO9, HM9, HL9⟩
          · go_simp
            obtain ⟨x2, hnew⟩ : ∃ W, x1.alloc (.cells #[.slice (some ⟨z, 0, none⟩) 2 2] 22) = W := ⟨_, rfl⟩
            have hbn : Below x1.heap.size x1 x2 := by rw [← hnew]; exact (Below.refl _ _).alloc (Nat.le_refl _) _
            have hs2 : x2.heap.size = z + 2 := by rw [← hnew, World.size_alloc, hs1]
            have q8 : x2.heap[z + 1]? = some (.cells #[.slice (some ⟨z, 0, none⟩) 2 2] 22) := by rw [← hnew, ← hs1]; exact new_at _ _
            have q7 := (hbn.block (z) (by omega)).trans q7
            have cT := keep_c hbn cT
            have cg := keep_c hbn cg
            have ck := keep_c hbn ck
            have cTf := keep_f hbn (by omega) cTf
            have hBX : Below wr.heap.size wr x2 := hBX.trans (hbn.mono (by omega))
            try rw [hnew]
            clear hnew hbn
            refine hK.out _ _ (by trivial) (fun _ => ?_)
            clear hK K
            try simp only [Act.put, gz1, gz2, gz3, gz4, gz5, gz6]
            refine wpAnyH_ready (rs := [1]) (by kernel_rfl) (by simp) ?_
            refine AllReadyH.cons rfl (fun K hK => ?_) AllReadyH.nil
            go_simp
            refine hK.out _ _ (by trivial) (fun _ => ?_)
            clear hK K
            try simp only [Act.put, gz1, gz2, gz3, gz4, gz5, gz6]
            refine wpAnyH_ready (rs := [9]) (by kernel_rfl) (by simp) ?_
            refine AllReadyH.cons rfl (fun K hK => ?_) AllReadyH.nil
            have hrow := own_below HOM.out.2.1.1 hBX
            rw [HPN.out] at hrow
            refine step_push1 rfl _ _ 29 rfl 22 (.slice none 0 0) 24 Tryz.underlying29 HIN.out rfl (T + 1) (.slice oa pn oc) pn (ps.map Prod.fst) (z + 1) (Value.slice (some ⟨z, 0, none⟩) 2 2) rfl rfl (cell_of q8 rfl) hrow rfl (by omega) (by omega) (by omega) ?_
            intro g9 cap9 w9 hown9 hg9 hat9
            have HI9 : Hid (∀ p ∈ ([(Value.slice (some ⟨z, 0, none⟩) 2 2, [-A, -(j : Int) - 1])] : List (Value × List Int)), Ints (fun b => wr.heap.size ≤ b) x2 p.1 p.2) := Lib.hid (by
              intro p hp
              simp only [List.mem_cons, List.not_mem_nil, or_false] at hp
              subst hp
              exact (ints_block [-A, -(j : Int) - 1] 2 q7 (by simp) (by simp) (by intro y hy; simp at hy; unfold I64; omega)).mono fun b hb => by have hb : b = _ := hb; omega
            )
            have HO9 := Lib.hid (HOM.out.push (rs := [(Value.slice (some ⟨z, 0, none⟩) 2 2, [-A, -(j : Int) - 1])]) HPN.out hBX HI9.out hg9 hown9 hat9)
            have cT := grown_cell hg9 (fun e => by have := HOB.out _ e.symm; omega) cT
            have cg := grown_cell hg9 (fun e => by have := HOB.out _ e.symm; omega) cg
            have ck := grown_cell hg9 (fun e => by have := HOB.out _ e.symm; omega) ck
            have cTf : ∀ o, w9.frozen? ⟨T, o, none⟩ = false := fun o => grown_froz hg9 (fun e => by have := HOB.out _ e.symm; omega) (by have := hTz; omega) (cTf o)
            have HBF : Hid (Below T w5 (w9.setCell ⟨T, 2, none⟩ (.slice (some ⟨g9, 0, none⟩) (pn + 1) cap9))) := Lib.hid (((HB.out.trans (hBX.mono (by omega))).grown hg9 (by have := hBX.size; have := HB.out.size; omega) (fun b e => by have := HOB.out b e; omega)).setCell (Nat.le_refl T) _)
            clear hown9 hg9 hat9 hrow hBX
            refine hK.out _ _ (by trivial) (fun _ => ?_)
            clear hK K
            try simp only [Act.put, gz1, gz2, gz3, gz4, gz5, gz6]
            refine wpAnyH_take (i := 10) (v := ?_) rfl (by kernel_rfl) (by kernel_rfl) (by kernel_rfl) (fun _ _ _ h => h) (Or.inl ⟨by rfl, ?_⟩) (by assumption) ?_
            rotate_left
            · intro w hSw
              try dsimp only at hSw
              go_simp
              try with_reducible rfl
            try simp only [Act.put, gz1, gz2, gz3, gz4, gz5, gz6]
            refine wpAnyH_ready (rs := [11]) (by kernel_rfl) (by simp) ?_
            refine AllReadyH.cons rfl (fun K hK => ?_) AllReadyH.nil
            go_simp
            refine hK.out _ _ (by trivial) (fun _ => ?_)
            clear hK K
            try simp only [Act.put, gz1, gz2, gz3, gz4, gz5, gz6]
            refine wpAnyH_done (by kernel_rfl) ?_ _
            have HM9 : Hid (MC = (ps ++ [(Value.slice (some ⟨z, 0, none⟩) 2 2, [-A, -(j : Int) - 1])]).map Prod.snd ++ (btC A (word.drop (j + 1)) (j + 1) ++ lfC f0 ws (lvs.drop (i + 1)) (i + 1))) := Lib.hid (by rw [HMB.out]; simp)
            have HL9 : Hid ((ps ++ [(Value.slice (some ⟨z, 0, none⟩) 2 2, [-A, -(j : Int) - 1])]).length ≤ 100 + 12 * i + (j + 1)) := Lib.hid (by have := HPL.out; simp; omega)
            go_wp2_with fail
            go_roundg (gk - 1)
            case measure => omega
            case rel => exact ⟨j + 1, _, _, by omega, by go_num, HBF, HO9, HM9, HL9⟩
  have hdq : decide ((q : Int) < nl) = true := by simp; omega
  have hdq' : decide (q < nl) = true := decide_eq_true hq
  have hq0 : (0 : Int) ≤ q := by omega
  have hqn : (q : Int) < nl := by omega
  obtain ⟨f, hf, ed⟩ := drop_at (xs := ns) (k := q) (by have := HNL.out; omega)
  obtain ⟨fb, fo, rfl, _, hfb, c0, c1, c2, hfo⟩ := (HDD.out wr HB.out).2.1.at hf
  obtain ⟨n1', n2', n3', n4', _, _, n7', _, _⟩ := HMT.out.2.2.2.2.2.1 q f hf
  have hfv := (FrmP.dia (root := root) (vars := vars) ⟨by omega, by omega⟩ HMT.out.2.2.1 HMT.out.2.2.2.1 HMT.out.2.2.2.2.1 HMT.out.2.2.2.2.2.1).vr f (List.mem_of_getElem? hf)
  obtain ⟨fv, flo, fhi⟩ := f
  simp only at c0 c1 c2 n1' n2' n3' n4' n7' hfv
  rw [← HLL.out] at n2' n4'
  obtain ⟨zf, hzf⟩ : ∃ z, wr.heap.size = z := ⟨_, rfl⟩
  obtain ⟨w7, hw7⟩ : ∃ W, wr.alloc (.cells #[.int .i64 fv, .int .i64 flo, .int .i64 fhi] 49) = W := ⟨_, rfl⟩
  have hb7 : Below wr.heap.size wr w7 := by rw [← hw7]; exact (Below.refl _ _).alloc (Nat.le_refl _) _
  have hTw : T + 1 ≤ zf := by have := HOM.out.2.2; omega
  have g0 : w7.cell? ⟨zf, 0, none⟩ = some (.int .i64 fv) := by rw [← hw7, ← hzf]; exact cell_of (new_at _ _) rfl
  have g1 : w7.cell? ⟨zf, 1, none⟩ = some (.int .i64 flo) := by rw [← hw7, ← hzf]; exact cell_of (new_at _ _) rfl
  have g2 : w7.cell? ⟨zf, 2, none⟩ = some (.int .i64 fhi) := by rw [← hw7, ← hzf]; exact cell_of (new_at _ _) rfl
  have hs7 : w7.heap.size = zf + 1 := by rw [← hw7, World.size_alloc, hzf]
  have HB7 : Hid (Below T w5 w7) := Lib.hid (HB.out.trans (hb7.mono (by omega)))
  have HW7 : Hid (OmS T V D w7 lv ps) := Lib.hid (HOM.out.below hb7)
  have HOZ : Hid (∀ k, lv.ownBlock = some k → k < zf) := Lib.hid fun k e => by have := (HOM.out.2.1.1.lt k e).2; omega
  obtain ⟨y0, y1, y2, y3, yg⟩ := HKK.out w7 HB7.out
  obtain ⟨A, hA⟩ : ∃ a, f0 + (ll : Int) + (q : Int) = a := ⟨_, rfl⟩
  obtain ⟨X, hX⟩ : ∃ x, (D : Int) + fv + 1 = x := ⟨_, rfl⟩
  have hAr : 1 ≤ A ∧ A ≤ 200 := by omega
  have hXr : 1 ≤ X ∧ X ≤ 200 := by omega
  have HMQ : Hid (MC = ps.map Prod.snd ++ [[-A, -X, f0 + fhi]] ++ [[-A, X, f0 + flo]] ++ (ndC f0 D ll (ns.drop (q + 1)) (q + 1) ++ lfC f0 ws lvs 0)) := Lib.hid (by rw [HM.out, ed, ndC, hA, hX]; simp)
  have uw2 : IntKind.i64.wrap ((ll : Int) + q) = ll + q := IntWalk.i64_in _ ⟨by omega, by omega⟩
  have uw3 : IntKind.i64.wrap ((D : Int) + fv) = D + fv := IntWalk.i64_in _ ⟨by omega, by omega⟩
  have uw4 : IntKind.i64.wrap ((D : Int) + fv + 1) = X := by rw [hX]; exact IntWalk.i64_in _ ⟨by omega, by omega⟩
  have uw5 : IntKind.i64.wrap (-A) = -A := IntWalk.i64_in _ ⟨by omega, by omega⟩
  have uw6 : IntKind.i64.wrap (-X) = -X := IntWalk.i64_in _ ⟨by omega, by omega⟩
  have hlr : 0 ≤ flo ∧ flo ≤ 80 := ⟨n1', by omega⟩
  have hhr : 0 ≤ fhi ∧ fhi ≤ 80 := ⟨n3', by omega⟩
  have HAN : Hid (∀ n, Calls Tryz.prog 25 #[.int .i64 ((ll : Int) + q), .pointer (some ⟨s + 1 + 1, 0, none⟩), .pointer (some ⟨s, 0, none⟩)] (w7.drewN n) fun e w' => e = .returned (.int .i64 A) ∧ w' = w7.drewN n) := Lib.hid fun n => (HNM.out (w7.drewN n) ((ll : Int) + q) yg y0 ⟨by omega, by omega⟩).mono (by rintro e w' ⟨rfl, rfl⟩; exact ⟨by rw [← hA, Int.add_assoc], rfl⟩)
  have HW7e := Lib.hid hw7
  have HZ := Lib.hid hzf
  clear hf ed hfo n1' n2' n3' n4' n7' hfv hw7 hb7 hzf hA hX HM HOM HB k0 k1 k2 k3 kg
  go_upto_region 10 with fail
  rw [HZ.out, HW7e.out]
  go_quiet ((go_at_call 25; exact Calls.quiet_of_same (HAN.out _)))
  obtain ⟨w8, hw8⟩ : ∃ W, w7.drewN nq = W := ⟨_, rfl⟩
  have hb8 : Below w7.heap.size w7 w8 := by rw [← hw8]; exact below_drewN (Below.refl _ _) _
  have hs8 : w8.heap.size = zf + 1 := by rw [← hw8]; exact hs7
  have HB : Hid (Below T w5 w8) := Lib.hid (HB7.out.trans (hb8.mono (by omega)))
  have HOM : Hid (OmS T V D w8 lv ps) := Lib.hid (HW7.out.below hb8)
  have g1 := below_c hb8 (block_lt g1) g1
  have g2 := below_c hb8 (block_lt g2) g2
  have HW8e := Lib.hid hw8
  rw [hw8]
  clear hw8 hb8 g0 y0 y1 y2 y3 yg c0 c1 c2 HW7 HB7 HAN
  obtain ⟨oa, oc, hoc⟩ := own_form HOM.out.2.1.1
  obtain ⟨pn, hpn⟩ : ∃ n, ps.length = n := ⟨_, rfl⟩
  rw [hpn] at hoc
  subst hoc
  have HPN := Lib.hid hpn
  have hpl : pn ≤ 100000 := by have := HPL.out; omega
  clear hpn
  have cT : w8.cell? ⟨T, 2, none⟩ = some (.slice oa pn oc) := cell_of HOM.out.1 rfl
  have cTf : ∀ o, w8.frozen? ⟨T, o, none⟩ = false := froz_of HOM.out.1
  obtain ⟨ck, _, _, _, cg⟩ := HKK.out w8 HB.out
  obtain ⟨z, hz⟩ : ∃ z, w8.heap.size = z := ⟨_, rfl⟩
  have hTz : T < z := by have := HOM.out.2.2; omega
  have HOB : Hid (∀ b, (Value.slice oa pn oc).ownBlock = some b → T + 1 ≤ b ∧ b < z) := Lib.hid fun b e => by have := HOM.out.2.1.1.lt b e; omega
  go_upto_region 11 with fail
  clear uw2 uw3 uw4
  refine wp_region_held_drew (S := fun w' => w'.cell? ⟨zf, 1, none⟩ = some (.int .i64 flo) ∧ w'.cell? ⟨zf, 2, none⟩ = some (.int .i64 fhi)) (by kernel_rfl) (by exact ⟨g1, g2⟩) (fun hHeld => ?_)
  refine wpAnyH_take (i := 0) (v := ?_) rfl (by kernel_rfl) (by kernel_rfl) (by kernel_rfl) (fun _ _ _ h => h) (Or.inl ⟨by rfl, ?_⟩) (by assumption) ?_
  rotate_left
  · intro w hSw
    try dsimp only at hSw
    go_simp
    try with_reducible rfl
  try simp only [Act.put, gz1, gz2, gz3, gz4, gz5, gz6]
  refine wpAnyH_take (i := 2) (v := ?_) rfl (by kernel_rfl) (by kernel_rfl) (by kernel_rfl) (fun _ _ _ h => h) (Or.inl ⟨by rfl, ?_⟩) (by assumption) ?_
  rotate_left
  · intro w hSw
    try dsimp only at hSw
    go_simp
    try with_reducible rfl
  try simp only [Act.put, gz1, gz2, gz3, gz4, gz5, gz6]
  refine wpAnyH_take (i := 3) (v := ?_) rfl (by kernel_rfl) (by kernel_rfl) (by kernel_rfl) (fun _ _ _ h => h) (Or.inl ⟨by rfl, ?_⟩) (by assumption) ?_
  rotate_left
  · intro w hSw
    try dsimp only at hSw
    go_simp
    try with_reducible rfl
  try simp only [Act.put, gz1, gz2, gz3, gz4, gz5, gz6]
  refine wpAnyH_take (i := 4) (v := ?_) rfl (by kernel_rfl) (by kernel_rfl) (by kernel_rfl) (fun _ _ _ h => h) (Or.inl ⟨by rfl, ?_⟩) (by assumption) ?_
  rotate_left
  · intro w hSw
    try dsimp only at hSw
    go_simp
    try with_reducible rfl
  try simp only [Act.put, gz1, gz2, gz3, gz4, gz5, gz6]
  refine wpAnyH_take (i := 5) (v := ?_) rfl (by kernel_rfl) (by kernel_rfl) (by kernel_rfl) (fun _ _ _ h => h) (Or.inl ⟨by rfl, ?_⟩) (by assumption) ?_
  rotate_left
  · intro w hSw
    try dsimp only at hSw
    go_simp
    try with_reducible rfl
  try simp only [Act.put, gz1, gz2, gz3, gz4, gz5, gz6]
  refine wpAnyH_take (i := 6) (v := ?_) rfl (by kernel_rfl) (by kernel_rfl) (by kernel_rfl) (fun _ _ _ h => h) (Or.inl ⟨by rfl, ?_⟩) (by assumption) ?_
  rotate_left
  · intro w hSw
    try dsimp only at hSw
    go_simp
    try with_reducible rfl
  try simp only [Act.put, gz1, gz2, gz3, gz4, gz5, gz6]
  refine wpAnyH_take (i := 7) (v := ?_) rfl (by kernel_rfl) (by kernel_rfl) (by kernel_rfl) (fun _ _ _ h => h) (Or.inl ⟨by rfl, ?_⟩) (by assumption) ?_
  rotate_left
  · intro w hSw
    try dsimp only at hSw
    go_simp
    try with_reducible rfl
  try simp only [Act.put, gz1, gz2, gz3, gz4, gz5, gz6]
  refine wpAnyH_take (i := 8) (v := ?_) rfl (by kernel_rfl) (by kernel_rfl) (by kernel_rfl) (fun _ _ _ h => h) (Or.inl ⟨by rfl, ?_⟩) (by assumption) ?_
  rotate_left
  · intro w hSw
    try dsimp only at hSw
    go_simp
    try with_reducible rfl
  try simp only [Act.put, gz1, gz2, gz3, gz4, gz5, gz6]
  refine wpAnyH_take (i := 11) (v := ?_) rfl (by kernel_rfl) (by kernel_rfl) (by kernel_rfl) (fun _ _ _ h => h) (Or.inl ⟨by rfl, ?_⟩) (by assumption) ?_
  rotate_left
  · intro w hSw
    try dsimp only at hSw
    go_simp
    try with_reducible rfl
  try simp only [Act.put, gz1, gz2, gz3, gz4, gz5, gz6]
  refine wpAnyH_take (i := 12) (v := ?_) rfl (by kernel_rfl) (by kernel_rfl) (by kernel_rfl) (fun _ _ _ h => h) (Or.inl ⟨by rfl, ?_⟩) (by assumption) ?_
  rotate_left
  · intro w hSw
    try dsimp only at hSw
    go_simp
    try with_reducible rfl
  try simp only [Act.put, gz1, gz2, gz3, gz4, gz5, gz6]
  refine wpAnyH_take (i := 13) (v := ?_) rfl (by kernel_rfl) (by kernel_rfl) (by kernel_rfl) (fun _ _ _ h => h) (Or.inl ⟨by rfl, ?_⟩) (by assumption) ?_
  rotate_left
  · intro w hSw
    try dsimp only at hSw
    go_simp
    try with_reducible rfl
  try simp only [Act.put, gz1, gz2, gz3, gz4, gz5, gz6]
  refine wpAnyH_take (i := 14) (v := ?_) rfl (by kernel_rfl) (by kernel_rfl) (by kernel_rfl) (fun _ _ _ h => h) (Or.inl ⟨by rfl, ?_⟩) (by assumption) ?_
  rotate_left
  · intro w hSw
    try dsimp only at hSw
    go_simp
    try with_reducible rfl
  try simp only [Act.put, gz1, gz2, gz3, gz4, gz5, gz6]
  refine wpAnyH_take (i := 15) (v := ?_) rfl (by kernel_rfl) (by kernel_rfl) (by kernel_rfl) (fun _ _ _ h => h) (Or.inl ⟨by rfl, ?_⟩) (by assumption) ?_
  rotate_left
  · intro w hSw
    try dsimp only at hSw
    go_simp
    try with_reducible rfl
  try simp only [Act.put, gz1, gz2, gz3, gz4, gz5, gz6]
  refine wpAnyH_take (i := 16) (v := ?_) rfl (by kernel_rfl) (by kernel_rfl) (by kernel_rfl) (fun _ _ _ h => h) (Or.inl ⟨by rfl, ?_⟩) (by assumption) ?_
  rotate_left
  · intro w hSw
    try dsimp only at hSw
    go_simp
    try with_reducible rfl
  try simp only [Act.put, gz1, gz2, gz3, gz4, gz5, gz6]
  refine wpAnyH_ready (rs := [1, 9]) (by kernel_rfl) (by simp) ?_
  refine AllReadyH.cons rfl (fun K hK => ?_) (AllReadyH.cons rfl (fun K hK => ?_) AllReadyH.nil)
  · obtain ⟨x0, hx0⟩ : ∃ W, w8.drew = W := ⟨_, rfl⟩
    have hBX : Below w8.heap.size w8 x0 := by rw [← hx0]; exact below_drew (Below.refl _ _)
    have hs0 : x0.heap.size = z := by rw [← hx0]; exact hz
    have cT : x0.cell? ⟨T, 2, none⟩ = some (.slice oa pn oc) := by rw [← hx0]; exact cT
    have cg : x0.cell? ⟨s + 1 + 1, 0, none⟩ = some (.int .i64 D) := by rw [← hx0]; exact cg
    have ck : x0.cell? ⟨s, 0, none⟩ = some (.int .i64 vars) := by rw [← hx0]; exact ck
    have g1 : x0.cell? ⟨zf, 1, none⟩ = some (.int .i64 flo) := by rw [← hx0]; exact g1
    have g2 : x0.cell? ⟨zf, 2, none⟩ = some (.int .i64 fhi) := by rw [← hx0]; exact g2
    have cTf : ∀ o, x0.frozen? ⟨T, o, none⟩ = false := by rw [← hx0]; exact cTf
    try rw [hx0]
    clear hx0
    go_simp
    refine hK.out _ _ (by exact ⟨g1, g2⟩) (fun _ => ?_)
    clear hK K
    try simp only [Act.put, gz1, gz2, gz3, gz4, gz5, gz6]
    refine wpAnyH_ready (rs := [9]) (by kernel_rfl) (by simp) ?_
    refine AllReadyH.cons rfl (fun K hK => ?_) AllReadyH.nil
    go_simp
    go_at_call 25
    (with_reducible refine (HNM.out _ _ cg ck (by omega)).mono ?_)
    rintro e w8 ⟨rfl, rfl⟩
    go_wp2_with fail
    refine hK.out _ _ (by exact ⟨g1, g2⟩) (fun _ => ?_)
    clear hK K
    try simp only [Act.put, gz1, gz2, gz3, gz4, gz5, gz6]
    refine wpAnyH_ready (rs := [10, 17]) (by kernel_rfl) (by simp) ?_
    refine AllReadyH.cons rfl (fun K hK => ?_) (AllReadyH.cons rfl (fun K hK => ?_) AllReadyH.nil)
    · go_simp
      obtain ⟨x1, hnew⟩ : ∃ W, x0.alloc (.cells #[.int .i64 (-A), .int .i64 (-X), .int .i64 (f0 + fhi)] 3) = W := ⟨_, rfl⟩
      have hbn : Below x0.heap.size x0 x1 := by rw [← hnew]; exact (Below.refl _ _).alloc (Nat.le_refl _) _
      have hs1 : x1.heap.size = z + 1 := by rw [← hnew, World.size_alloc, hs0]
      have q10 : x1.heap[z]? = some (.cells #[.int .i64 (-A), .int .i64 (-X), .int .i64 (f0 + fhi)] 3) := by rw [← hnew, ← hs0]; exact new_at _ _
      have cT := keep_c hbn cT
      have cg := keep_c hbn cg
      have ck := keep_c hbn ck
      have g1 := keep_c hbn g1
      have g2 := keep_c hbn g2
      have cTf := keep_f hbn (by omega) cTf
      have hBX : Below w8.heap.size w8 x1 := hBX.trans (hbn.mono (by omega))
      try rw [hnew]
      clear hnew hbn
      refine hK.out _ _ (by exact ⟨g1, g2⟩) (fun _ => ?_)
      clear hK K
      try simp only [Act.put, gz1, gz2, gz3, gz4, gz5, gz6]
      refine wpAnyH_ready (rs := [17]) (by kernel_rfl) (by simp) ?_
      refine AllReadyH.cons rfl (fun K hK => ?_) AllReadyH.nil
      go_simp
      go_at_call 25
      (with_reducible refine (HNM.out _ _ cg ck (by omega)).mono ?_)
      rintro e w8 ⟨rfl, rfl⟩
      go_wp2_with fail
      refine hK.out _ _ (by exact ⟨g1, g2⟩) (fun _ => ?_)
      clear hK K
      try simp only [Act.put, gz1, gz2, gz3, gz4, gz5, gz6]
      refine wpAnyH_ready (rs := [18]) (by kernel_rfl) (by simp) ?_
      refine AllReadyH.cons rfl (fun K hK => ?_) AllReadyH.nil
      go_simp
      obtain ⟨x2, hnew⟩ : ∃ W, x1.alloc (.cells #[.int .i64 (-A), .int .i64 (X), .int .i64 (f0 + flo)] 3) = W := ⟨_, rfl⟩
      have hbn : Below x1.heap.size x1 x2 := by rw [← hnew]; exact (Below.refl _ _).alloc (Nat.le_refl _) _
      have hs2 : x2.heap.size = z + 2 := by rw [← hnew, World.size_alloc, hs1]
      have q18 : x2.heap[z + 1]? = some (.cells #[.int .i64 (-A), .int .i64 (X), .int .i64 (f0 + flo)] 3) := by rw [← hnew, ← hs1]; exact new_at _ _
      have q10 := (hbn.block (z) (by omega)).trans q10
      have cT := keep_c hbn cT
      have cg := keep_c hbn cg
      have ck := keep_c hbn ck
      have g1 := keep_c hbn g1
      have g2 := keep_c hbn g2
      have cTf := keep_f hbn (by omega) cTf
      have hBX : Below w8.heap.size w8 x2 := hBX.trans (hbn.mono (by omega))
      try rw [hnew]
      clear hnew hbn
      refine hK.out _ _ (by exact ⟨g1, g2⟩) (fun _ => ?_)
      clear hK K
      try simp only [Act.put, gz1, gz2, gz3, gz4, gz5, gz6]
      refine wpAnyH_ready (rs := [19]) (by kernel_rfl) (by simp) ?_
      refine AllReadyH.cons rfl (fun K hK => ?_) AllReadyH.nil
      go_simp
      obtain ⟨x3, hnew⟩ : ∃ W, x2.alloc (.cells #[.slice (some ⟨z, 0, none⟩) 3 3, .slice (some ⟨z + 1, 0, none⟩) 3 3] 22) = W := ⟨_, rfl⟩
      have hbn : Below x2.heap.size x2 x3 := by rw [← hnew]; exact (Below.refl _ _).alloc (Nat.le_refl _) _
      have hs3 : x3.heap.size = z + 3 := by rw [← hnew, World.size_alloc, hs2]
      have q19 : x3.heap[z + 2]? = some (.cells #[.slice (some ⟨z, 0, none⟩) 3 3, .slice (some ⟨z + 1, 0, none⟩) 3 3] 22) := by rw [← hnew, ← hs2]; exact new_at _ _
      have q10 := (hbn.block (z) (by omega)).trans q10
      have q18 := (hbn.block (z + 1) (by omega)).trans q18
      have cT := keep_c hbn cT
      have cg := keep_c hbn cg
      have ck := keep_c hbn ck
      have g1 := keep_c hbn g1
      have g2 := keep_c hbn g2
      have cTf := keep_f hbn (by omega) cTf
      have hBX : Below w8.heap.size w8 x3 := hBX.trans (hbn.mono (by omega))
      try rw [hnew]
      clear hnew hbn
      refine hK.out _ _ (by exact ⟨g1, g2⟩) (fun _ => ?_)
      clear hK K
      try simp only [Act.put, gz1, gz2, gz3, gz4, gz5, gz6]
      refine wpAnyH_ready (rs := [20]) (by kernel_rfl) (by simp) ?_
      refine AllReadyH.cons rfl (fun K hK => ?_) AllReadyH.nil
      have hrow := own_below HOM.out.2.1.1 hBX
      rw [HPN.out] at hrow
      refine step_push2 rfl _ _ 29 rfl 22 (.slice none 0 0) 24 Tryz.underlying29 HIN.out rfl (T + 1) (.slice oa pn oc) pn (ps.map Prod.fst) (z + 2) (Value.slice (some ⟨z, 0, none⟩) 3 3) (Value.slice (some ⟨z + 1, 0, none⟩) 3 3) rfl rfl (cell_of q19 rfl) (cell_of q19 rfl) hrow rfl rfl (by omega) (by omega) (by omega) ?_
      intro g9 cap9 w9 hown9 hg9 hat9
      have HI9 : Hid (∀ p ∈ ([(Value.slice (some ⟨z, 0, none⟩) 3 3, [-A, -X, f0 + fhi]), (Value.slice (some ⟨z + 1, 0, none⟩) 3 3, [-A, X, f0 + flo])] : List (Value × List Int)), Ints (fun b => w8.heap.size ≤ b) x3 p.1 p.2) := Lib.hid (by
        intro p hp
        simp only [List.mem_cons, List.not_mem_nil, or_false] at hp
        rcases hp with rfl | rfl
        · exact (ints_block [-A, -X, f0 + fhi] 3 q10 (by simp) (by simp) (by intro y hy; simp at hy; unfold I64; omega)).mono fun b hb => by have hb : b = _ := hb; omega
        · exact (ints_block [-A, X, f0 + flo] 3 q18 (by simp) (by simp) (by intro y hy; simp at hy; unfold I64; omega)).mono fun b hb => by have hb : b = _ := hb; omega
      )
      have HO9 := Lib.hid (HOM.out.push (rs := [(Value.slice (some ⟨z, 0, none⟩) 3 3, [-A, -X, f0 + fhi]), (Value.slice (some ⟨z + 1, 0, none⟩) 3 3, [-A, X, f0 + flo])]) HPN.out hBX HI9.out hg9 hown9 hat9)
      have cT := grown_cell hg9 (fun e => by have := HOB.out _ e.symm; omega) cT
      have cg := grown_cell hg9 (fun e => by have := HOB.out _ e.symm; omega) cg
      have ck := grown_cell hg9 (fun e => by have := HOB.out _ e.symm; omega) ck
      have g1 := grown_cell hg9 (fun e => by have := HOZ.out _ e.symm; omega) g1
      have g2 := grown_cell hg9 (fun e => by have := HOZ.out _ e.symm; omega) g2
      have cTf : ∀ o, w9.frozen? ⟨T, o, none⟩ = false := fun o => grown_froz hg9 (fun e => by have := HOB.out _ e.symm; omega) (by have := hTz; omega) (cTf o)
      have HBF : Hid (Below T w5 (w9.setCell ⟨T, 2, none⟩ (.slice (some ⟨g9, 0, none⟩) (pn + 2) cap9))) := Lib.hid (((HB.out.trans (hBX.mono (by omega))).grown hg9 (by have := hBX.size; have := HB.out.size; omega) (fun b e => by have := HOB.out b e; omega)).setCell (Nat.le_refl T) _)
      clear hown9 hg9 hat9 hrow hBX
      refine hK.out _ _ (by exact ⟨g1, g2⟩) (fun _ => ?_)
      clear hK K
      try simp only [Act.put, gz1, gz2, gz3, gz4, gz5, gz6]
      refine wpAnyH_take (i := 21) (v := ?_) rfl (by kernel_rfl) (by kernel_rfl) (by kernel_rfl) (fun _ _ _ h => h) (Or.inl ⟨by rfl, ?_⟩) (by assumption) ?_
      rotate_left
      · intro w hSw
        try dsimp only at hSw
        go_simp
        try with_reducible rfl
      try simp only [Act.put, gz1, gz2, gz3, gz4, gz5, gz6]
      refine wpAnyH_ready (rs := [22]) (by kernel_rfl) (by simp) ?_
      refine AllReadyH.cons rfl (fun K hK => ?_) AllReadyH.nil
      go_simp
      refine hK.out _ _ (by exact ⟨set_ne (by omega) g1, set_ne (by omega) g2⟩) (fun _ => ?_)
      clear hK K
      try simp only [Act.put, gz1, gz2, gz3, gz4, gz5, gz6]
      refine wpAnyH_done (by kernel_rfl) ?_ _
      have HM9 : Hid (MC = (ps ++ [(Value.slice (some ⟨z, 0, none⟩) 3 3, [-A, -X, f0 + fhi]), (Value.slice (some ⟨z + 1, 0, none⟩) 3 3, [-A, X, f0 + flo])]).map Prod.snd ++ (ndC f0 D ll (ns.drop (q + 1)) (q + 1) ++ lfC f0 ws lvs 0)) := Lib.hid (by rw [HMQ.out]; simp)
      have HL9 : Hid ((ps ++ [(Value.slice (some ⟨z, 0, none⟩) 3 3, [-A, -X, f0 + fhi]), (Value.slice (some ⟨z + 1, 0, none⟩) 3 3, [-A, X, f0 + flo])]).length = 1 + 2 * (q + 1)) := Lib.hid (by have := HPL.out; simp; omega)
      go_wp2_with fail
      go_roundg (gk - 1)
      case measure => omega
      case rel => exact ⟨q + 1, _, _, by omega, by go_num, HBF, HO9, HM9, HL9⟩
    · go_simp
      go_at_call 25
      (with_reducible refine (HNM.out _ _ cg ck (by omega)).mono ?_)
      rintro e w8 ⟨rfl, rfl⟩
      go_wp2_with fail
      refine hK.out _ _ (by exact ⟨g1, g2⟩) (fun _ => ?_)
      clear hK K
      try simp only [Act.put, gz1, gz2, gz3, gz4, gz5, gz6]
      refine wpAnyH_ready (rs := [10, 18]) (by kernel_rfl) (by simp) ?_
      refine AllReadyH.cons rfl (fun K hK => ?_) (AllReadyH.cons rfl (fun K hK => ?_) AllReadyH.nil)
      · go_simp
        obtain ⟨x1, hnew⟩ : ∃ W, x0.alloc (.cells #[.int .i64 (-A), .int .i64 (-X), .int .i64 (f0 + fhi)] 3) = W := ⟨_, rfl⟩
        have hbn : Below x0.heap.size x0 x1 := by rw [← hnew]; exact (Below.refl _ _).alloc (Nat.le_refl _) _
        have hs1 : x1.heap.size = z + 1 := by rw [← hnew, World.size_alloc, hs0]
        have q10 : x1.heap[z]? = some (.cells #[.int .i64 (-A), .int .i64 (-X), .int .i64 (f0 + fhi)] 3) := by rw [← hnew, ← hs0]; exact new_at _ _
        have cT := keep_c hbn cT
        have cg := keep_c hbn cg
        have ck := keep_c hbn ck
        have g1 := keep_c hbn g1
        have g2 := keep_c hbn g2
        have cTf := keep_f hbn (by omega) cTf
        have hBX : Below w8.heap.size w8 x1 := hBX.trans (hbn.mono (by omega))
        try rw [hnew]
        clear hnew hbn
        refine hK.out _ _ (by exact ⟨g1, g2⟩) (fun _ => ?_)
        clear hK K
        try simp only [Act.put, gz1, gz2, gz3, gz4, gz5, gz6]
        refine wpAnyH_ready (rs := [18]) (by kernel_rfl) (by simp) ?_
        refine AllReadyH.cons rfl (fun K hK => ?_) AllReadyH.nil
        go_simp
        obtain ⟨x2, hnew⟩ : ∃ W, x1.alloc (.cells #[.int .i64 (-A), .int .i64 (X), .int .i64 (f0 + flo)] 3) = W := ⟨_, rfl⟩
        have hbn : Below x1.heap.size x1 x2 := by rw [← hnew]; exact (Below.refl _ _).alloc (Nat.le_refl _) _
        have hs2 : x2.heap.size = z + 2 := by rw [← hnew, World.size_alloc, hs1]
        have q18 : x2.heap[z + 1]? = some (.cells #[.int .i64 (-A), .int .i64 (X), .int .i64 (f0 + flo)] 3) := by rw [← hnew, ← hs1]; exact new_at _ _
        have q10 := (hbn.block (z) (by omega)).trans q10
        have cT := keep_c hbn cT
        have cg := keep_c hbn cg
        have ck := keep_c hbn ck
        have g1 := keep_c hbn g1
        have g2 := keep_c hbn g2
        have cTf := keep_f hbn (by omega) cTf
        have hBX : Below w8.heap.size w8 x2 := hBX.trans (hbn.mono (by omega))
        try rw [hnew]
        clear hnew hbn
        refine hK.out _ _ (by exact ⟨g1, g2⟩) (fun _ => ?_)
        clear hK K
        try simp only [Act.put, gz1, gz2, gz3, gz4, gz5, gz6]
        refine wpAnyH_ready (rs := [19]) (by kernel_rfl) (by simp) ?_
        refine AllReadyH.cons rfl (fun K hK => ?_) AllReadyH.nil
        go_simp
        obtain ⟨x3, hnew⟩ : ∃ W, x2.alloc (.cells #[.slice (some ⟨z, 0, none⟩) 3 3, .slice (some ⟨z + 1, 0, none⟩) 3 3] 22) = W := ⟨_, rfl⟩
        have hbn : Below x2.heap.size x2 x3 := by rw [← hnew]; exact (Below.refl _ _).alloc (Nat.le_refl _) _
        have hs3 : x3.heap.size = z + 3 := by rw [← hnew, World.size_alloc, hs2]
        have q19 : x3.heap[z + 2]? = some (.cells #[.slice (some ⟨z, 0, none⟩) 3 3, .slice (some ⟨z + 1, 0, none⟩) 3 3] 22) := by rw [← hnew, ← hs2]; exact new_at _ _
        have q10 := (hbn.block (z) (by omega)).trans q10
        have q18 := (hbn.block (z + 1) (by omega)).trans q18
        have cT := keep_c hbn cT
        have cg := keep_c hbn cg
        have ck := keep_c hbn ck
        have g1 := keep_c hbn g1
        have g2 := keep_c hbn g2
        have cTf := keep_f hbn (by omega) cTf
        have hBX : Below w8.heap.size w8 x3 := hBX.trans (hbn.mono (by omega))
        try rw [hnew]
        clear hnew hbn
        refine hK.out _ _ (by exact ⟨g1, g2⟩) (fun _ => ?_)
        clear hK K
        try simp only [Act.put, gz1, gz2, gz3, gz4, gz5, gz6]
        refine wpAnyH_ready (rs := [20]) (by kernel_rfl) (by simp) ?_
        refine AllReadyH.cons rfl (fun K hK => ?_) AllReadyH.nil
        have hrow := own_below HOM.out.2.1.1 hBX
        rw [HPN.out] at hrow
        refine step_push2 rfl _ _ 29 rfl 22 (.slice none 0 0) 24 Tryz.underlying29 HIN.out rfl (T + 1) (.slice oa pn oc) pn (ps.map Prod.fst) (z + 2) (Value.slice (some ⟨z, 0, none⟩) 3 3) (Value.slice (some ⟨z + 1, 0, none⟩) 3 3) rfl rfl (cell_of q19 rfl) (cell_of q19 rfl) hrow rfl rfl (by omega) (by omega) (by omega) ?_
        intro g9 cap9 w9 hown9 hg9 hat9
        have HI9 : Hid (∀ p ∈ ([(Value.slice (some ⟨z, 0, none⟩) 3 3, [-A, -X, f0 + fhi]), (Value.slice (some ⟨z + 1, 0, none⟩) 3 3, [-A, X, f0 + flo])] : List (Value × List Int)), Ints (fun b => w8.heap.size ≤ b) x3 p.1 p.2) := Lib.hid (by
          intro p hp
          simp only [List.mem_cons, List.not_mem_nil, or_false] at hp
          rcases hp with rfl | rfl
          · exact (ints_block [-A, -X, f0 + fhi] 3 q10 (by simp) (by simp) (by intro y hy; simp at hy; unfold I64; omega)).mono fun b hb => by have hb : b = _ := hb; omega
          · exact (ints_block [-A, X, f0 + flo] 3 q18 (by simp) (by simp) (by intro y hy; simp at hy; unfold I64; omega)).mono fun b hb => by have hb : b = _ := hb; omega
        )
        have HO9 := Lib.hid (HOM.out.push (rs := [(Value.slice (some ⟨z, 0, none⟩) 3 3, [-A, -X, f0 + fhi]), (Value.slice (some ⟨z + 1, 0, none⟩) 3 3, [-A, X, f0 + flo])]) HPN.out hBX HI9.out hg9 hown9 hat9)
        have cT := grown_cell hg9 (fun e => by have := HOB.out _ e.symm; omega) cT
        have cg := grown_cell hg9 (fun e => by have := HOB.out _ e.symm; omega) cg
        have ck := grown_cell hg9 (fun e => by have := HOB.out _ e.symm; omega) ck
        have g1 := grown_cell hg9 (fun e => by have := HOZ.out _ e.symm; omega) g1
        have g2 := grown_cell hg9 (fun e => by have := HOZ.out _ e.symm; omega) g2
        have cTf : ∀ o, w9.frozen? ⟨T, o, none⟩ = false := fun o => grown_froz hg9 (fun e => by have := HOB.out _ e.symm; omega) (by have := hTz; omega) (cTf o)
        have HBF : Hid (Below T w5 (w9.setCell ⟨T, 2, none⟩ (.slice (some ⟨g9, 0, none⟩) (pn + 2) cap9))) := Lib.hid (((HB.out.trans (hBX.mono (by omega))).grown hg9 (by have := hBX.size; have := HB.out.size; omega) (fun b e => by have := HOB.out b e; omega)).setCell (Nat.le_refl T) _)
        clear hown9 hg9 hat9 hrow hBX
        refine hK.out _ _ (by exact ⟨g1, g2⟩) (fun _ => ?_)
        clear hK K
        try simp only [Act.put, gz1, gz2, gz3, gz4, gz5, gz6]
        refine wpAnyH_take (i := 21) (v := ?_) rfl (by kernel_rfl) (by kernel_rfl) (by kernel_rfl) (fun _ _ _ h => h) (Or.inl ⟨by rfl, ?_⟩) (by assumption) ?_
        rotate_left
        · intro w hSw
          try dsimp only at hSw
          go_simp
          try with_reducible rfl
        try simp only [Act.put, gz1, gz2, gz3, gz4, gz5, gz6]
        refine wpAnyH_ready (rs := [22]) (by kernel_rfl) (by simp) ?_
        refine AllReadyH.cons rfl (fun K hK => ?_) AllReadyH.nil
        go_simp
        refine hK.out _ _ (by exact ⟨set_ne (by omega) g1, set_ne (by omega) g2⟩) (fun _ => ?_)
        clear hK K
        try simp only [Act.put, gz1, gz2, gz3, gz4, gz5, gz6]
        refine wpAnyH_done (by kernel_rfl) ?_ _
        have HM9 : Hid (MC = (ps ++ [(Value.slice (some ⟨z, 0, none⟩) 3 3, [-A, -X, f0 + fhi]), (Value.slice (some ⟨z + 1, 0, none⟩) 3 3, [-A, X, f0 + flo])]).map Prod.snd ++ (ndC f0 D ll (ns.drop (q + 1)) (q + 1) ++ lfC f0 ws lvs 0)) := Lib.hid (by rw [HMQ.out]; simp)
        have HL9 : Hid ((ps ++ [(Value.slice (some ⟨z, 0, none⟩) 3 3, [-A, -X, f0 + fhi]), (Value.slice (some ⟨z + 1, 0, none⟩) 3 3, [-A, X, f0 + flo])]).length = 1 + 2 * (q + 1)) := Lib.hid (by have := HPL.out; simp; omega)
        go_wp2_with fail
        go_roundg (gk - 1)
        case measure => omega
        case rel => exact ⟨q + 1, _, _, by omega, by go_num, HBF, HO9, HM9, HL9⟩
      · go_simp
        obtain ⟨x1, hnew⟩ : ∃ W, x0.alloc (.cells #[.int .i64 (-A), .int .i64 (X), .int .i64 (f0 + flo)] 3) = W := ⟨_, rfl⟩
        have hbn : Below x0.heap.size x0 x1 := by rw [← hnew]; exact (Below.refl _ _).alloc (Nat.le_refl _) _
        have hs1 : x1.heap.size = z + 1 := by rw [← hnew, World.size_alloc, hs0]
        have q18 : x1.heap[z]? = some (.cells #[.int .i64 (-A), .int .i64 (X), .int .i64 (f0 + flo)] 3) := by rw [← hnew, ← hs0]; exact new_at _ _
        have cT := keep_c hbn cT
        have cg := keep_c hbn cg
        have ck := keep_c hbn ck
        have g1 := keep_c hbn g1
        have g2 := keep_c hbn g2
        have cTf := keep_f hbn (by omega) cTf
        have hBX : Below w8.heap.size w8 x1 := hBX.trans (hbn.mono (by omega))
        try rw [hnew]
        clear hnew hbn
        refine hK.out _ _ (by exact ⟨g1, g2⟩) (fun _ => ?_)
        clear hK K
        try simp only [Act.put, gz1, gz2, gz3, gz4, gz5, gz6]
        refine wpAnyH_ready (rs := [10]) (by kernel_rfl) (by simp) ?_
        refine AllReadyH.cons rfl (fun K hK => ?_) AllReadyH.nil
        go_simp
        obtain ⟨x2, hnew⟩ : ∃ W, x1.alloc (.cells #[.int .i64 (-A), .int .i64 (-X), .int .i64 (f0 + fhi)] 3) = W := ⟨_, rfl⟩
        have hbn : Below x1.heap.size x1 x2 := by rw [← hnew]; exact (Below.refl _ _).alloc (Nat.le_refl _) _
        have hs2 : x2.heap.size = z + 2 := by rw [← hnew, World.size_alloc, hs1]
        have q10 : x2.heap[z + 1]? = some (.cells #[.int .i64 (-A), .int .i64 (-X), .int .i64 (f0 + fhi)] 3) := by rw [← hnew, ← hs1]; exact new_at _ _
        have q18 := (hbn.block (z) (by omega)).trans q18
        have cT := keep_c hbn cT
        have cg := keep_c hbn cg
        have ck := keep_c hbn ck
        have g1 := keep_c hbn g1
        have g2 := keep_c hbn g2
        have cTf := keep_f hbn (by omega) cTf
        have hBX : Below w8.heap.size w8 x2 := hBX.trans (hbn.mono (by omega))
        try rw [hnew]
        clear hnew hbn
        refine hK.out _ _ (by exact ⟨g1, g2⟩) (fun _ => ?_)
        clear hK K
        try simp only [Act.put, gz1, gz2, gz3, gz4, gz5, gz6]
        refine wpAnyH_ready (rs := [19]) (by kernel_rfl) (by simp) ?_
        refine AllReadyH.cons rfl (fun K hK => ?_) AllReadyH.nil
        go_simp
        obtain ⟨x3, hnew⟩ : ∃ W, x2.alloc (.cells #[.slice (some ⟨z + 1, 0, none⟩) 3 3, .slice (some ⟨z, 0, none⟩) 3 3] 22) = W := ⟨_, rfl⟩
        have hbn : Below x2.heap.size x2 x3 := by rw [← hnew]; exact (Below.refl _ _).alloc (Nat.le_refl _) _
        have hs3 : x3.heap.size = z + 3 := by rw [← hnew, World.size_alloc, hs2]
        have q19 : x3.heap[z + 2]? = some (.cells #[.slice (some ⟨z + 1, 0, none⟩) 3 3, .slice (some ⟨z, 0, none⟩) 3 3] 22) := by rw [← hnew, ← hs2]; exact new_at _ _
        have q18 := (hbn.block (z) (by omega)).trans q18
        have q10 := (hbn.block (z + 1) (by omega)).trans q10
        have cT := keep_c hbn cT
        have cg := keep_c hbn cg
        have ck := keep_c hbn ck
        have g1 := keep_c hbn g1
        have g2 := keep_c hbn g2
        have cTf := keep_f hbn (by omega) cTf
        have hBX : Below w8.heap.size w8 x3 := hBX.trans (hbn.mono (by omega))
        try rw [hnew]
        clear hnew hbn
        refine hK.out _ _ (by exact ⟨g1, g2⟩) (fun _ => ?_)
        clear hK K
        try simp only [Act.put, gz1, gz2, gz3, gz4, gz5, gz6]
        refine wpAnyH_ready (rs := [20]) (by kernel_rfl) (by simp) ?_
        refine AllReadyH.cons rfl (fun K hK => ?_) AllReadyH.nil
        have hrow := own_below HOM.out.2.1.1 hBX
        rw [HPN.out] at hrow
        refine step_push2 rfl _ _ 29 rfl 22 (.slice none 0 0) 24 Tryz.underlying29 HIN.out rfl (T + 1) (.slice oa pn oc) pn (ps.map Prod.fst) (z + 2) (Value.slice (some ⟨z + 1, 0, none⟩) 3 3) (Value.slice (some ⟨z, 0, none⟩) 3 3) rfl rfl (cell_of q19 rfl) (cell_of q19 rfl) hrow rfl rfl (by omega) (by omega) (by omega) ?_
        intro g9 cap9 w9 hown9 hg9 hat9
        have HI9 : Hid (∀ p ∈ ([(Value.slice (some ⟨z + 1, 0, none⟩) 3 3, [-A, -X, f0 + fhi]), (Value.slice (some ⟨z, 0, none⟩) 3 3, [-A, X, f0 + flo])] : List (Value × List Int)), Ints (fun b => w8.heap.size ≤ b) x3 p.1 p.2) := Lib.hid (by
          intro p hp
          simp only [List.mem_cons, List.not_mem_nil, or_false] at hp
          rcases hp with rfl | rfl
          · exact (ints_block [-A, -X, f0 + fhi] 3 q10 (by simp) (by simp) (by intro y hy; simp at hy; unfold I64; omega)).mono fun b hb => by have hb : b = _ := hb; omega
          · exact (ints_block [-A, X, f0 + flo] 3 q18 (by simp) (by simp) (by intro y hy; simp at hy; unfold I64; omega)).mono fun b hb => by have hb : b = _ := hb; omega
        )
        have HO9 := Lib.hid (HOM.out.push (rs := [(Value.slice (some ⟨z + 1, 0, none⟩) 3 3, [-A, -X, f0 + fhi]), (Value.slice (some ⟨z, 0, none⟩) 3 3, [-A, X, f0 + flo])]) HPN.out hBX HI9.out hg9 hown9 hat9)
        have cT := grown_cell hg9 (fun e => by have := HOB.out _ e.symm; omega) cT
        have cg := grown_cell hg9 (fun e => by have := HOB.out _ e.symm; omega) cg
        have ck := grown_cell hg9 (fun e => by have := HOB.out _ e.symm; omega) ck
        have g1 := grown_cell hg9 (fun e => by have := HOZ.out _ e.symm; omega) g1
        have g2 := grown_cell hg9 (fun e => by have := HOZ.out _ e.symm; omega) g2
        have cTf : ∀ o, w9.frozen? ⟨T, o, none⟩ = false := fun o => grown_froz hg9 (fun e => by have := HOB.out _ e.symm; omega) (by have := hTz; omega) (cTf o)
        have HBF : Hid (Below T w5 (w9.setCell ⟨T, 2, none⟩ (.slice (some ⟨g9, 0, none⟩) (pn + 2) cap9))) := Lib.hid (((HB.out.trans (hBX.mono (by omega))).grown hg9 (by have := hBX.size; have := HB.out.size; omega) (fun b e => by have := HOB.out b e; omega)).setCell (Nat.le_refl T) _)
        clear hown9 hg9 hat9 hrow hBX
        refine hK.out _ _ (by exact ⟨g1, g2⟩) (fun _ => ?_)
        clear hK K
        try simp only [Act.put, gz1, gz2, gz3, gz4, gz5, gz6]
        refine wpAnyH_take (i := 21) (v := ?_) rfl (by kernel_rfl) (by kernel_rfl) (by kernel_rfl) (fun _ _ _ h => h) (Or.inl ⟨by rfl, ?_⟩) (by assumption) ?_
        rotate_left
        · intro w hSw
          try dsimp only at hSw
          go_simp
          try with_reducible rfl
        try simp only [Act.put, gz1, gz2, gz3, gz4, gz5, gz6]
        refine wpAnyH_ready (rs := [22]) (by kernel_rfl) (by simp) ?_
        refine AllReadyH.cons rfl (fun K hK => ?_) AllReadyH.nil
        go_simp
        refine hK.out _ _ (by exact ⟨set_ne (by omega) g1, set_ne (by omega) g2⟩) (fun _ => ?_)
        clear hK K
        try simp only [Act.put, gz1, gz2, gz3, gz4, gz5, gz6]
        refine wpAnyH_done (by kernel_rfl) ?_ _
        have HM9 : Hid (MC = (ps ++ [(Value.slice (some ⟨z + 1, 0, none⟩) 3 3, [-A, -X, f0 + fhi]), (Value.slice (some ⟨z, 0, none⟩) 3 3, [-A, X, f0 + flo])]).map Prod.snd ++ (ndC f0 D ll (ns.drop (q + 1)) (q + 1) ++ lfC f0 ws lvs 0)) := Lib.hid (by rw [HMQ.out]; simp)
        have HL9 : Hid ((ps ++ [(Value.slice (some ⟨z + 1, 0, none⟩) 3 3, [-A, -X, f0 + fhi]), (Value.slice (some ⟨z, 0, none⟩) 3 3, [-A, X, f0 + flo])]).length = 1 + 2 * (q + 1)) := Lib.hid (by have := HPL.out; simp; omega)
        go_wp2_with fail
        go_roundg (gk - 1)
        case measure => omega
        case rel => exact ⟨q + 1, _, _, by omega, by go_num, HBF, HO9, HM9, HL9⟩
  · obtain ⟨x0, hx0⟩ : ∃ W, w8.drew = W := ⟨_, rfl⟩
    have hBX : Below w8.heap.size w8 x0 := by rw [← hx0]; exact below_drew (Below.refl _ _)
    have hs0 : x0.heap.size = z := by rw [← hx0]; exact hz
    have cT : x0.cell? ⟨T, 2, none⟩ = some (.slice oa pn oc) := by rw [← hx0]; exact cT
    have cg : x0.cell? ⟨s + 1 + 1, 0, none⟩ = some (.int .i64 D) := by rw [← hx0]; exact cg
    have ck : x0.cell? ⟨s, 0, none⟩ = some (.int .i64 vars) := by rw [← hx0]; exact ck
    have g1 : x0.cell? ⟨zf, 1, none⟩ = some (.int .i64 flo) := by rw [← hx0]; exact g1
    have g2 : x0.cell? ⟨zf, 2, none⟩ = some (.int .i64 fhi) := by rw [← hx0]; exact g2
    have cTf : ∀ o, x0.frozen? ⟨T, o, none⟩ = false := by rw [← hx0]; exact cTf
    try rw [hx0]
    clear hx0
    go_simp
    go_at_call 25
    (with_reducible refine (HNM.out _ _ cg ck (by omega)).mono ?_)
    rintro e w8 ⟨rfl, rfl⟩
    go_wp2_with fail
    refine hK.out _ _ (by exact ⟨g1, g2⟩) (fun _ => ?_)
    clear hK K
    try simp only [Act.put, gz1, gz2, gz3, gz4, gz5, gz6]
    refine wpAnyH_ready (rs := [1, 10, 17]) (by kernel_rfl) (by simp) ?_
    refine AllReadyH.cons rfl (fun K hK => ?_) (AllReadyH.cons rfl (fun K hK => ?_) (AllReadyH.cons rfl (fun K hK => ?_) AllReadyH.nil))
    · go_simp
      refine hK.out _ _ (by exact ⟨g1, g2⟩) (fun _ => ?_)
      clear hK K
      try simp only [Act.put, gz1, gz2, gz3, gz4, gz5, gz6]
      refine wpAnyH_ready (rs := [10, 17]) (by kernel_rfl) (by simp) ?_
      refine AllReadyH.cons rfl (fun K hK => ?_) (AllReadyH.cons rfl (fun K hK => ?_) AllReadyH.nil)
      · go_simp
        obtain ⟨x1, hnew⟩ : ∃ W, x0.alloc (.cells #[.int .i64 (-A), .int .i64 (-X), .int .i64 (f0 + fhi)] 3) = W := ⟨_, rfl⟩
        have hbn : Below x0.heap.size x0 x1 := by rw [← hnew]; exact (Below.refl _ _).alloc (Nat.le_refl _) _
        have hs1 : x1.heap.size = z + 1 := by rw [← hnew, World.size_alloc, hs0]
        have q10 : x1.heap[z]? = some (.cells #[.int .i64 (-A), .int .i64 (-X), .int .i64 (f0 + fhi)] 3) := by rw [← hnew, ← hs0]; exact new_at _ _
        have cT := keep_c hbn cT
        have cg := keep_c hbn cg
        have ck := keep_c hbn ck
        have g1 := keep_c hbn g1
        have g2 := keep_c hbn g2
        have cTf := keep_f hbn (by omega) cTf
        have hBX : Below w8.heap.size w8 x1 := hBX.trans (hbn.mono (by omega))
        try rw [hnew]
        clear hnew hbn
        refine hK.out _ _ (by exact ⟨g1, g2⟩) (fun _ => ?_)
        clear hK K
        try simp only [Act.put, gz1, gz2, gz3, gz4, gz5, gz6]
        refine wpAnyH_ready (rs := [17]) (by kernel_rfl) (by simp) ?_
        refine AllReadyH.cons rfl (fun K hK => ?_) AllReadyH.nil
        go_simp
        go_at_call 25
        (with_reducible refine (HNM.out _ _ cg ck (by omega)).mono ?_)
        rintro e w8 ⟨rfl, rfl⟩
        go_wp2_with fail
        refine hK.out _ _ (by exact ⟨g1, g2⟩) (fun _ => ?_)
        clear hK K
        try simp only [Act.put, gz1, gz2, gz3, gz4, gz5, gz6]
        refine wpAnyH_ready (rs := [18]) (by kernel_rfl) (by simp) ?_
        refine AllReadyH.cons rfl (fun K hK => ?_) AllReadyH.nil
        go_simp
        obtain ⟨x2, hnew⟩ : ∃ W, x1.alloc (.cells #[.int .i64 (-A), .int .i64 (X), .int .i64 (f0 + flo)] 3) = W := ⟨_, rfl⟩
        have hbn : Below x1.heap.size x1 x2 := by rw [← hnew]; exact (Below.refl _ _).alloc (Nat.le_refl _) _
        have hs2 : x2.heap.size = z + 2 := by rw [← hnew, World.size_alloc, hs1]
        have q18 : x2.heap[z + 1]? = some (.cells #[.int .i64 (-A), .int .i64 (X), .int .i64 (f0 + flo)] 3) := by rw [← hnew, ← hs1]; exact new_at _ _
        have q10 := (hbn.block (z) (by omega)).trans q10
        have cT := keep_c hbn cT
        have cg := keep_c hbn cg
        have ck := keep_c hbn ck
        have g1 := keep_c hbn g1
        have g2 := keep_c hbn g2
        have cTf := keep_f hbn (by omega) cTf
        have hBX : Below w8.heap.size w8 x2 := hBX.trans (hbn.mono (by omega))
        try rw [hnew]
        clear hnew hbn
        refine hK.out _ _ (by exact ⟨g1, g2⟩) (fun _ => ?_)
        clear hK K
        try simp only [Act.put, gz1, gz2, gz3, gz4, gz5, gz6]
        refine wpAnyH_ready (rs := [19]) (by kernel_rfl) (by simp) ?_
        refine AllReadyH.cons rfl (fun K hK => ?_) AllReadyH.nil
        go_simp
        obtain ⟨x3, hnew⟩ : ∃ W, x2.alloc (.cells #[.slice (some ⟨z, 0, none⟩) 3 3, .slice (some ⟨z + 1, 0, none⟩) 3 3] 22) = W := ⟨_, rfl⟩
        have hbn : Below x2.heap.size x2 x3 := by rw [← hnew]; exact (Below.refl _ _).alloc (Nat.le_refl _) _
        have hs3 : x3.heap.size = z + 3 := by rw [← hnew, World.size_alloc, hs2]
        have q19 : x3.heap[z + 2]? = some (.cells #[.slice (some ⟨z, 0, none⟩) 3 3, .slice (some ⟨z + 1, 0, none⟩) 3 3] 22) := by rw [← hnew, ← hs2]; exact new_at _ _
        have q10 := (hbn.block (z) (by omega)).trans q10
        have q18 := (hbn.block (z + 1) (by omega)).trans q18
        have cT := keep_c hbn cT
        have cg := keep_c hbn cg
        have ck := keep_c hbn ck
        have g1 := keep_c hbn g1
        have g2 := keep_c hbn g2
        have cTf := keep_f hbn (by omega) cTf
        have hBX : Below w8.heap.size w8 x3 := hBX.trans (hbn.mono (by omega))
        try rw [hnew]
        clear hnew hbn
        refine hK.out _ _ (by exact ⟨g1, g2⟩) (fun _ => ?_)
        clear hK K
        try simp only [Act.put, gz1, gz2, gz3, gz4, gz5, gz6]
        refine wpAnyH_ready (rs := [20]) (by kernel_rfl) (by simp) ?_
        refine AllReadyH.cons rfl (fun K hK => ?_) AllReadyH.nil
        have hrow := own_below HOM.out.2.1.1 hBX
        rw [HPN.out] at hrow
        refine step_push2 rfl _ _ 29 rfl 22 (.slice none 0 0) 24 Tryz.underlying29 HIN.out rfl (T + 1) (.slice oa pn oc) pn (ps.map Prod.fst) (z + 2) (Value.slice (some ⟨z, 0, none⟩) 3 3) (Value.slice (some ⟨z + 1, 0, none⟩) 3 3) rfl rfl (cell_of q19 rfl) (cell_of q19 rfl) hrow rfl rfl (by omega) (by omega) (by omega) ?_
        intro g9 cap9 w9 hown9 hg9 hat9
        have HI9 : Hid (∀ p ∈ ([(Value.slice (some ⟨z, 0, none⟩) 3 3, [-A, -X, f0 + fhi]), (Value.slice (some ⟨z + 1, 0, none⟩) 3 3, [-A, X, f0 + flo])] : List (Value × List Int)), Ints (fun b => w8.heap.size ≤ b) x3 p.1 p.2) := Lib.hid (by
          intro p hp
          simp only [List.mem_cons, List.not_mem_nil, or_false] at hp
          rcases hp with rfl | rfl
          · exact (ints_block [-A, -X, f0 + fhi] 3 q10 (by simp) (by simp) (by intro y hy; simp at hy; unfold I64; omega)).mono fun b hb => by have hb : b = _ := hb; omega
          · exact (ints_block [-A, X, f0 + flo] 3 q18 (by simp) (by simp) (by intro y hy; simp at hy; unfold I64; omega)).mono fun b hb => by have hb : b = _ := hb; omega
        )
        have HO9 := Lib.hid (HOM.out.push (rs := [(Value.slice (some ⟨z, 0, none⟩) 3 3, [-A, -X, f0 + fhi]), (Value.slice (some ⟨z + 1, 0, none⟩) 3 3, [-A, X, f0 + flo])]) HPN.out hBX HI9.out hg9 hown9 hat9)
        have cT := grown_cell hg9 (fun e => by have := HOB.out _ e.symm; omega) cT
        have cg := grown_cell hg9 (fun e => by have := HOB.out _ e.symm; omega) cg
        have ck := grown_cell hg9 (fun e => by have := HOB.out _ e.symm; omega) ck
        have g1 := grown_cell hg9 (fun e => by have := HOZ.out _ e.symm; omega) g1
        have g2 := grown_cell hg9 (fun e => by have := HOZ.out _ e.symm; omega) g2
        have cTf : ∀ o, w9.frozen? ⟨T, o, none⟩ = false := fun o => grown_froz hg9 (fun e => by have := HOB.out _ e.symm; omega) (by have := hTz; omega) (cTf o)
        have HBF : Hid (Below T w5 (w9.setCell ⟨T, 2, none⟩ (.slice (some ⟨g9, 0, none⟩) (pn + 2) cap9))) := Lib.hid (((HB.out.trans (hBX.mono (by omega))).grown hg9 (by have := hBX.size; have := HB.out.size; omega) (fun b e => by have := HOB.out b e; omega)).setCell (Nat.le_refl T) _)
        clear hown9 hg9 hat9 hrow hBX
        refine hK.out _ _ (by exact ⟨g1, g2⟩) (fun _ => ?_)
        clear hK K
        try simp only [Act.put, gz1, gz2, gz3, gz4, gz5, gz6]
        refine wpAnyH_take (i := 21) (v := ?_) rfl (by kernel_rfl) (by kernel_rfl) (by kernel_rfl) (fun _ _ _ h => h) (Or.inl ⟨by rfl, ?_⟩) (by assumption) ?_
        rotate_left
        · intro w hSw
          try dsimp only at hSw
          go_simp
          try with_reducible rfl
        try simp only [Act.put, gz1, gz2, gz3, gz4, gz5, gz6]
        refine wpAnyH_ready (rs := [22]) (by kernel_rfl) (by simp) ?_
        refine AllReadyH.cons rfl (fun K hK => ?_) AllReadyH.nil
        go_simp
        refine hK.out _ _ (by exact ⟨set_ne (by omega) g1, set_ne (by omega) g2⟩) (fun _ => ?_)
        clear hK K
        try simp only [Act.put, gz1, gz2, gz3, gz4, gz5, gz6]
        refine wpAnyH_done (by kernel_rfl) ?_ _
        have HM9 : Hid (MC = (ps ++ [(Value.slice (some ⟨z, 0, none⟩) 3 3, [-A, -X, f0 + fhi]), (Value.slice (some ⟨z + 1, 0, none⟩) 3 3, [-A, X, f0 + flo])]).map Prod.snd ++ (ndC f0 D ll (ns.drop (q + 1)) (q + 1) ++ lfC f0 ws lvs 0)) := Lib.hid (by rw [HMQ.out]; simp)
        have HL9 : Hid ((ps ++ [(Value.slice (some ⟨z, 0, none⟩) 3 3, [-A, -X, f0 + fhi]), (Value.slice (some ⟨z + 1, 0, none⟩) 3 3, [-A, X, f0 + flo])]).length = 1 + 2 * (q + 1)) := Lib.hid (by have := HPL.out; simp; omega)
        go_wp2_with fail
        go_roundg (gk - 1)
        case measure => omega
        case rel => exact ⟨q + 1, _, _, by omega, by go_num, HBF, HO9, HM9, HL9⟩
      · go_simp
        go_at_call 25
        (with_reducible refine (HNM.out _ _ cg ck (by omega)).mono ?_)
        rintro e w8 ⟨rfl, rfl⟩
        go_wp2_with fail
        refine hK.out _ _ (by exact ⟨g1, g2⟩) (fun _ => ?_)
        clear hK K
        try simp only [Act.put, gz1, gz2, gz3, gz4, gz5, gz6]
        refine wpAnyH_ready (rs := [10, 18]) (by kernel_rfl) (by simp) ?_
        refine AllReadyH.cons rfl (fun K hK => ?_) (AllReadyH.cons rfl (fun K hK => ?_) AllReadyH.nil)
        · go_simp
          obtain ⟨x1, hnew⟩ : ∃ W, x0.alloc (.cells #[.int .i64 (-A), .int .i64 (-X), .int .i64 (f0 + fhi)] 3) = W := ⟨_, rfl⟩
          have hbn : Below x0.heap.size x0 x1 := by rw [← hnew]; exact (Below.refl _ _).alloc (Nat.le_refl _) _
          have hs1 : x1.heap.size = z + 1 := by rw [← hnew, World.size_alloc, hs0]
          have q10 : x1.heap[z]? = some (.cells #[.int .i64 (-A), .int .i64 (-X), .int .i64 (f0 + fhi)] 3) := by rw [← hnew, ← hs0]; exact new_at _ _
          have cT := keep_c hbn cT
          have cg := keep_c hbn cg
          have ck := keep_c hbn ck
          have g1 := keep_c hbn g1
          have g2 := keep_c hbn g2
          have cTf := keep_f hbn (by omega) cTf
          have hBX : Below w8.heap.size w8 x1 := hBX.trans (hbn.mono (by omega))
          try rw [hnew]
          clear hnew hbn
          refine hK.out _ _ (by exact ⟨g1, g2⟩) (fun _ => ?_)
          clear hK K
          try simp only [Act.put, gz1, gz2, gz3, gz4, gz5, gz6]
          refine wpAnyH_ready (rs := [18]) (by kernel_rfl) (by simp) ?_
          refine AllReadyH.cons rfl (fun K hK => ?_) AllReadyH.nil
          go_simp
          obtain ⟨x2, hnew⟩ : ∃ W, x1.alloc (.cells #[.int .i64 (-A), .int .i64 (X), .int .i64 (f0 + flo)] 3) = W := ⟨_, rfl⟩
          have hbn : Below x1.heap.size x1 x2 := by rw [← hnew]; exact (Below.refl _ _).alloc (Nat.le_refl _) _
          have hs2 : x2.heap.size = z + 2 := by rw [← hnew, World.size_alloc, hs1]
          have q18 : x2.heap[z + 1]? = some (.cells #[.int .i64 (-A), .int .i64 (X), .int .i64 (f0 + flo)] 3) := by rw [← hnew, ← hs1]; exact new_at _ _
          have q10 := (hbn.block (z) (by omega)).trans q10
          have cT := keep_c hbn cT
          have cg := keep_c hbn cg
          have ck := keep_c hbn ck
          have g1 := keep_c hbn g1
          have g2 := keep_c hbn g2
          have cTf := keep_f hbn (by omega) cTf
          have hBX : Below w8.heap.size w8 x2 := hBX.trans (hbn.mono (by omega))
          try rw [hnew]
          clear hnew hbn
          refine hK.out _ _ (by exact ⟨g1, g2⟩) (fun _ => ?_)
          clear hK K
          try simp only [Act.put, gz1, gz2, gz3, gz4, gz5, gz6]
          refine wpAnyH_ready (rs := [19]) (by kernel_rfl) (by simp) ?_
          refine AllReadyH.cons rfl (fun K hK => ?_) AllReadyH.nil
          go_simp
          obtain ⟨x3, hnew⟩ : ∃ W, x2.alloc (.cells #[.slice (some ⟨z, 0, none⟩) 3 3, .slice (some ⟨z + 1, 0, none⟩) 3 3] 22) = W := ⟨_, rfl⟩
          have hbn : Below x2.heap.size x2 x3 := by rw [← hnew]; exact (Below.refl _ _).alloc (Nat.le_refl _) _
          have hs3 : x3.heap.size = z + 3 := by rw [← hnew, World.size_alloc, hs2]
          have q19 : x3.heap[z + 2]? = some (.cells #[.slice (some ⟨z, 0, none⟩) 3 3, .slice (some ⟨z + 1, 0, none⟩) 3 3] 22) := by rw [← hnew, ← hs2]; exact new_at _ _
          have q10 := (hbn.block (z) (by omega)).trans q10
          have q18 := (hbn.block (z + 1) (by omega)).trans q18
          have cT := keep_c hbn cT
          have cg := keep_c hbn cg
          have ck := keep_c hbn ck
          have g1 := keep_c hbn g1
          have g2 := keep_c hbn g2
          have cTf := keep_f hbn (by omega) cTf
          have hBX : Below w8.heap.size w8 x3 := hBX.trans (hbn.mono (by omega))
          try rw [hnew]
          clear hnew hbn
          refine hK.out _ _ (by exact ⟨g1, g2⟩) (fun _ => ?_)
          clear hK K
          try simp only [Act.put, gz1, gz2, gz3, gz4, gz5, gz6]
          refine wpAnyH_ready (rs := [20]) (by kernel_rfl) (by simp) ?_
          refine AllReadyH.cons rfl (fun K hK => ?_) AllReadyH.nil
          have hrow := own_below HOM.out.2.1.1 hBX
          rw [HPN.out] at hrow
          refine step_push2 rfl _ _ 29 rfl 22 (.slice none 0 0) 24 Tryz.underlying29 HIN.out rfl (T + 1) (.slice oa pn oc) pn (ps.map Prod.fst) (z + 2) (Value.slice (some ⟨z, 0, none⟩) 3 3) (Value.slice (some ⟨z + 1, 0, none⟩) 3 3) rfl rfl (cell_of q19 rfl) (cell_of q19 rfl) hrow rfl rfl (by omega) (by omega) (by omega) ?_
          intro g9 cap9 w9 hown9 hg9 hat9
          have HI9 : Hid (∀ p ∈ ([(Value.slice (some ⟨z, 0, none⟩) 3 3, [-A, -X, f0 + fhi]), (Value.slice (some ⟨z + 1, 0, none⟩) 3 3, [-A, X, f0 + flo])] : List (Value × List Int)), Ints (fun b => w8.heap.size ≤ b) x3 p.1 p.2) := Lib.hid (by
            intro p hp
            simp only [List.mem_cons, List.not_mem_nil, or_false] at hp
            rcases hp with rfl | rfl
            · exact (ints_block [-A, -X, f0 + fhi] 3 q10 (by simp) (by simp) (by intro y hy; simp at hy; unfold I64; omega)).mono fun b hb => by have hb : b = _ := hb; omega
            · exact (ints_block [-A, X, f0 + flo] 3 q18 (by simp) (by simp) (by intro y hy; simp at hy; unfold I64; omega)).mono fun b hb => by have hb : b = _ := hb; omega
          )
          have HO9 := Lib.hid (HOM.out.push (rs := [(Value.slice (some ⟨z, 0, none⟩) 3 3, [-A, -X, f0 + fhi]), (Value.slice (some ⟨z + 1, 0, none⟩) 3 3, [-A, X, f0 + flo])]) HPN.out hBX HI9.out hg9 hown9 hat9)
          have cT := grown_cell hg9 (fun e => by have := HOB.out _ e.symm; omega) cT
          have cg := grown_cell hg9 (fun e => by have := HOB.out _ e.symm; omega) cg
          have ck := grown_cell hg9 (fun e => by have := HOB.out _ e.symm; omega) ck
          have g1 := grown_cell hg9 (fun e => by have := HOZ.out _ e.symm; omega) g1
          have g2 := grown_cell hg9 (fun e => by have := HOZ.out _ e.symm; omega) g2
          have cTf : ∀ o, w9.frozen? ⟨T, o, none⟩ = false := fun o => grown_froz hg9 (fun e => by have := HOB.out _ e.symm; omega) (by have := hTz; omega) (cTf o)
          have HBF : Hid (Below T w5 (w9.setCell ⟨T, 2, none⟩ (.slice (some ⟨g9, 0, none⟩) (pn + 2) cap9))) := Lib.hid (((HB.out.trans (hBX.mono (by omega))).grown hg9 (by have := hBX.size; have := HB.out.size; omega) (fun b e => by have := HOB.out b e; omega)).setCell (Nat.le_refl T) _)
          clear hown9 hg9 hat9 hrow hBX
          refine hK.out _ _ (by exact ⟨g1, g2⟩) (fun _ => ?_)
          clear hK K
          try simp only [Act.put, gz1, gz2, gz3, gz4, gz5, gz6]
          refine wpAnyH_take (i := 21) (v := ?_) rfl (by kernel_rfl) (by kernel_rfl) (by kernel_rfl) (fun _ _ _ h => h) (Or.inl ⟨by rfl, ?_⟩) (by assumption) ?_
          rotate_left
          · intro w hSw
            try dsimp only at hSw
            go_simp
            try with_reducible rfl
          try simp only [Act.put, gz1, gz2, gz3, gz4, gz5, gz6]
          refine wpAnyH_ready (rs := [22]) (by kernel_rfl) (by simp) ?_
          refine AllReadyH.cons rfl (fun K hK => ?_) AllReadyH.nil
          go_simp
          refine hK.out _ _ (by exact ⟨set_ne (by omega) g1, set_ne (by omega) g2⟩) (fun _ => ?_)
          clear hK K
          try simp only [Act.put, gz1, gz2, gz3, gz4, gz5, gz6]
          refine wpAnyH_done (by kernel_rfl) ?_ _
          have HM9 : Hid (MC = (ps ++ [(Value.slice (some ⟨z, 0, none⟩) 3 3, [-A, -X, f0 + fhi]), (Value.slice (some ⟨z + 1, 0, none⟩) 3 3, [-A, X, f0 + flo])]).map Prod.snd ++ (ndC f0 D ll (ns.drop (q + 1)) (q + 1) ++ lfC f0 ws lvs 0)) := Lib.hid (by rw [HMQ.out]; simp)
          have HL9 : Hid ((ps ++ [(Value.slice (some ⟨z, 0, none⟩) 3 3, [-A, -X, f0 + fhi]), (Value.slice (some ⟨z + 1, 0, none⟩) 3 3, [-A, X, f0 + flo])]).length = 1 + 2 * (q + 1)) := Lib.hid (by have := HPL.out; simp; omega)
          go_wp2_with fail
          go_roundg (gk - 1)
          case measure => omega
          case rel => exact ⟨q + 1, _, _, by omega, by go_num, HBF, HO9, HM9, HL9⟩
        · go_simp
          obtain ⟨x1, hnew⟩ : ∃ W, x0.alloc (.cells #[.int .i64 (-A), .int .i64 (X), .int .i64 (f0 + flo)] 3) = W := ⟨_, rfl⟩
          have hbn : Below x0.heap.size x0 x1 := by rw [← hnew]; exact (Below.refl _ _).alloc (Nat.le_refl _) _
          have hs1 : x1.heap.size = z + 1 := by rw [← hnew, World.size_alloc, hs0]
          have q18 : x1.heap[z]? = some (.cells #[.int .i64 (-A), .int .i64 (X), .int .i64 (f0 + flo)] 3) := by rw [← hnew, ← hs0]; exact new_at _ _
          have cT := keep_c hbn cT
          have cg := keep_c hbn cg
          have ck := keep_c hbn ck
          have g1 := keep_c hbn g1
          have g2 := keep_c hbn g2
          have cTf := keep_f hbn (by omega) cTf
          have hBX : Below w8.heap.size w8 x1 := hBX.trans (hbn.mono (by omega))
          try rw [hnew]
          clear hnew hbn
          refine hK.out _ _ (by exact ⟨g1, g2⟩) (fun _ => ?_)
          clear hK K
          try simp only [Act.put, gz1, gz2, gz3, gz4, gz5, gz6]
          refine wpAnyH_ready (rs := [10]) (by kernel_rfl) (by simp) ?_
          refine AllReadyH.cons rfl (fun K hK => ?_) AllReadyH.nil
          go_simp
          obtain ⟨x2, hnew⟩ : ∃ W, x1.alloc (.cells #[.int .i64 (-A), .int .i64 (-X), .int .i64 (f0 + fhi)] 3) = W := ⟨_, rfl⟩
          have hbn : Below x1.heap.size x1 x2 := by rw [← hnew]; exact (Below.refl _ _).alloc (Nat.le_refl _) _
          have hs2 : x2.heap.size = z + 2 := by rw [← hnew, World.size_alloc, hs1]
          have q10 : x2.heap[z + 1]? = some (.cells #[.int .i64 (-A), .int .i64 (-X), .int .i64 (f0 + fhi)] 3) := by rw [← hnew, ← hs1]; exact new_at _ _
          have q18 := (hbn.block (z) (by omega)).trans q18
          have cT := keep_c hbn cT
          have cg := keep_c hbn cg
          have ck := keep_c hbn ck
          have g1 := keep_c hbn g1
          have g2 := keep_c hbn g2
          have cTf := keep_f hbn (by omega) cTf
          have hBX : Below w8.heap.size w8 x2 := hBX.trans (hbn.mono (by omega))
          try rw [hnew]
          clear hnew hbn
          refine hK.out _ _ (by exact ⟨g1, g2⟩) (fun _ => ?_)
          clear hK K
          try simp only [Act.put, gz1, gz2, gz3, gz4, gz5, gz6]
          refine wpAnyH_ready (rs := [19]) (by kernel_rfl) (by simp) ?_
          refine AllReadyH.cons rfl (fun K hK => ?_) AllReadyH.nil
          go_simp
          obtain ⟨x3, hnew⟩ : ∃ W, x2.alloc (.cells #[.slice (some ⟨z + 1, 0, none⟩) 3 3, .slice (some ⟨z, 0, none⟩) 3 3] 22) = W := ⟨_, rfl⟩
          have hbn : Below x2.heap.size x2 x3 := by rw [← hnew]; exact (Below.refl _ _).alloc (Nat.le_refl _) _
          have hs3 : x3.heap.size = z + 3 := by rw [← hnew, World.size_alloc, hs2]
          have q19 : x3.heap[z + 2]? = some (.cells #[.slice (some ⟨z + 1, 0, none⟩) 3 3, .slice (some ⟨z, 0, none⟩) 3 3] 22) := by rw [← hnew, ← hs2]; exact new_at _ _
          have q18 := (hbn.block (z) (by omega)).trans q18
          have q10 := (hbn.block (z + 1) (by omega)).trans q10
          have cT := keep_c hbn cT
          have cg := keep_c hbn cg
          have ck := keep_c hbn ck
          have g1 := keep_c hbn g1
          have g2 := keep_c hbn g2
          have cTf := keep_f hbn (by omega) cTf
          have hBX : Below w8.heap.size w8 x3 := hBX.trans (hbn.mono (by omega))
          try rw [hnew]
          clear hnew hbn
          refine hK.out _ _ (by exact ⟨g1, g2⟩) (fun _ => ?_)
          clear hK K
          try simp only [Act.put, gz1, gz2, gz3, gz4, gz5, gz6]
          refine wpAnyH_ready (rs := [20]) (by kernel_rfl) (by simp) ?_
          refine AllReadyH.cons rfl (fun K hK => ?_) AllReadyH.nil
          have hrow := own_below HOM.out.2.1.1 hBX
          rw [HPN.out] at hrow
          refine step_push2 rfl _ _ 29 rfl 22 (.slice none 0 0) 24 Tryz.underlying29 HIN.out rfl (T + 1) (.slice oa pn oc) pn (ps.map Prod.fst) (z + 2) (Value.slice (some ⟨z + 1, 0, none⟩) 3 3) (Value.slice (some ⟨z, 0, none⟩) 3 3) rfl rfl (cell_of q19 rfl) (cell_of q19 rfl) hrow rfl rfl (by omega) (by omega) (by omega) ?_
          intro g9 cap9 w9 hown9 hg9 hat9
          have HI9 : Hid (∀ p ∈ ([(Value.slice (some ⟨z + 1, 0, none⟩) 3 3, [-A, -X, f0 + fhi]), (Value.slice (some ⟨z, 0, none⟩) 3 3, [-A, X, f0 + flo])] : List (Value × List Int)), Ints (fun b => w8.heap.size ≤ b) x3 p.1 p.2) := Lib.hid (by
            intro p hp
            simp only [List.mem_cons, List.not_mem_nil, or_false] at hp
            rcases hp with rfl | rfl
            · exact (ints_block [-A, -X, f0 + fhi] 3 q10 (by simp) (by simp) (by intro y hy; simp at hy; unfold I64; omega)).mono fun b hb => by have hb : b = _ := hb; omega
            · exact (ints_block [-A, X, f0 + flo] 3 q18 (by simp) (by simp) (by intro y hy; simp at hy; unfold I64; omega)).mono fun b hb => by have hb : b = _ := hb; omega
          )
          have HO9 := Lib.hid (HOM.out.push (rs := [(Value.slice (some ⟨z + 1, 0, none⟩) 3 3, [-A, -X, f0 + fhi]), (Value.slice (some ⟨z, 0, none⟩) 3 3, [-A, X, f0 + flo])]) HPN.out hBX HI9.out hg9 hown9 hat9)
          have cT := grown_cell hg9 (fun e => by have := HOB.out _ e.symm; omega) cT
          have cg := grown_cell hg9 (fun e => by have := HOB.out _ e.symm; omega) cg
          have ck := grown_cell hg9 (fun e => by have := HOB.out _ e.symm; omega) ck
          have g1 := grown_cell hg9 (fun e => by have := HOZ.out _ e.symm; omega) g1
          have g2 := grown_cell hg9 (fun e => by have := HOZ.out _ e.symm; omega) g2
          have cTf : ∀ o, w9.frozen? ⟨T, o, none⟩ = false := fun o => grown_froz hg9 (fun e => by have := HOB.out _ e.symm; omega) (by have := hTz; omega) (cTf o)
          have HBF : Hid (Below T w5 (w9.setCell ⟨T, 2, none⟩ (.slice (some ⟨g9, 0, none⟩) (pn + 2) cap9))) := Lib.hid (((HB.out.trans (hBX.mono (by omega))).grown hg9 (by have := hBX.size; have := HB.out.size; omega) (fun b e => by have := HOB.out b e; omega)).setCell (Nat.le_refl T) _)
          clear hown9 hg9 hat9 hrow hBX
          refine hK.out _ _ (by exact ⟨g1, g2⟩) (fun _ => ?_)
          clear hK K
          try simp only [Act.put, gz1, gz2, gz3, gz4, gz5, gz6]
          refine wpAnyH_take (i := 21) (v := ?_) rfl (by kernel_rfl) (by kernel_rfl) (by kernel_rfl) (fun _ _ _ h => h) (Or.inl ⟨by rfl, ?_⟩) (by assumption) ?_
          rotate_left
          · intro w hSw
            try dsimp only at hSw
            go_simp
            try with_reducible rfl
          try simp only [Act.put, gz1, gz2, gz3, gz4, gz5, gz6]
          refine wpAnyH_ready (rs := [22]) (by kernel_rfl) (by simp) ?_
          refine AllReadyH.cons rfl (fun K hK => ?_) AllReadyH.nil
          go_simp
          refine hK.out _ _ (by exact ⟨set_ne (by omega) g1, set_ne (by omega) g2⟩) (fun _ => ?_)
          clear hK K
          try simp only [Act.put, gz1, gz2, gz3, gz4, gz5, gz6]
          refine wpAnyH_done (by kernel_rfl) ?_ _
          have HM9 : Hid (MC = (ps ++ [(Value.slice (some ⟨z + 1, 0, none⟩) 3 3, [-A, -X, f0 + fhi]), (Value.slice (some ⟨z, 0, none⟩) 3 3, [-A, X, f0 + flo])]).map Prod.snd ++ (ndC f0 D ll (ns.drop (q + 1)) (q + 1) ++ lfC f0 ws lvs 0)) := Lib.hid (by rw [HMQ.out]; simp)
          have HL9 : Hid ((ps ++ [(Value.slice (some ⟨z + 1, 0, none⟩) 3 3, [-A, -X, f0 + fhi]), (Value.slice (some ⟨z, 0, none⟩) 3 3, [-A, X, f0 + flo])]).length = 1 + 2 * (q + 1)) := Lib.hid (by have := HPL.out; simp; omega)
          go_wp2_with fail
          go_roundg (gk - 1)
          case measure => omega
          case rel => exact ⟨q + 1, _, _, by omega, by go_num, HBF, HO9, HM9, HL9⟩
    · go_simp
      obtain ⟨x1, hnew⟩ : ∃ W, x0.alloc (.cells #[.int .i64 (-A), .int .i64 (-X), .int .i64 (f0 + fhi)] 3) = W := ⟨_, rfl⟩
      have hbn : Below x0.heap.size x0 x1 := by rw [← hnew]; exact (Below.refl _ _).alloc (Nat.le_refl _) _
      have hs1 : x1.heap.size = z + 1 := by rw [← hnew, World.size_alloc, hs0]
      have q10 : x1.heap[z]? = some (.cells #[.int .i64 (-A), .int .i64 (-X), .int .i64 (f0 + fhi)] 3) := by rw [← hnew, ← hs0]; exact new_at _ _
      have cT := keep_c hbn cT
      have cg := keep_c hbn cg
      have ck := keep_c hbn ck
      have g1 := keep_c hbn g1
      have g2 := keep_c hbn g2
      have cTf := keep_f hbn (by omega) cTf
      have hBX : Below w8.heap.size w8 x1 := hBX.trans (hbn.mono (by omega))
      try rw [hnew]
      clear hnew hbn
      refine hK.out _ _ (by exact ⟨g1, g2⟩) (fun _ => ?_)
      clear hK K
      try simp only [Act.put, gz1, gz2, gz3, gz4, gz5, gz6]
      refine wpAnyH_ready (rs := [1, 17]) (by kernel_rfl) (by simp) ?_
      refine AllReadyH.cons rfl (fun K hK => ?_) (AllReadyH.cons rfl (fun K hK => ?_) AllReadyH.nil)
      · go_simp
        refine hK.out _ _ (by exact ⟨g1, g2⟩) (fun _ => ?_)
        clear hK K
        try simp only [Act.put, gz1, gz2, gz3, gz4, gz5, gz6]
        refine wpAnyH_ready (rs := [17]) (by kernel_rfl) (by simp) ?_
        refine AllReadyH.cons rfl (fun K hK => ?_) AllReadyH.nil
        go_simp
        go_at_call 25
        (with_reducible refine (HNM.out _ _ cg ck (by omega)).mono ?_)
        rintro e w8 ⟨rfl, rfl⟩
        go_wp2_with fail
        refine hK.out _ _ (by exact ⟨g1, g2⟩) (fun _ => ?_)
        clear hK K
        try simp only [Act.put, gz1, gz2, gz3, gz4, gz5, gz6]
        refine wpAnyH_ready (rs := [18]) (by kernel_rfl) (by simp) ?_
        refine AllReadyH.cons rfl (fun K hK => ?_) AllReadyH.nil
        go_simp
        obtain ⟨x2, hnew⟩ : ∃ W, x1.alloc (.cells #[.int .i64 (-A), .int .i64 (X), .int .i64 (f0 + flo)] 3) = W := ⟨_, rfl⟩
        have hbn : Below x1.heap.size x1 x2 := by rw [← hnew]; exact (Below.refl _ _).alloc (Nat.le_refl _) _
        have hs2 : x2.heap.size = z + 2 := by rw [← hnew, World.size_alloc, hs1]
        have q18 : x2.heap[z + 1]? = some (.cells #[.int .i64 (-A), .int .i64 (X), .int .i64 (f0 + flo)] 3) := by rw [← hnew, ← hs1]; exact new_at _ _
        have q10 := (hbn.block (z) (by omega)).trans q10
        have cT := keep_c hbn cT
        have cg := keep_c hbn cg
        have ck := keep_c hbn ck
        have g1 := keep_c hbn g1
        have g2 := keep_c hbn g2
        have cTf := keep_f hbn (by omega) cTf
        have hBX : Below w8.heap.size w8 x2 := hBX.trans (hbn.mono (by omega))
        try rw [hnew]
        clear hnew hbn
        refine hK.out _ _ (by exact ⟨g1, g2⟩) (fun _ => ?_)
        clear hK K
        try simp only [Act.put, gz1, gz2, gz3, gz4, gz5, gz6]
        refine wpAnyH_ready (rs := [19]) (by kernel_rfl) (by simp) ?_
        refine AllReadyH.cons rfl (fun K hK => ?_) AllReadyH.nil
        go_simp
        obtain ⟨x3, hnew⟩ : ∃ W, x2.alloc (.cells #[.slice (some ⟨z, 0, none⟩) 3 3, .slice (some ⟨z + 1, 0, none⟩) 3 3] 22) = W := ⟨_, rfl⟩
        have hbn : Below x2.heap.size x2 x3 := by rw [← hnew]; exact (Below.refl _ _).alloc (Nat.le_refl _) _
        have hs3 : x3.heap.size = z + 3 := by rw [← hnew, World.size_alloc, hs2]
        have q19 : x3.heap[z + 2]? = some (.cells #[.slice (some ⟨z, 0, none⟩) 3 3, .slice (some ⟨z + 1, 0, none⟩) 3 3] 22) := by rw [← hnew, ← hs2]; exact new_at _ _
        have q10 := (hbn.block (z) (by omega)).trans q10
        have q18 := (hbn.block (z + 1) (by omega)).trans q18
        have cT := keep_c hbn cT
        have cg := keep_c hbn cg
        have ck := keep_c hbn ck
        have g1 := keep_c hbn g1
        have g2 := keep_c hbn g2
        have cTf := keep_f hbn (by omega) cTf
        have hBX : Below w8.heap.size w8 x3 := hBX.trans (hbn.mono (by omega))
        try rw [hnew]
        clear hnew hbn
        refine hK.out _ _ (by exact ⟨g1, g2⟩) (fun _ => ?_)
        clear hK K
        try simp only [Act.put, gz1, gz2, gz3, gz4, gz5, gz6]
        refine wpAnyH_ready (rs := [20]) (by kernel_rfl) (by simp) ?_
        refine AllReadyH.cons rfl (fun K hK => ?_) AllReadyH.nil
        have hrow := own_below HOM.out.2.1.1 hBX
        rw [HPN.out] at hrow
        refine step_push2 rfl _ _ 29 rfl 22 (.slice none 0 0) 24 Tryz.underlying29 HIN.out rfl (T + 1) (.slice oa pn oc) pn (ps.map Prod.fst) (z + 2) (Value.slice (some ⟨z, 0, none⟩) 3 3) (Value.slice (some ⟨z + 1, 0, none⟩) 3 3) rfl rfl (cell_of q19 rfl) (cell_of q19 rfl) hrow rfl rfl (by omega) (by omega) (by omega) ?_
        intro g9 cap9 w9 hown9 hg9 hat9
        have HI9 : Hid (∀ p ∈ ([(Value.slice (some ⟨z, 0, none⟩) 3 3, [-A, -X, f0 + fhi]), (Value.slice (some ⟨z + 1, 0, none⟩) 3 3, [-A, X, f0 + flo])] : List (Value × List Int)), Ints (fun b => w8.heap.size ≤ b) x3 p.1 p.2) := Lib.hid (by
          intro p hp
          simp only [List.mem_cons, List.not_mem_nil, or_false] at hp
          rcases hp with rfl | rfl
          · exact (ints_block [-A, -X, f0 + fhi] 3 q10 (by simp) (by simp) (by intro y hy; simp at hy; unfold I64; omega)).mono fun b hb => by have hb : b = _ := hb; omega
          · exact (ints_block [-A, X, f0 + flo] 3 q18 (by simp) (by simp) (by intro y hy; simp at hy; unfold I64; omega)).mono fun b hb => by have hb : b = _ := hb; omega
        )
        have HO9 := Lib.hid (HOM.out.push (rs := [(Value.slice (some ⟨z, 0, none⟩) 3 3, [-A, -X, f0 + fhi]), (Value.slice (some ⟨z + 1, 0, none⟩) 3 3, [-A, X, f0 + flo])]) HPN.out hBX HI9.out hg9 hown9 hat9)
        have cT := grown_cell hg9 (fun e => by have := HOB.out _ e.symm; omega) cT
        have cg := grown_cell hg9 (fun e => by have := HOB.out _ e.symm; omega) cg
        have ck := grown_cell hg9 (fun e => by have := HOB.out _ e.symm; omega) ck
        have g1 := grown_cell hg9 (fun e => by have := HOZ.out _ e.symm; omega) g1
        have g2 := grown_cell hg9 (fun e => by have := HOZ.out _ e.symm; omega) g2
        have cTf : ∀ o, w9.frozen? ⟨T, o, none⟩ = false := fun o => grown_froz hg9 (fun e => by have := HOB.out _ e.symm; omega) (by have := hTz; omega) (cTf o)
        have HBF : Hid (Below T w5 (w9.setCell ⟨T, 2, none⟩ (.slice (some ⟨g9, 0, none⟩) (pn + 2) cap9))) := Lib.hid (((HB.out.trans (hBX.mono (by omega))).grown hg9 (by have := hBX.size; have := HB.out.size; omega) (fun b e => by have := HOB.out b e; omega)).setCell (Nat.le_refl T) _)
        clear hown9 hg9 hat9 hrow hBX
        refine hK.out _ _ (by exact ⟨g1, g2⟩) (fun _ => ?_)
        clear hK K
        try simp only [Act.put, gz1, gz2, gz3, gz4, gz5, gz6]
        refine wpAnyH_take (i := 21) (v := ?_) rfl (by kernel_rfl) (by kernel_rfl) (by kernel_rfl) (fun _ _ _ h => h) (Or.inl ⟨by rfl, ?_⟩) (by assumption) ?_
        rotate_left
        · intro w hSw
          try dsimp only at hSw
          go_simp
          try with_reducible rfl
        try simp only [Act.put, gz1, gz2, gz3, gz4, gz5, gz6]
        refine wpAnyH_ready (rs := [22]) (by kernel_rfl) (by simp) ?_
        refine AllReadyH.cons rfl (fun K hK => ?_) AllReadyH.nil
        go_simp
        refine hK.out _ _ (by exact ⟨set_ne (by omega) g1, set_ne (by omega) g2⟩) (fun _ => ?_)
        clear hK K
        try simp only [Act.put, gz1, gz2, gz3, gz4, gz5, gz6]
        refine wpAnyH_done (by kernel_rfl) ?_ _
        have HM9 : Hid (MC = (ps ++ [(Value.slice (some ⟨z, 0, none⟩) 3 3, [-A, -X, f0 + fhi]), (Value.slice (some ⟨z + 1, 0, none⟩) 3 3, [-A, X, f0 + flo])]).map Prod.snd ++ (ndC f0 D ll (ns.drop (q + 1)) (q + 1) ++ lfC f0 ws lvs 0)) := Lib.hid (by rw [HMQ.out]; simp)
        have HL9 : Hid ((ps ++ [(Value.slice (some ⟨z, 0, none⟩) 3 3, [-A, -X, f0 + fhi]), (Value.slice (some ⟨z + 1, 0, none⟩) 3 3, [-A, X, f0 + flo])]).length = 1 + 2 * (q + 1)) := Lib.hid (by have := HPL.out; simp; omega)
        go_wp2_with fail
        go_roundg (gk - 1)
        case measure => omega
        case rel => exact ⟨q + 1, _, _, by omega, by go_num, HBF, HO9, HM9, HL9⟩
      · go_simp
        go_at_call 25
        (with_reducible refine (HNM.out _ _ cg ck (by omega)).mono ?_)
        rintro e w8 ⟨rfl, rfl⟩
        go_wp2_with fail
        refine hK.out _ _ (by exact ⟨g1, g2⟩) (fun _ => ?_)
        clear hK K
        try simp only [Act.put, gz1, gz2, gz3, gz4, gz5, gz6]
        refine wpAnyH_ready (rs := [1, 18]) (by kernel_rfl) (by simp) ?_
        refine AllReadyH.cons rfl (fun K hK => ?_) (AllReadyH.cons rfl (fun K hK => ?_) AllReadyH.nil)
        · go_simp
          refine hK.out _ _ (by exact ⟨g1, g2⟩) (fun _ => ?_)
          clear hK K
          try simp only [Act.put, gz1, gz2, gz3, gz4, gz5, gz6]
          refine wpAnyH_ready (rs := [18]) (by kernel_rfl) (by simp) ?_
          refine AllReadyH.cons rfl (fun K hK => ?_) AllReadyH.nil
          go_simp
          obtain ⟨x2, hnew⟩ : ∃ W, x1.alloc (.cells #[.int .i64 (-A), .int .i64 (X), .int .i64 (f0 + flo)] 3) = W := ⟨_, rfl⟩
          have hbn : Below x1.heap.size x1 x2 := by rw [← hnew]; exact (Below.refl _ _).alloc (Nat.le_refl _) _
          have hs2 : x2.heap.size = z + 2 := by rw [← hnew, World.size_alloc, hs1]
          have q18 : x2.heap[z + 1]? = some (.cells #[.int .i64 (-A), .int .i64 (X), .int .i64 (f0 + flo)] 3) := by rw [← hnew, ← hs1]; exact new_at _ _
          have q10 := (hbn.block (z) (by omega)).trans q10
          have cT := keep_c hbn cT
          have cg := keep_c hbn cg
          have ck := keep_c hbn ck
          have g1 := keep_c hbn g1
          have g2 := keep_c hbn g2
          have cTf := keep_f hbn (by omega) cTf
          have hBX : Below w8.heap.size w8 x2 := hBX.trans (hbn.mono (by omega))
          try rw [hnew]
          clear hnew hbn
          refine hK.out _ _ (by exact ⟨g1, g2⟩) (fun _ => ?_)
          clear hK K
          try simp only [Act.put, gz1, gz2, gz3, gz4, gz5, gz6]
          refine wpAnyH_ready (rs := [19]) (by kernel_rfl) (by simp) ?_
          refine AllReadyH.cons rfl (fun K hK => ?_) AllReadyH.nil
          go_simp
          obtain ⟨x3, hnew⟩ : ∃ W, x2.alloc (.cells #[.slice (some ⟨z, 0, none⟩) 3 3, .slice (some ⟨z + 1, 0, none⟩) 3 3] 22) = W := ⟨_, rfl⟩
          have hbn : Below x2.heap.size x2 x3 := by rw [← hnew]; exact (Below.refl _ _).alloc (Nat.le_refl _) _
          have hs3 : x3.heap.size = z + 3 := by rw [← hnew, World.size_alloc, hs2]
          have q19 : x3.heap[z + 2]? = some (.cells #[.slice (some ⟨z, 0, none⟩) 3 3, .slice (some ⟨z + 1, 0, none⟩) 3 3] 22) := by rw [← hnew, ← hs2]; exact new_at _ _
          have q10 := (hbn.block (z) (by omega)).trans q10
          have q18 := (hbn.block (z + 1) (by omega)).trans q18
          have cT := keep_c hbn cT
          have cg := keep_c hbn cg
          have ck := keep_c hbn ck
          have g1 := keep_c hbn g1
          have g2 := keep_c hbn g2
          have cTf := keep_f hbn (by omega) cTf
          have hBX : Below w8.heap.size w8 x3 := hBX.trans (hbn.mono (by omega))
          try rw [hnew]
          clear hnew hbn
          refine hK.out _ _ (by exact ⟨g1, g2⟩) (fun _ => ?_)
          clear hK K
          try simp only [Act.put, gz1, gz2, gz3, gz4, gz5, gz6]
          refine wpAnyH_ready (rs := [20]) (by kernel_rfl) (by simp) ?_
          refine AllReadyH.cons rfl (fun K hK => ?_) AllReadyH.nil
          have hrow := own_below HOM.out.2.1.1 hBX
          rw [HPN.out] at hrow
          refine step_push2 rfl _ _ 29 rfl 22 (.slice none 0 0) 24 Tryz.underlying29 HIN.out rfl (T + 1) (.slice oa pn oc) pn (ps.map Prod.fst) (z + 2) (Value.slice (some ⟨z, 0, none⟩) 3 3) (Value.slice (some ⟨z + 1, 0, none⟩) 3 3) rfl rfl (cell_of q19 rfl) (cell_of q19 rfl) hrow rfl rfl (by omega) (by omega) (by omega) ?_
          intro g9 cap9 w9 hown9 hg9 hat9
          have HI9 : Hid (∀ p ∈ ([(Value.slice (some ⟨z, 0, none⟩) 3 3, [-A, -X, f0 + fhi]), (Value.slice (some ⟨z + 1, 0, none⟩) 3 3, [-A, X, f0 + flo])] : List (Value × List Int)), Ints (fun b => w8.heap.size ≤ b) x3 p.1 p.2) := Lib.hid (by
            intro p hp
            simp only [List.mem_cons, List.not_mem_nil, or_false] at hp
            rcases hp with rfl | rfl
            · exact (ints_block [-A, -X, f0 + fhi] 3 q10 (by simp) (by simp) (by intro y hy; simp at hy; unfold I64; omega)).mono fun b hb => by have hb : b = _ := hb; omega
            · exact (ints_block [-A, X, f0 + flo] 3 q18 (by simp) (by simp) (by intro y hy; simp at hy; unfold I64; omega)).mono fun b hb => by have hb : b = _ := hb; omega
          )
          have HO9 := Lib.hid (HOM.out.push (rs := [(Value.slice (some ⟨z, 0, none⟩) 3 3, [-A, -X, f0 + fhi]), (Value.slice (some ⟨z + 1, 0, none⟩) 3 3, [-A, X, f0 + flo])]) HPN.out hBX HI9.out hg9 hown9 hat9)
          have cT := grown_cell hg9 (fun e => by have := HOB.out _ e.symm; omega) cT
          have cg := grown_cell hg9 (fun e => by have := HOB.out _ e.symm; omega) cg
          have ck := grown_cell hg9 (fun e => by have := HOB.out _ e.symm; omega) ck
          have g1 := grown_cell hg9 (fun e => by have := HOZ.out _ e.symm; omega) g1
          have g2 := grown_cell hg9 (fun e => by have := HOZ.out _ e.symm; omega) g2
          have cTf : ∀ o, w9.frozen? ⟨T, o, none⟩ = false := fun o => grown_froz hg9 (fun e => by have := HOB.out _ e.symm; omega) (by have := hTz; omega) (cTf o)
          have HBF : Hid (Below T w5 (w9.setCell ⟨T, 2, none⟩ (.slice (some ⟨g9, 0, none⟩) (pn + 2) cap9))) := Lib.hid (((HB.out.trans (hBX.mono (by omega))).grown hg9 (by have := hBX.size; have := HB.out.size; omega) (fun b e => by have := HOB.out b e; omega)).setCell (Nat.le_refl T) _)
          clear hown9 hg9 hat9 hrow hBX
          refine hK.out _ _ (by exact ⟨g1, g2⟩) (fun _ => ?_)
          clear hK K
          try simp only [Act.put, gz1, gz2, gz3, gz4, gz5, gz6]
          refine wpAnyH_take (i := 21) (v := ?_) rfl (by kernel_rfl) (by kernel_rfl) (by kernel_rfl) (fun _ _ _ h => h) (Or.inl ⟨by rfl, ?_⟩) (by assumption) ?_
          rotate_left
          · intro w hSw
            try dsimp only at hSw
            go_simp
            try with_reducible rfl
          try simp only [Act.put, gz1, gz2, gz3, gz4, gz5, gz6]
          refine wpAnyH_ready (rs := [22]) (by kernel_rfl) (by simp) ?_
          refine AllReadyH.cons rfl (fun K hK => ?_) AllReadyH.nil
          go_simp
          refine hK.out _ _ (by exact ⟨set_ne (by omega) g1, set_ne (by omega) g2⟩) (fun _ => ?_)
          clear hK K
          try simp only [Act.put, gz1, gz2, gz3, gz4, gz5, gz6]
          refine wpAnyH_done (by kernel_rfl) ?_ _
          have HM9 : Hid (MC = (ps ++ [(Value.slice (some ⟨z, 0, none⟩) 3 3, [-A, -X, f0 + fhi]), (Value.slice (some ⟨z + 1, 0, none⟩) 3 3, [-A, X, f0 + flo])]).map Prod.snd ++ (ndC f0 D ll (ns.drop (q + 1)) (q + 1) ++ lfC f0 ws lvs 0)) := Lib.hid (by rw [HMQ.out]; simp)
          have HL9 : Hid ((ps ++ [(Value.slice (some ⟨z, 0, none⟩) 3 3, [-A, -X, f0 + fhi]), (Value.slice (some ⟨z + 1, 0, none⟩) 3 3, [-A, X, f0 + flo])]).length = 1 + 2 * (q + 1)) := Lib.hid (by have := HPL.out; simp; omega)
          go_wp2_with fail
          go_roundg (gk - 1)
          case measure => omega
          case rel => exact ⟨q + 1, _, _, by omega, by go_num, HBF, HO9, HM9, HL9⟩
        · go_simp
          obtain ⟨x2, hnew⟩ : ∃ W, x1.alloc (.cells #[.int .i64 (-A), .int .i64 (X), .int .i64 (f0 + flo)] 3) = W := ⟨_, rfl⟩
          have hbn : Below x1.heap.size x1 x2 := by rw [← hnew]; exact (Below.refl _ _).alloc (Nat.le_refl _) _
          have hs2 : x2.heap.size = z + 2 := by rw [← hnew, World.size_alloc, hs1]
          have q18 : x2.heap[z + 1]? = some (.cells #[.int .i64 (-A), .int .i64 (X), .int .i64 (f0 + flo)] 3) := by rw [← hnew, ← hs1]; exact new_at _ _
          have q10 := (hbn.block (z) (by omega)).trans q10
          have cT := keep_c hbn cT
          have cg := keep_c hbn cg
          have ck := keep_c hbn ck
          have g1 := keep_c hbn g1
          have g2 := keep_c hbn g2
          have cTf := keep_f hbn (by omega) cTf
          have hBX : Below w8.heap.size w8 x2 := hBX.trans (hbn.mono (by omega))
          try rw [hnew]
          clear hnew hbn
          refine hK.out _ _ (by exact ⟨g1, g2⟩) (fun _ => ?_)
          clear hK K
          try simp only [Act.put, gz1, gz2, gz3, gz4, gz5, gz6]
          refine wpAnyH_ready (rs := [1, 19]) (by kernel_rfl) (by simp) ?_
          refine AllReadyH.cons rfl (fun K hK => ?_) (AllReadyH.cons rfl (fun K hK => ?_) AllReadyH.nil)
          · go_simp
            refine hK.out _ _ (by exact ⟨g1, g2⟩) (fun _ => ?_)
            clear hK K
            try simp only [Act.put, gz1, gz2, gz3, gz4, gz5, gz6]
            refine wpAnyH_ready (rs := [19]) (by kernel_rfl) (by simp) ?_
            refine AllReadyH.cons rfl (fun K hK => ?_) AllReadyH.nil
            go_simp
            obtain ⟨x3, hnew⟩ : ∃ W, x2.alloc (.cells #[.slice (some ⟨z, 0, none⟩) 3 3, .slice (some ⟨z + 1, 0, none⟩) 3 3] 22) = W := ⟨_, rfl⟩
            have hbn : Below x2.heap.size x2 x3 := by rw [← hnew]; exact (Below.refl _ _).alloc (Nat.le_refl _) _
            have hs3 : x3.heap.size = z + 3 := by rw [← hnew, World.size_alloc, hs2]
            have q19 : x3.heap[z + 2]? = some (.cells #[.slice (some ⟨z, 0, none⟩) 3 3, .slice (some ⟨z + 1, 0, none⟩) 3 3] 22) := by rw [← hnew, ← hs2]; exact new_at _ _
            have q10 := (hbn.block (z) (by omega)).trans q10
            have q18 := (hbn.block (z + 1) (by omega)).trans q18
            have cT := keep_c hbn cT
            have cg := keep_c hbn cg
            have ck := keep_c hbn ck
            have g1 := keep_c hbn g1
            have g2 := keep_c hbn g2
            have cTf := keep_f hbn (by omega) cTf
            have hBX : Below w8.heap.size w8 x3 := hBX.trans (hbn.mono (by omega))
            try rw [hnew]
            clear hnew hbn
            refine hK.out _ _ (by exact ⟨g1, g2⟩) (fun _ => ?_)
            clear hK K
            try simp only [Act.put, gz1, gz2, gz3, gz4, gz5, gz6]
            refine wpAnyH_ready (rs := [20]) (by kernel_rfl) (by simp) ?_
            refine AllReadyH.cons rfl (fun K hK => ?_) AllReadyH.nil
            have hrow := own_below HOM.out.2.1.1 hBX
            rw [HPN.out] at hrow
            refine step_push2 rfl _ _ 29 rfl 22 (.slice none 0 0) 24 Tryz.underlying29 HIN.out rfl (T + 1) (.slice oa pn oc) pn (ps.map Prod.fst) (z + 2) (Value.slice (some ⟨z, 0, none⟩) 3 3) (Value.slice (some ⟨z + 1, 0, none⟩) 3 3) rfl rfl (cell_of q19 rfl) (cell_of q19 rfl) hrow rfl rfl (by omega) (by omega) (by omega) ?_
            intro g9 cap9 w9 hown9 hg9 hat9
            have HI9 : Hid (∀ p ∈ ([(Value.slice (some ⟨z, 0, none⟩) 3 3, [-A, -X, f0 + fhi]), (Value.slice (some ⟨z + 1, 0, none⟩) 3 3, [-A, X, f0 + flo])] : List (Value × List Int)), Ints (fun b => w8.heap.size ≤ b) x3 p.1 p.2) := Lib.hid (by
              intro p hp
              simp only [List.mem_cons, List.not_mem_nil, or_false] at hp
              rcases hp with rfl | rfl
              · exact (ints_block [-A, -X, f0 + fhi] 3 q10 (by simp) (by simp) (by intro y hy; simp at hy; unfold I64; omega)).mono fun b hb => by have hb : b = _ := hb; omega
              · exact (ints_block [-A, X, f0 + flo] 3 q18 (by simp) (by simp) (by intro y hy; simp at hy; unfold I64; omega)).mono fun b hb => by have hb : b = _ := hb; omega
            )
            have HO9 := Lib.hid (HOM.out.push (rs := [(Value.slice (some ⟨z, 0, none⟩) 3 3, [-A, -X, f0 + fhi]), (Value.slice (some ⟨z + 1, 0, none⟩) 3 3, [-A, X, f0 + flo])]) HPN.out hBX HI9.out hg9 hown9 hat9)
            have cT := grown_cell hg9 (fun e => by have := HOB.out _ e.symm; omega) cT
            have cg := grown_cell hg9 (fun e => by have := HOB.out _ e.symm; omega) cg
            have ck := grown_cell hg9 (fun e => by have := HOB.out _ e.symm; omega) ck
            have g1 := grown_cell hg9 (fun e => by have := HOZ.out _ e.symm; omega) g1
            have g2 := grown_cell hg9 (fun e => by have := HOZ.out _ e.symm; omega) g2
            have cTf : ∀ o, w9.frozen? ⟨T, o, none⟩ = false := fun o => grown_froz hg9 (fun e => by have := HOB.out _ e.symm; omega) (by have := hTz; omega) (cTf o)
            have HBF : Hid (Below T w5 (w9.setCell ⟨T, 2, none⟩ (.slice (some ⟨g9, 0, none⟩) (pn + 2) cap9))) := Lib.hid (((HB.out.trans (hBX.mono (by omega))).grown hg9 (by have := hBX.size; have := HB.out.size; omega) (fun b e => by have := HOB.out b e; omega)).setCell (Nat.le_refl T) _)
            clear hown9 hg9 hat9 hrow hBX
            refine hK.out _ _ (by exact ⟨g1, g2⟩) (fun _ => ?_)
            clear hK K
            try simp only [Act.put, gz1, gz2, gz3, gz4, gz5, gz6]
            refine wpAnyH_take (i := 21) (v := ?_) rfl (by kernel_rfl) (by kernel_rfl) (by kernel_rfl) (fun _ _ _ h => h) (Or.inl ⟨by rfl, ?_⟩) (by assumption) ?_
            rotate_left
            · intro w hSw
              try dsimp only at hSw
              go_simp
              try with_reducible rfl
            try simp only [Act.put, gz1, gz2, gz3, gz4, gz5, gz6]
            refine wpAnyH_ready (rs := [22]) (by kernel_rfl) (by simp) ?_
            refine AllReadyH.cons rfl (fun K hK => ?_) AllReadyH.nil
            go_simp
            refine hK.out _ _ (by exact ⟨set_ne (by omega) g1, set_ne (by omega) g2⟩) (fun _ => ?_)
            clear hK K
            try simp only [Act.put, gz1, gz2, gz3, gz4, gz5, gz6]
            refine wpAnyH_done (by kernel_rfl) ?_ _
            have HM9 : Hid (MC = (ps ++ [(Value.slice (some ⟨z, 0, none⟩) 3 3, [-A, -X, f0 + fhi]), (Value.slice (some ⟨z + 1, 0, none⟩) 3 3, [-A, X, f0 + flo])]).map Prod.snd ++ (ndC f0 D ll (ns.drop (q + 1)) (q + 1) ++ lfC f0 ws lvs 0)) := Lib.hid (by rw [HMQ.out]; simp)
            have HL9 : Hid ((ps ++ [(Value.slice (some ⟨z, 0, none⟩) 3 3, [-A, -X, f0 + fhi]), (Value.slice (some ⟨z + 1, 0, none⟩) 3 3, [-A, X, f0 + flo])]).length = 1 + 2 * (q + 1)) := Lib.hid (by have := HPL.out; simp; omega)
            go_wp2_with fail
            go_roundg (gk - 1)
            case measure => omega
            case rel => exact ⟨q + 1, _, _, by omega, by go_num, HBF, HO9, HM9, HL9⟩
          · go_simp
            obtain ⟨x3, hnew⟩ : ∃ W, x2.alloc (.cells #[.slice (some ⟨z, 0, none⟩) 3 3, .slice (some ⟨z + 1, 0, none⟩) 3 3] 22) = W := ⟨_, rfl⟩
            have hbn : Below x2.heap.size x2 x3 := by rw [← hnew]; exact (Below.refl _ _).alloc (Nat.le_refl _) _
            have hs3 : x3.heap.size = z + 3 := by rw [← hnew, World.size_alloc, hs2]
            have q19 : x3.heap[z + 2]? = some (.cells #[.slice (some ⟨z, 0, none⟩) 3 3, .slice (some ⟨z + 1, 0, none⟩) 3 3] 22) := by rw [← hnew, ← hs2]; exact new_at _ _
            have q10 := (hbn.block (z) (by omega)).trans q10
            have q18 := (hbn.block (z + 1) (by omega)).trans q18
            have cT := keep_c hbn cT
            have cg := keep_c hbn cg
            have ck := keep_c hbn ck
            have g1 := keep_c hbn g1
            have g2 := keep_c hbn g2
            have cTf := keep_f hbn (by omega) cTf
            have hBX : Below w8.heap.size w8 x3 := hBX.trans (hbn.mono (by omega))
            try rw [hnew]
            clear hnew hbn
            refine hK.out _ _ (by exact ⟨g1, g2⟩) (fun _ => ?_)
            clear hK K
            try simp only [Act.put, gz1, gz2, gz3, gz4, gz5, gz6]
            refine wpAnyH_ready (rs := [1]) (by kernel_rfl) (by simp) ?_
            refine AllReadyH.cons rfl (fun K hK => ?_) AllReadyH.nil
            go_simp
            refine hK.out _ _ (by exact ⟨g1, g2⟩) (fun _ => ?_)
            clear hK K
            try simp only [Act.put, gz1, gz2, gz3, gz4, gz5, gz6]
            refine wpAnyH_ready (rs := [20]) (by kernel_rfl) (by simp) ?_
            refine AllReadyH.cons rfl (fun K hK => ?_) AllReadyH.nil
            have hrow := own_below HOM.out.2.1.1 hBX
            rw [HPN.out] at hrow
            refine step_push2 rfl _ _ 29 rfl 22 (.slice none 0 0) 24 Tryz.underlying29 HIN.out rfl (T + 1) (.slice oa pn oc) pn (ps.map Prod.fst) (z + 2) (Value.slice (some ⟨z, 0, none⟩) 3 3) (Value.slice (some ⟨z + 1, 0, none⟩) 3 3) rfl rfl (cell_of q19 rfl) (cell_of q19 rfl) hrow rfl rfl (by omega) (by omega) (by omega) ?_
            intro g9 cap9 w9 hown9 hg9 hat9
            have HI9 : Hid (∀ p ∈ ([(Value.slice (some ⟨z, 0, none⟩) 3 3, [-A, -X, f0 + fhi]), (Value.slice (some ⟨z + 1, 0, none⟩) 3 3, [-A, X, f0 + flo])] : List (Value × List Int)), Ints (fun b => w8.heap.size ≤ b) x3 p.1 p.2) := Lib.hid (by
              intro p hp
              simp only [List.mem_cons, List.not_mem_nil, or_false] at hp
              rcases hp with rfl | rfl
              · exact (ints_block [-A, -X, f0 + fhi] 3 q10 (by simp) (by simp) (by intro y hy; simp at hy; unfold I64; omega)).mono fun b hb => by have hb : b = _ := hb; omega
              · exact (ints_block [-A, X, f0 + flo] 3 q18 (by simp) (by simp) (by intro y hy; simp at hy; unfold I64; omega)).mono fun b hb => by have hb : b = _ := hb; omega
            )
            have HO9 := Lib.hid (HOM.out.push (rs := [(Value.slice (some ⟨z, 0, none⟩) 3 3, [-A, -X, f0 + fhi]), (Value.slice (some ⟨z + 1, 0, none⟩) 3 3, [-A, X, f0 + flo])]) HPN.out hBX HI9.out hg9 hown9 hat9)
            have cT := grown_cell hg9 (fun e => by have := HOB.out _ e.symm; omega) cT
            have cg := grown_cell hg9 (fun e => by have := HOB.out _ e.symm; omega) cg
            have ck := grown_cell hg9 (fun e => by have := HOB.out _ e.symm; omega) ck
            have g1 := grown_cell hg9 (fun e => by have := HOZ.out _ e.symm; omega) g1
            have g2 := grown_cell hg9 (fun e => by have := HOZ.out _ e.symm; omega) g2
            have cTf : ∀ o, w9.frozen? ⟨T, o, none⟩ = false := fun o => grown_froz hg9 (fun e => by have := HOB.out _ e.symm; omega) (by have := hTz; omega) (cTf o)
            have HBF : Hid (Below T w5 (w9.setCell ⟨T, 2, none⟩ (.slice (some ⟨g9, 0, none⟩) (pn + 2) cap9))) := Lib.hid (((HB.out.trans (hBX.mono (by omega))).grown hg9 (by have := hBX.size; have := HB.out.size; omega) (fun b e => by have := HOB.out b e; omega)).setCell (Nat.le_refl T) _)
            clear hown9 hg9 hat9 hrow hBX
            refine hK.out _ _ (by exact ⟨g1, g2⟩) (fun _ => ?_)
            clear hK K
            try simp only [Act.put, gz1, gz2, gz3, gz4, gz5, gz6]
            refine wpAnyH_take (i := 21) (v := ?_) rfl (by kernel_rfl) (by kernel_rfl) (by kernel_rfl) (fun _ _ _ h => h) (Or.inl ⟨by rfl, ?_⟩) (by assumption) ?_
            rotate_left
            · intro w hSw
              try dsimp only at hSw
              go_simp
              try with_reducible rfl
            try simp only [Act.put, gz1, gz2, gz3, gz4, gz5, gz6]
            refine wpAnyH_ready (rs := [22]) (by kernel_rfl) (by simp) ?_
            refine AllReadyH.cons rfl (fun K hK => ?_) AllReadyH.nil
            go_simp
            refine hK.out _ _ (by exact ⟨set_ne (by omega) g1, set_ne (by omega) g2⟩) (fun _ => ?_)
            clear hK K
            try simp only [Act.put, gz1, gz2, gz3, gz4, gz5, gz6]
            refine wpAnyH_done (by kernel_rfl) ?_ _
            have HM9 : Hid (MC = (ps ++ [(Value.slice (some ⟨z, 0, none⟩) 3 3, [-A, -X, f0 + fhi]), (Value.slice (some ⟨z + 1, 0, none⟩) 3 3, [-A, X, f0 + flo])]).map Prod.snd ++ (ndC f0 D ll (ns.drop (q + 1)) (q + 1) ++ lfC f0 ws lvs 0)) := Lib.hid (by rw [HMQ.out]; simp)
            have HL9 : Hid ((ps ++ [(Value.slice (some ⟨z, 0, none⟩) 3 3, [-A, -X, f0 + fhi]), (Value.slice (some ⟨z + 1, 0, none⟩) 3 3, [-A, X, f0 + flo])]).length = 1 + 2 * (q + 1)) := Lib.hid (by have := HPL.out; simp; omega)
            go_wp2_with fail
            go_roundg (gk - 1)
            case measure => omega
            case rel => exact ⟨q + 1, _, _, by omega, by go_num, HBF, HO9, HM9, HL9⟩
    · go_simp
      go_at_call 25
      (with_reducible refine (HNM.out _ _ cg ck (by omega)).mono ?_)
      rintro e w8 ⟨rfl, rfl⟩
      go_wp2_with fail
      refine hK.out _ _ (by exact ⟨g1, g2⟩) (fun _ => ?_)
      clear hK K
      try simp only [Act.put, gz1, gz2, gz3, gz4, gz5, gz6]
      refine wpAnyH_ready (rs := [1, 10, 18]) (by kernel_rfl) (by simp) ?_
      refine AllReadyH.cons rfl (fun K hK => ?_) (AllReadyH.cons rfl (fun K hK => ?_) (AllReadyH.cons rfl (fun K hK => ?_) AllReadyH.nil))
      · go_simp
        refine hK.out _ _ (by exact ⟨g1, g2⟩) (fun _ => ?_)
        clear hK K
        try simp only [Act.put, gz1, gz2, gz3, gz4, gz5, gz6]
        refine wpAnyH_ready (rs := [10, 18]) (by kernel_rfl) (by simp) ?_
        refine AllReadyH.cons rfl (fun K hK => ?_) (AllReadyH.cons rfl (fun K hK => ?_) AllReadyH.nil)
        · go_simp
          obtain ⟨x1, hnew⟩ : ∃ W, x0.alloc (.cells #[.int .i64 (-A), .int .i64 (-X), .int .i64 (f0 + fhi)] 3) = W := ⟨_, rfl⟩
          have hbn : Below x0.heap.size x0 x1 := by rw [← hnew]; exact (Below.refl _ _).alloc (Nat.le_refl _) _
          have hs1 : x1.heap.size = z + 1 := by rw [← hnew, World.size_alloc, hs0]
          have q10 : x1.heap[z]? = some (.cells #[.int .i64 (-A), .int .i64 (-X), .int .i64 (f0 + fhi)] 3) := by rw [← hnew, ← hs0]; exact new_at _ _
          have cT := keep_c hbn cT
          have cg := keep_c hbn cg
          have ck := keep_c hbn ck
          have g1 := keep_c hbn g1
          have g2 := keep_c hbn g2
          have cTf := keep_f hbn (by omega) cTf
          have hBX : Below w8.heap.size w8 x1 := hBX.trans (hbn.mono (by omega))
          try rw [hnew]
          clear hnew hbn
          refine hK.out _ _ (by exact ⟨g1, g2⟩) (fun _ => ?_)
          clear hK K
          try simp only [Act.put, gz1, gz2, gz3, gz4, gz5, gz6]
          refine wpAnyH_ready (rs := [18]) (by kernel_rfl) (by simp) ?_
          refine AllReadyH.cons rfl (fun K hK => ?_) AllReadyH.nil
          go_simp
          obtain ⟨x2, hnew⟩ : ∃ W, x1.alloc (.cells #[.int .i64 (-A), .int .i64 (X), .int .i64 (f0 + flo)] 3) = W := ⟨_, rfl⟩
          have hbn : Below x1.heap.size x1 x2 := by rw [← hnew]; exact (Below.refl _ _).alloc (Nat.le_refl _) _
          have hs2 : x2.heap.size = z + 2 := by rw [← hnew, World.size_alloc, hs1]
          have q18 : x2.heap[z + 1]? = some (.cells #[.int .i64 (-A), .int .i64 (X), .int .i64 (f0 + flo)] 3) := by rw [← hnew, ← hs1]; exact new_at _ _
          have q10 := (hbn.block (z) (by omega)).trans q10
          have cT := keep_c hbn cT
          have cg := keep_c hbn cg
          have ck := keep_c hbn ck
          have g1 := keep_c hbn g1
          have g2 := keep_c hbn g2
          have cTf := keep_f hbn (by omega) cTf
          have hBX : Below w8.heap.size w8 x2 := hBX.trans (hbn.mono (by omega))
          try rw [hnew]
          clear hnew hbn
          refine hK.out _ _ (by exact ⟨g1, g2⟩) (fun _ => ?_)
          clear hK K
          try simp only [Act.put, gz1, gz2, gz3, gz4, gz5, gz6]
          refine wpAnyH_ready (rs := [19]) (by kernel_rfl) (by simp) ?_
          refine AllReadyH.cons rfl (fun K hK => ?_) AllReadyH.nil
          go_simp
          obtain ⟨x3, hnew⟩ : ∃ W, x2.alloc (.cells #[.slice (some ⟨z, 0, none⟩) 3 3, .slice (some ⟨z + 1, 0, none⟩) 3 3] 22) = W := ⟨_, rfl⟩
          have hbn : Below x2.heap.size x2 x3 := by rw [← hnew]; exact (Below.refl _ _).alloc (Nat.le_refl _) _
          have hs3 : x3.heap.size = z + 3 := by rw [← hnew, World.size_alloc, hs2]
          have q19 : x3.heap[z + 2]? = some (.cells #[.slice (some ⟨z, 0, none⟩) 3 3, .slice (some ⟨z + 1, 0, none⟩) 3 3] 22) := by rw [← hnew, ← hs2]; exact new_at _ _
          have q10 := (hbn.block (z) (by omega)).trans q10
          have q18 := (hbn.block (z + 1) (by omega)).trans q18
          have cT := keep_c hbn cT
          have cg := keep_c hbn cg
          have ck := keep_c hbn ck
          have g1 := keep_c hbn g1
          have g2 := keep_c hbn g2
          have cTf := keep_f hbn (by omega) cTf
          have hBX : Below w8.heap.size w8 x3 := hBX.trans (hbn.mono (by omega))
          try rw [hnew]
          clear hnew hbn
          refine hK.out _ _ (by exact ⟨g1, g2⟩) (fun _ => ?_)
          clear hK K
          try simp only [Act.put, gz1, gz2, gz3, gz4, gz5, gz6]
          refine wpAnyH_ready (rs := [20]) (by kernel_rfl) (by simp) ?_
          refine AllReadyH.cons rfl (fun K hK => ?_) AllReadyH.nil
          have hrow := own_below HOM.out.2.1.1 hBX
          rw [HPN.out] at hrow
          refine step_push2 rfl _ _ 29 rfl 22 (.slice none 0 0) 24 Tryz.underlying29 HIN.out rfl (T + 1) (.slice oa pn oc) pn (ps.map Prod.fst) (z + 2) (Value.slice (some ⟨z, 0, none⟩) 3 3) (Value.slice (some ⟨z + 1, 0, none⟩) 3 3) rfl rfl (cell_of q19 rfl) (cell_of q19 rfl) hrow rfl rfl (by omega) (by omega) (by omega) ?_
          intro g9 cap9 w9 hown9 hg9 hat9
          have HI9 : Hid (∀ p ∈ ([(Value.slice (some ⟨z, 0, none⟩) 3 3, [-A, -X, f0 + fhi]), (Value.slice (some ⟨z + 1, 0, none⟩) 3 3, [-A, X, f0 + flo])] : List (Value × List Int)), Ints (fun b => w8.heap.size ≤ b) x3 p.1 p.2) := Lib.hid (by
            intro p hp
            simp only [List.mem_cons, List.not_mem_nil, or_false] at hp
            rcases hp with rfl | rfl
            · exact (ints_block [-A, -X, f0 + fhi] 3 q10 (by simp) (by simp) (by intro y hy; simp at hy; unfold I64; omega)).mono fun b hb => by have hb : b = _ := hb; omega
            · exact (ints_block [-A, X, f0 + flo] 3 q18 (by simp) (by simp) (by intro y hy; simp at hy; unfold I64; omega)).mono fun b hb => by have hb : b = _ := hb; omega
          )
          have HO9 := Lib.hid (HOM.out.push (rs := [(Value.slice (some ⟨z, 0, none⟩) 3 3, [-A, -X, f0 + fhi]), (Value.slice (some ⟨z + 1, 0, none⟩) 3 3, [-A, X, f0 + flo])]) HPN.out hBX HI9.out hg9 hown9 hat9)
          have cT := grown_cell hg9 (fun e => by have := HOB.out _ e.symm; omega) cT
          have cg := grown_cell hg9 (fun e => by have := HOB.out _ e.symm; omega) cg
          have ck := grown_cell hg9 (fun e => by have := HOB.out _ e.symm; omega) ck
          have g1 := grown_cell hg9 (fun e => by have := HOZ.out _ e.symm; omega) g1
          have g2 := grown_cell hg9 (fun e => by have := HOZ.out _ e.symm; omega) g2
          have cTf : ∀ o, w9.frozen? ⟨T, o, none⟩ = false := fun o => grown_froz hg9 (fun e => by have := HOB.out _ e.symm; omega) (by have := hTz; omega) (cTf o)
          have HBF : Hid (Below T w5 (w9.setCell ⟨T, 2, none⟩ (.slice (some ⟨g9, 0, none⟩) (pn + 2) cap9))) := Lib.hid (((HB.out.trans (hBX.mono (by omega))).grown hg9 (by have := hBX.size; have := HB.out.size; omega) (fun b e => by have := HOB.out b e; omega)).setCell (Nat.le_refl T) _)
          clear hown9 hg9 hat9 hrow hBX
          refine hK.out _ _ (by exact ⟨g1, g2⟩) (fun _ => ?_)
          clear hK K
          try simp only [Act.put, gz1, gz2, gz3, gz4, gz5, gz6]
          refine wpAnyH_take (i := 21) (v := ?_) rfl (by kernel_rfl) (by kernel_rfl) (by kernel_rfl) (fun _ _ _ h => h) (Or.inl ⟨by rfl, ?_⟩) (by assumption) ?_
          rotate_left
          · intro w hSw
            try dsimp only at hSw
            go_simp
            try with_reducible rfl
          try simp only [Act.put, gz1, gz2, gz3, gz4, gz5, gz6]
          refine wpAnyH_ready (rs := [22]) (by kernel_rfl) (by simp) ?_
          refine AllReadyH.cons rfl (fun K hK => ?_) AllReadyH.nil
          go_simp
          refine hK.out _ _ (by exact ⟨set_ne (by omega) g1, set_ne (by omega) g2⟩) (fun _ => ?_)
          clear hK K
          try simp only [Act.put, gz1, gz2, gz3, gz4, gz5, gz6]
          refine wpAnyH_done (by kernel_rfl) ?_ _
          have HM9 : Hid (MC = (ps ++ [(Value.slice (some ⟨z, 0, none⟩) 3 3, [-A, -X, f0 + fhi]), (Value.slice (some ⟨z + 1, 0, none⟩) 3 3, [-A, X, f0 + flo])]).map Prod.snd ++ (ndC f0 D ll (ns.drop (q + 1)) (q + 1) ++ lfC f0 ws lvs 0)) := Lib.hid (by rw [HMQ.out]; simp)
          have HL9 : Hid ((ps ++ [(Value.slice (some ⟨z, 0, none⟩) 3 3, [-A, -X, f0 + fhi]), (Value.slice (some ⟨z + 1, 0, none⟩) 3 3, [-A, X, f0 + flo])]).length = 1 + 2 * (q + 1)) := Lib.hid (by have := HPL.out; simp; omega)
          go_wp2_with fail
          go_roundg (gk - 1)
          case measure => omega
          case rel => exact ⟨q + 1, _, _, by omega, by go_num, HBF, HO9, HM9, HL9⟩
        · go_simp
          obtain ⟨x1, hnew⟩ : ∃ W, x0.alloc (.cells #[.int .i64 (-A), .int .i64 (X), .int .i64 (f0 + flo)] 3) = W := ⟨_, rfl⟩
          have hbn : Below x0.heap.size x0 x1 := by rw [← hnew]; exact (Below.refl _ _).alloc (Nat.le_refl _) _
          have hs1 : x1.heap.size = z + 1 := by rw [← hnew, World.size_alloc, hs0]
          have q18 : x1.heap[z]? = some (.cells #[.int .i64 (-A), .int .i64 (X), .int .i64 (f0 + flo)] 3) := by rw [← hnew, ← hs0]; exact new_at _ _
          have cT := keep_c hbn cT
          have cg := keep_c hbn cg
          have ck := keep_c hbn ck
          have g1 := keep_c hbn g1
          have g2 := keep_c hbn g2
          have cTf := keep_f hbn (by omega) cTf
          have hBX : Below w8.heap.size w8 x1 := hBX.trans (hbn.mono (by omega))
          try rw [hnew]
          clear hnew hbn
          refine hK.out _ _ (by exact ⟨g1, g2⟩) (fun _ => ?_)
          clear hK K
          try simp only [Act.put, gz1, gz2, gz3, gz4, gz5, gz6]
          refine wpAnyH_ready (rs := [10]) (by kernel_rfl) (by simp) ?_
          refine AllReadyH.cons rfl (fun K hK => ?_) AllReadyH.nil
          go_simp
          obtain ⟨x2, hnew⟩ : ∃ W, x1.alloc (.cells #[.int .i64 (-A), .int .i64 (-X), .int .i64 (f0 + fhi)] 3) = W := ⟨_, rfl⟩
          have hbn : Below x1.heap.size x1 x2 := by rw [← hnew]; exact (Below.refl _ _).alloc (Nat.le_refl _) _
          have hs2 : x2.heap.size = z + 2 := by rw [← hnew, World.size_alloc, hs1]
          have q10 : x2.heap[z + 1]? = some (.cells #[.int .i64 (-A), .int .i64 (-X), .int .i64 (f0 + fhi)] 3) := by rw [← hnew, ← hs1]; exact new_at _ _
          have q18 := (hbn.block (z) (by omega)).trans q18
          have cT := keep_c hbn cT
          have cg := keep_c hbn cg
          have ck := keep_c hbn ck
          have g1 := keep_c hbn g1
          have g2 := keep_c hbn g2
          have cTf := keep_f hbn (by omega) cTf
          have hBX : Below w8.heap.size w8 x2 := hBX.trans (hbn.mono (by omega))
          try rw [hnew]
          clear hnew hbn
          refine hK.out _ _ (by exact ⟨g1, g2⟩) (fun _ => ?_)
          clear hK K
          try simp only [Act.put, gz1, gz2, gz3, gz4, gz5, gz6]
          refine wpAnyH_ready (rs := [19]) (by kernel_rfl) (by simp) ?_
          refine AllReadyH.cons rfl (fun K hK => ?_) AllReadyH.nil
          go_simp
          obtain ⟨x3, hnew⟩ : ∃ W, x2.alloc (.cells #[.slice (some ⟨z + 1, 0, none⟩) 3 3, .slice (some ⟨z, 0, none⟩) 3 3] 22) = W := ⟨_, rfl⟩
          have hbn : Below x2.heap.size x2 x3 := by rw [← hnew]; exact (Below.refl _ _).alloc (Nat.le_refl _) _
          have hs3 : x3.heap.size = z + 3 := by rw [← hnew, World.size_alloc, hs2]
          have q19 : x3.heap[z + 2]? = some (.cells #[.slice (some ⟨z + 1, 0, none⟩) 3 3, .slice (some ⟨z, 0, none⟩) 3 3] 22) := by rw [← hnew, ← hs2]; exact new_at _ _
          have q18 := (hbn.block (z) (by omega)).trans q18
          have q10 := (hbn.block (z + 1) (by omega)).trans q10
          have cT := keep_c hbn cT
          have cg := keep_c hbn cg
          have ck := keep_c hbn ck
          have g1 := keep_c hbn g1
          have g2 := keep_c hbn g2
          have cTf := keep_f hbn (by omega) cTf
          have hBX : Below w8.heap.size w8 x3 := hBX.trans (hbn.mono (by omega))
          try rw [hnew]
          clear hnew hbn
          refine hK.out _ _ (by exact ⟨g1, g2⟩) (fun _ => ?_)
          clear hK K
          try simp only [Act.put, gz1, gz2, gz3, gz4, gz5, gz6]
          refine wpAnyH_ready (rs := [20]) (by kernel_rfl) (by simp) ?_
          refine AllReadyH.cons rfl (fun K hK => ?_) AllReadyH.nil
          have hrow := own_below HOM.out.2.1.1 hBX
          rw [HPN.out] at hrow
          refine step_push2 rfl _ _ 29 rfl 22 (.slice none 0 0) 24 Tryz.underlying29 HIN.out rfl (T + 1) (.slice oa pn oc) pn (ps.map Prod.fst) (z + 2) (Value.slice (some ⟨z + 1, 0, none⟩) 3 3) (Value.slice (some ⟨z, 0, none⟩) 3 3) rfl rfl (cell_of q19 rfl) (cell_of q19 rfl) hrow rfl rfl (by omega) (by omega) (by omega) ?_
          intro g9 cap9 w9 hown9 hg9 hat9
          have HI9 : Hid (∀ p ∈ ([(Value.slice (some ⟨z + 1, 0, none⟩) 3 3, [-A, -X, f0 + fhi]), (Value.slice (some ⟨z, 0, none⟩) 3 3, [-A, X, f0 + flo])] : List (Value × List Int)), Ints (fun b => w8.heap.size ≤ b) x3 p.1 p.2) := Lib.hid (by
            intro p hp
            simp only [List.mem_cons, List.not_mem_nil, or_false] at hp
            rcases hp with rfl | rfl
            · exact (ints_block [-A, -X, f0 + fhi] 3 q10 (by simp) (by simp) (by intro y hy; simp at hy; unfold I64; omega)).mono fun b hb => by have hb : b = _ := hb; omega
            · exact (ints_block [-A, X, f0 + flo] 3 q18 (by simp) (by simp) (by intro y hy; simp at hy; unfold I64; omega)).mono fun b hb => by have hb : b = _ := hb; omega
          )
          have HO9 := Lib.hid (HOM.out.push (rs := [(Value.slice (some ⟨z + 1, 0, none⟩) 3 3, [-A, -X, f0 + fhi]), (Value.slice (some ⟨z, 0, none⟩) 3 3, [-A, X, f0 + flo])]) HPN.out hBX HI9.out hg9 hown9 hat9)
          have cT := grown_cell hg9 (fun e => by have := HOB.out _ e.symm; omega) cT
          have cg := grown_cell hg9 (fun e => by have := HOB.out _ e.symm; omega) cg
          have ck := grown_cell hg9 (fun e => by have := HOB.out _ e.symm; omega) ck
          have g1 := grown_cell hg9 (fun e => by have := HOZ.out _ e.symm; omega) g1
          have g2 := grown_cell hg9 (fun e => by have := HOZ.out _ e.symm; omega) g2
          have cTf : ∀ o, w9.frozen? ⟨T, o, none⟩ = false := fun o => grown_froz hg9 (fun e => by have := HOB.out _ e.symm; omega) (by have := hTz; omega) (cTf o)
          have HBF : Hid (Below T w5 (w9.setCell ⟨T, 2, none⟩ (.slice (some ⟨g9, 0, none⟩) (pn + 2) cap9))) := Lib.hid (((HB.out.trans (hBX.mono (by omega))).grown hg9 (by have := hBX.size; have := HB.out.size; omega) (fun b e => by have := HOB.out b e; omega)).setCell (Nat.le_refl T) _)
          clear hown9 hg9 hat9 hrow hBX
          refine hK.out _ _ (by exact ⟨g1, g2⟩) (fun _ => ?_)
          clear hK K
          try simp only [Act.put, gz1, gz2, gz3, gz4, gz5, gz6]
          refine wpAnyH_take (i := 21) (v := ?_) rfl (by kernel_rfl) (by kernel_rfl) (by kernel_rfl) (fun _ _ _ h => h) (Or.inl ⟨by rfl, ?_⟩) (by assumption) ?_
          rotate_left
          · intro w hSw
            try dsimp only at hSw
            go_simp
            try with_reducible rfl
          try simp only [Act.put, gz1, gz2, gz3, gz4, gz5, gz6]
          refine wpAnyH_ready (rs := [22]) (by kernel_rfl) (by simp) ?_
          refine AllReadyH.cons rfl (fun K hK => ?_) AllReadyH.nil
          go_simp
          refine hK.out _ _ (by exact ⟨set_ne (by omega) g1, set_ne (by omega) g2⟩) (fun _ => ?_)
          clear hK K
          try simp only [Act.put, gz1, gz2, gz3, gz4, gz5, gz6]
          refine wpAnyH_done (by kernel_rfl) ?_ _
          have HM9 : Hid (MC = (ps ++ [(Value.slice (some ⟨z + 1, 0, none⟩) 3 3, [-A, -X, f0 + fhi]), (Value.slice (some ⟨z, 0, none⟩) 3 3, [-A, X, f0 + flo])]).map Prod.snd ++ (ndC f0 D ll (ns.drop (q + 1)) (q + 1) ++ lfC f0 ws lvs 0)) := Lib.hid (by rw [HMQ.out]; simp)
          have HL9 : Hid ((ps ++ [(Value.slice (some ⟨z + 1, 0, none⟩) 3 3, [-A, -X, f0 + fhi]), (Value.slice (some ⟨z, 0, none⟩) 3 3, [-A, X, f0 + flo])]).length = 1 + 2 * (q + 1)) := Lib.hid (by have := HPL.out; simp; omega)
          go_wp2_with fail
          go_roundg (gk - 1)
          case measure => omega
          case rel => exact ⟨q + 1, _, _, by omega, by go_num, HBF, HO9, HM9, HL9⟩
      · go_simp
        obtain ⟨x1, hnew⟩ : ∃ W, x0.alloc (.cells #[.int .i64 (-A), .int .i64 (-X), .int .i64 (f0 + fhi)] 3) = W := ⟨_, rfl⟩
        have hbn : Below x0.heap.size x0 x1 := by rw [← hnew]; exact (Below.refl _ _).alloc (Nat.le_refl _) _
        have hs1 : x1.heap.size = z + 1 := by rw [← hnew, World.size_alloc, hs0]
        have q10 : x1.heap[z]? = some (.cells #[.int .i64 (-A), .int .i64 (-X), .int .i64 (f0 + fhi)] 3) := by rw [← hnew, ← hs0]; exact new_at _ _
        have cT := keep_c hbn cT
        have cg := keep_c hbn cg
        have ck := keep_c hbn ck
        have g1 := keep_c hbn g1
        have g2 := keep_c hbn g2
        have cTf := keep_f hbn (by omega) cTf
        have hBX : Below w8.heap.size w8 x1 := hBX.trans (hbn.mono (by omega))
        try rw [hnew]
        clear hnew hbn
        refine hK.out _ _ (by exact ⟨g1, g2⟩) (fun _ => ?_)
        clear hK K
        try simp only [Act.put, gz1, gz2, gz3, gz4, gz5, gz6]
        refine wpAnyH_ready (rs := [1, 18]) (by kernel_rfl) (by simp) ?_
        refine AllReadyH.cons rfl (fun K hK => ?_) (AllReadyH.cons rfl (fun K hK => ?_) AllReadyH.nil)
        · go_simp
          refine hK.out _ _ (by exact ⟨g1, g2⟩) (fun _ => ?_)
          clear hK K
          try simp only [Act.put, gz1, gz2, gz3, gz4, gz5, gz6]
          refine wpAnyH_ready (rs := [18]) (by kernel_rfl) (by simp) ?_
          refine AllReadyH.cons rfl (fun K hK => ?_) AllReadyH.nil
          go_simp
          obtain ⟨x2, hnew⟩ : ∃ W, x1.alloc (.cells #[.int .i64 (-A), .int .i64 (X), .int .i64 (f0 + flo)] 3) = W := ⟨_, rfl⟩
          have hbn : Below x1.heap.size x1 x2 := by rw [← hnew]; exact (Below.refl _ _).alloc (Nat.le_refl _) _
          have hs2 : x2.heap.size = z + 2 := by rw [← hnew, World.size_alloc, hs1]
          have q18 : x2.heap[z + 1]? = some (.cells #[.int .i64 (-A), .int .i64 (X), .int .i64 (f0 + flo)] 3) := by rw [← hnew, ← hs1]; exact new_at _ _
          have q10 := (hbn.block (z) (by omega)).trans q10
          have cT := keep_c hbn cT
          have cg := keep_c hbn cg
          have ck := keep_c hbn ck
          have g1 := keep_c hbn g1
          have g2 := keep_c hbn g2
          have cTf := keep_f hbn (by omega) cTf
          have hBX : Below w8.heap.size w8 x2 := hBX.trans (hbn.mono (by omega))
          try rw [hnew]
          clear hnew hbn
          refine hK.out _ _ (by exact ⟨g1, g2⟩) (fun _ => ?_)
          clear hK K
          try simp only [Act.put, gz1, gz2, gz3, gz4, gz5, gz6]
          refine wpAnyH_ready (rs := [19]) (by kernel_rfl) (by simp) ?_
          refine AllReadyH.cons rfl (fun K hK => ?_) AllReadyH.nil
          go_simp
          obtain ⟨x3, hnew⟩ : ∃ W, x2.alloc (.cells #[.slice (some ⟨z, 0, none⟩) 3 3, .slice (some ⟨z + 1, 0, none⟩) 3 3] 22) = W := ⟨_, rfl⟩
          have hbn : Below x2.heap.size x2 x3 := by rw [← hnew]; exact (Below.refl _ _).alloc (Nat.le_refl _) _
          have hs3 : x3.heap.size = z + 3 := by rw [← hnew, World.size_alloc, hs2]
          have q19 : x3.heap[z + 2]? = some (.cells #[.slice (some ⟨z, 0, none⟩) 3 3, .slice (some ⟨z + 1, 0, none⟩) 3 3] 22) := by rw [← hnew, ← hs2]; exact new_at _ _
          have q10 := (hbn.block (z) (by omega)).trans q10
          have q18 := (hbn.block (z + 1) (by omega)).trans q18
          have cT := keep_c hbn cT
          have cg := keep_c hbn cg
          have ck := keep_c hbn ck
          have g1 := keep_c hbn g1
          have g2 := keep_c hbn g2
          have cTf := keep_f hbn (by omega) cTf
          have hBX : Below w8.heap.size w8 x3 := hBX.trans (hbn.mono (by omega))
          try rw [hnew]
          clear hnew hbn
          refine hK.out _ _ (by exact ⟨g1, g2⟩) (fun _ => ?_)
          clear hK K
          try simp only [Act.put, gz1, gz2, gz3, gz4, gz5, gz6]
          refine wpAnyH_ready (rs := [20]) (by kernel_rfl) (by simp) ?_
          refine AllReadyH.cons rfl (fun K hK => ?_) AllReadyH.nil
          have hrow := own_below HOM.out.2.1.1 hBX
          rw [HPN.out] at hrow
          refine step_push2 rfl _ _ 29 rfl 22 (.slice none 0 0) 24 Tryz.underlying29 HIN.out rfl (T + 1) (.slice oa pn oc) pn (ps.map Prod.fst) (z + 2) (Value.slice (some ⟨z, 0, none⟩) 3 3) (Value.slice (some ⟨z + 1, 0, none⟩) 3 3) rfl rfl (cell_of q19 rfl) (cell_of q19 rfl) hrow rfl rfl (by omega) (by omega) (by omega) ?_
          intro g9 cap9 w9 hown9 hg9 hat9
          have HI9 : Hid (∀ p ∈ ([(Value.slice (some ⟨z, 0, none⟩) 3 3, [-A, -X, f0 + fhi]), (Value.slice (some ⟨z + 1, 0, none⟩) 3 3, [-A, X, f0 + flo])] : List (Value × List Int)), Ints (fun b => w8.heap.size ≤ b) x3 p.1 p.2) := Lib.hid (by
            intro p hp
            simp only [List.mem_cons, List.not_mem_nil, or_false] at hp
            rcases hp with rfl | rfl
            · exact (ints_block [-A, -X, f0 + fhi] 3 q10 (by simp) (by simp) (by intro y hy; simp at hy; unfold I64; omega)).mono fun b hb => by have hb : b = _ := hb; omega
            · exact (ints_block [-A, X, f0 + flo] 3 q18 (by simp) (by simp) (by intro y hy; simp at hy; unfold I64; omega)).mono fun b hb => by have hb : b = _ := hb; omega
          )
          have HO9 := Lib.hid (HOM.out.push (rs := [(Value.slice (some ⟨z, 0, none⟩) 3 3, [-A, -X, f0 + fhi]), (Value.slice (some ⟨z + 1, 0, none⟩) 3 3, [-A, X, f0 + flo])]) HPN.out hBX HI9.out hg9 hown9 hat9)
          have cT := grown_cell hg9 (fun e => by have := HOB.out _ e.symm; omega) cT
          have cg := grown_cell hg9 (fun e => by have := HOB.out _ e.symm; omega) cg
          have ck := grown_cell hg9 (fun e => by have := HOB.out _ e.symm; omega) ck
          have g1 := grown_cell hg9 (fun e => by have := HOZ.out _ e.symm; omega) g1
          have g2 := grown_cell hg9 (fun e => by have := HOZ.out _ e.symm; omega) g2
          have cTf : ∀ o, w9.frozen? ⟨T, o, none⟩ = false := fun o => grown_froz hg9 (fun e => by have := HOB.out _ e.symm; omega) (by have := hTz; omega) (cTf o)
          have HBF : Hid (Below T w5 (w9.setCell ⟨T, 2, none⟩ (.slice (some ⟨g9, 0, none⟩) (pn + 2) cap9))) := Lib.hid (((HB.out.trans (hBX.mono (by omega))).grown hg9 (by have := hBX.size; have := HB.out.size; omega) (fun b e => by have := HOB.out b e; omega)).setCell (Nat.le_refl T) _)
          clear hown9 hg9 hat9 hrow hBX
          refine hK.out _ _ (by exact ⟨g1, g2⟩) (fun _ => ?_)
          clear hK K
          try simp only [Act.put, gz1, gz2, gz3, gz4, gz5, gz6]
          refine wpAnyH_take (i := 21) (v := ?_) rfl (by kernel_rfl) (by kernel_rfl) (by kernel_rfl) (fun _ _ _ h => h) (Or.inl ⟨by rfl, ?_⟩) (by assumption) ?_
          rotate_left
          · intro w hSw
            try dsimp only at hSw
            go_simp
            try with_reducible rfl
          try simp only [Act.put, gz1, gz2, gz3, gz4, gz5, gz6]
          refine wpAnyH_ready (rs := [22]) (by kernel_rfl) (by simp) ?_
          refine AllReadyH.cons rfl (fun K hK => ?_) AllReadyH.nil
          go_simp
          refine hK.out _ _ (by exact ⟨set_ne (by omega) g1, set_ne (by omega) g2⟩) (fun _ => ?_)
          clear hK K
          try simp only [Act.put, gz1, gz2, gz3, gz4, gz5, gz6]
          refine wpAnyH_done (by kernel_rfl) ?_ _
          have HM9 : Hid (MC = (ps ++ [(Value.slice (some ⟨z, 0, none⟩) 3 3, [-A, -X, f0 + fhi]), (Value.slice (some ⟨z + 1, 0, none⟩) 3 3, [-A, X, f0 + flo])]).map Prod.snd ++ (ndC f0 D ll (ns.drop (q + 1)) (q + 1) ++ lfC f0 ws lvs 0)) := Lib.hid (by rw [HMQ.out]; simp)
          have HL9 : Hid ((ps ++ [(Value.slice (some ⟨z, 0, none⟩) 3 3, [-A, -X, f0 + fhi]), (Value.slice (some ⟨z + 1, 0, none⟩) 3 3, [-A, X, f0 + flo])]).length = 1 + 2 * (q + 1)) := Lib.hid (by have := HPL.out; simp; omega)
          go_wp2_with fail
          go_roundg (gk - 1)
          case measure => omega
          case rel => exact ⟨q + 1, _, _, by omega, by go_num, HBF, HO9, HM9, HL9⟩
        · go_simp
          obtain ⟨x2, hnew⟩ : ∃ W, x1.alloc (.cells #[.int .i64 (-A), .int .i64 (X), .int .i64 (f0 + flo)] 3) = W := ⟨_, rfl⟩
          have hbn : Below x1.heap.size x1 x2 := by rw [← hnew]; exact (Below.refl _ _).alloc (Nat.le_refl _) _
          have hs2 : x2.heap.size = z + 2 := by rw [← hnew, World.size_alloc, hs1]
          have q18 : x2.heap[z + 1]? = some (.cells #[.int .i64 (-A), .int .i64 (X), .int .i64 (f0 + flo)] 3) := by rw [← hnew, ← hs1]; exact new_at _ _
          have q10 := (hbn.block (z) (by omega)).trans q10
          have cT := keep_c hbn cT
          have cg := keep_c hbn cg
          have ck := keep_c hbn ck
          have g1 := keep_c hbn g1
          have g2 := keep_c hbn g2
          have cTf := keep_f hbn (by omega) cTf
          have hBX : Below w8.heap.size w8 x2 := hBX.trans (hbn.mono (by omega))
          try rw [hnew]
          clear hnew hbn
          refine hK.out _ _ (by exact ⟨g1, g2⟩) (fun _ => ?_)
          clear hK K
          try simp only [Act.put, gz1, gz2, gz3, gz4, gz5, gz6]
          refine wpAnyH_ready (rs := [1, 19]) (by kernel_rfl) (by simp) ?_
          refine AllReadyH.cons rfl (fun K hK => ?_) (AllReadyH.cons rfl (fun K hK => ?_) AllReadyH.nil)
          · go_simp
            refine hK.out _ _ (by exact ⟨g1, g2⟩) (fun _ => ?_)
            clear hK K
            try simp only [Act.put, gz1, gz2, gz3, gz4, gz5, gz6]
            refine wpAnyH_ready (rs := [19]) (by kernel_rfl) (by simp) ?_
            refine AllReadyH.cons rfl (fun K hK => ?_) AllReadyH.nil
            go_simp
            obtain ⟨x3, hnew⟩ : ∃ W, x2.alloc (.cells #[.slice (some ⟨z, 0, none⟩) 3 3, .slice (some ⟨z + 1, 0, none⟩) 3 3] 22) = W := ⟨_, rfl⟩
            have hbn : Below x2.heap.size x2 x3 := by rw [← hnew]; exact (Below.refl _ _).alloc (Nat.le_refl _) _
            have hs3 : x3.heap.size = z + 3 := by rw [← hnew, World.size_alloc, hs2]
            have q19 : x3.heap[z + 2]? = some (.cells #[.slice (some ⟨z, 0, none⟩) 3 3, .slice (some ⟨z + 1, 0, none⟩) 3 3] 22) := by rw [← hnew, ← hs2]; exact new_at _ _
            have q10 := (hbn.block (z) (by omega)).trans q10
            have q18 := (hbn.block (z + 1) (by omega)).trans q18
            have cT := keep_c hbn cT
            have cg := keep_c hbn cg
            have ck := keep_c hbn ck
            have g1 := keep_c hbn g1
            have g2 := keep_c hbn g2
            have cTf := keep_f hbn (by omega) cTf
            have hBX : Below w8.heap.size w8 x3 := hBX.trans (hbn.mono (by omega))
            try rw [hnew]
            clear hnew hbn
            refine hK.out _ _ (by exact ⟨g1, g2⟩) (fun _ => ?_)
            clear hK K
            try simp only [Act.put, gz1, gz2, gz3, gz4, gz5, gz6]
            refine wpAnyH_ready (rs := [20]) (by kernel_rfl) (by simp) ?_
            refine AllReadyH.cons rfl (fun K hK => ?_) AllReadyH.nil
            have hrow := own_below HOM.out.2.1.1 hBX
            rw [HPN.out] at hrow
            refine step_push2 rfl _ _ 29 rfl 22 (.slice none 0 0) 24 Tryz.underlying29 HIN.out rfl (T + 1) (.slice oa pn oc) pn (ps.map Prod.fst) (z + 2) (Value.slice (some ⟨z, 0, none⟩) 3 3) (Value.slice (some ⟨z + 1, 0, none⟩) 3 3) rfl rfl (cell_of q19 rfl) (cell_of q19 rfl) hrow rfl rfl (by omega) (by omega) (by omega) ?_
            intro g9 cap9 w9 hown9 hg9 hat9
            have HI9 : Hid (∀ p ∈ ([(Value.slice (some ⟨z, 0, none⟩) 3 3, [-A, -X, f0 + fhi]), (Value.slice (some ⟨z + 1, 0, none⟩) 3 3, [-A, X, f0 + flo])] : List (Value × List Int)), Ints (fun b => w8.heap.size ≤ b) x3 p.1 p.2) := Lib.hid (by
              intro p hp
              simp only [List.mem_cons, List.not_mem_nil, or_false] at hp
              rcases hp with rfl | rfl
              · exact (ints_block [-A, -X, f0 + fhi] 3 q10 (by simp) (by simp) (by intro y hy; simp at hy; unfold I64; omega)).mono fun b hb => by have hb : b = _ := hb; omega
              · exact (ints_block [-A, X, f0 + flo] 3 q18 (by simp) (by simp) (by intro y hy; simp at hy; unfold I64; omega)).mono fun b hb => by have hb : b = _ := hb; omega
            )
            have HO9 := Lib.hid (HOM.out.push (rs := [(Value.slice (some ⟨z, 0, none⟩) 3 3, [-A, -X, f0 + fhi]), (Value.slice (some ⟨z + 1, 0, none⟩) 3 3, [-A, X, f0 + flo])]) HPN.out hBX HI9.out hg9 hown9 hat9)
            have cT := grown_cell hg9 (fun e => by have := HOB.out _ e.symm; omega) cT
            have cg := grown_cell hg9 (fun e => by have := HOB.out _ e.symm; omega) cg
            have ck := grown_cell hg9 (fun e => by have := HOB.out _ e.symm; omega) ck
            have g1 := grown_cell hg9 (fun e => by have := HOZ.out _ e.symm; omega) g1
            have g2 := grown_cell hg9 (fun e => by have := HOZ.out _ e.symm; omega) g2
            have cTf : ∀ o, w9.frozen? ⟨T, o, none⟩ = false := fun o => grown_froz hg9 (fun e => by have := HOB.out _ e.symm; omega) (by have := hTz; omega) (cTf o)
            have HBF : Hid (Below T w5 (w9.setCell ⟨T, 2, none⟩ (.slice (some ⟨g9, 0, none⟩) (pn + 2) cap9))) := Lib.hid (((HB.out.trans (hBX.mono (by omega))).grown hg9 (by have := hBX.size; have := HB.out.size; omega) (fun b e => by have := HOB.out b e; omega)).setCell (Nat.le_refl T) _)
            clear hown9 hg9 hat9 hrow hBX
            refine hK.out _ _ (by exact ⟨g1, g2⟩) (fun _ => ?_)
            clear hK K
            try simp only [Act.put, gz1, gz2, gz3, gz4, gz5, gz6]
            refine wpAnyH_take (i := 21) (v := ?_) rfl (by kernel_rfl) (by kernel_rfl) (by kernel_rfl) (fun _ _ _ h => h) (Or.inl ⟨by rfl, ?_⟩) (by assumption) ?_
            rotate_left
            · intro w hSw
              try dsimp only at hSw
              go_simp
              try with_reducible rfl
            try simp only [Act.put, gz1, gz2, gz3, gz4, gz5, gz6]
            refine wpAnyH_ready (rs := [22]) (by kernel_rfl) (by simp) ?_
            refine AllReadyH.cons rfl (fun K hK => ?_) AllReadyH.nil
            go_simp
            refine hK.out _ _ (by exact ⟨set_ne (by omega) g1, set_ne (by omega) g2⟩) (fun _ => ?_)
            clear hK K
            try simp only [Act.put, gz1, gz2, gz3, gz4, gz5, gz6]
            refine wpAnyH_done (by kernel_rfl) ?_ _
            have HM9 : Hid (MC = (ps ++ [(Value.slice (some ⟨z, 0, none⟩) 3 3, [-A, -X, f0 + fhi]), (Value.slice (some ⟨z + 1, 0, none⟩) 3 3, [-A, X, f0 + flo])]).map Prod.snd ++ (ndC f0 D ll (ns.drop (q + 1)) (q + 1) ++ lfC f0 ws lvs 0)) := Lib.hid (by rw [HMQ.out]; simp)
            have HL9 : Hid ((ps ++ [(Value.slice (some ⟨z, 0, none⟩) 3 3, [-A, -X, f0 + fhi]), (Value.slice (some ⟨z + 1, 0, none⟩) 3 3, [-A, X, f0 + flo])]).length = 1 + 2 * (q + 1)) := Lib.hid (by have := HPL.out; simp; omega)
            go_wp2_with fail
            go_roundg (gk - 1)
            case measure => omega
            case rel => exact ⟨q + 1, _, _, by omega, by go_num, HBF, HO9, HM9, HL9⟩
          · go_simp
            obtain ⟨x3, hnew⟩ : ∃ W, x2.alloc (.cells #[.slice (some ⟨z, 0, none⟩) 3 3, .slice (some ⟨z + 1, 0, none⟩) 3 3] 22) = W := ⟨_, rfl⟩
            have hbn : Below x2.heap.size x2 x3 := by rw [← hnew]; exact (Below.refl _ _).alloc (Nat.le_refl _) _
            have hs3 : x3.heap.size = z + 3 := by rw [← hnew, World.size_alloc, hs2]
            have q19 : x3.heap[z + 2]? = some (.cells #[.slice (some ⟨z, 0, none⟩) 3 3, .slice (some ⟨z + 1, 0, none⟩) 3 3] 22) := by rw [← hnew, ← hs2]; exact new_at _ _
            have q10 := (hbn.block (z) (by omega)).trans q10
            have q18 := (hbn.block (z + 1) (by omega)).trans q18
            have cT := keep_c hbn cT
            have cg := keep_c hbn cg
            have ck := keep_c hbn ck
            have g1 := keep_c hbn g1
            have g2 := keep_c hbn g2
            have cTf := keep_f hbn (by omega) cTf
            have hBX : Below w8.heap.size w8 x3 := hBX.trans (hbn.mono (by omega))
            try rw [hnew]
            clear hnew hbn
            refine hK.out _ _ (by exact ⟨g1, g2⟩) (fun _ => ?_)
            clear hK K
            try simp only [Act.put, gz1, gz2, gz3, gz4, gz5, gz6]
            refine wpAnyH_ready (rs := [1]) (by kernel_rfl) (by simp) ?_
            refine AllReadyH.cons rfl (fun K hK => ?_) AllReadyH.nil
            go_simp
            refine hK.out _ _ (by exact ⟨g1, g2⟩) (fun _ => ?_)
            clear hK K
            try simp only [Act.put, gz1, gz2, gz3, gz4, gz5, gz6]
            refine wpAnyH_ready (rs := [20]) (by kernel_rfl) (by simp) ?_
            refine AllReadyH.cons rfl (fun K hK => ?_) AllReadyH.nil
            have hrow := own_below HOM.out.2.1.1 hBX
            rw [HPN.out] at hrow
            refine step_push2 rfl _ _ 29 rfl 22 (.slice none 0 0) 24 Tryz.underlying29 HIN.out rfl (T + 1) (.slice oa pn oc) pn (ps.map Prod.fst) (z + 2) (Value.slice (some ⟨z, 0, none⟩) 3 3) (Value.slice (some ⟨z + 1, 0, none⟩) 3 3) rfl rfl (cell_of q19 rfl) (cell_of q19 rfl) hrow rfl rfl (by omega) (by omega) (by omega) ?_
            intro g9 cap9 w9 hown9 hg9 hat9
            have HI9 : Hid (∀ p ∈ ([(Value.slice (some ⟨z, 0, none⟩) 3 3, [-A, -X, f0 + fhi]), (Value.slice (some ⟨z + 1, 0, none⟩) 3 3, [-A, X, f0 + flo])] : List (Value × List Int)), Ints (fun b => w8.heap.size ≤ b) x3 p.1 p.2) := Lib.hid (by
              intro p hp
              simp only [List.mem_cons, List.not_mem_nil, or_false] at hp
              rcases hp with rfl | rfl
              · exact (ints_block [-A, -X, f0 + fhi] 3 q10 (by simp) (by simp) (by intro y hy; simp at hy; unfold I64; omega)).mono fun b hb => by have hb : b = _ := hb; omega
              · exact (ints_block [-A, X, f0 + flo] 3 q18 (by simp) (by simp) (by intro y hy; simp at hy; unfold I64; omega)).mono fun b hb => by have hb : b = _ := hb; omega
            )
            have HO9 := Lib.hid (HOM.out.push (rs := [(Value.slice (some ⟨z, 0, none⟩) 3 3, [-A, -X, f0 + fhi]), (Value.slice (some ⟨z + 1, 0, none⟩) 3 3, [-A, X, f0 + flo])]) HPN.out hBX HI9.out hg9 hown9 hat9)
            have cT := grown_cell hg9 (fun e => by have := HOB.out _ e.symm; omega) cT
            have cg := grown_cell hg9 (fun e => by have := HOB.out _ e.symm; omega) cg
            have ck := grown_cell hg9 (fun e => by have := HOB.out _ e.symm; omega) ck
            have g1 := grown_cell hg9 (fun e => by have := HOZ.out _ e.symm; omega) g1
            have g2 := grown_cell hg9 (fun e => by have := HOZ.out _ e.symm; omega) g2
            have cTf : ∀ o, w9.frozen? ⟨T, o, none⟩ = false := fun o => grown_froz hg9 (fun e => by have := HOB.out _ e.symm; omega) (by have := hTz; omega) (cTf o)
            have HBF : Hid (Below T w5 (w9.setCell ⟨T, 2, none⟩ (.slice (some ⟨g9, 0, none⟩) (pn + 2) cap9))) := Lib.hid (((HB.out.trans (hBX.mono (by omega))).grown hg9 (by have := hBX.size; have := HB.out.size; omega) (fun b e => by have := HOB.out b e; omega)).setCell (Nat.le_refl T) _)
            clear hown9 hg9 hat9 hrow hBX
            refine hK.out _ _ (by exact ⟨g1, g2⟩) (fun _ => ?_)
            clear hK K
            try simp only [Act.put, gz1, gz2, gz3, gz4, gz5, gz6]
            refine wpAnyH_take (i := 21) (v := ?_) rfl (by kernel_rfl) (by kernel_rfl) (by kernel_rfl) (fun _ _ _ h => h) (Or.inl ⟨by rfl, ?_⟩) (by assumption) ?_
            rotate_left
            · intro w hSw
              try dsimp only at hSw
              go_simp
              try with_reducible rfl
            try simp only [Act.put, gz1, gz2, gz3, gz4, gz5, gz6]
            refine wpAnyH_ready (rs := [22]) (by kernel_rfl) (by simp) ?_
            refine AllReadyH.cons rfl (fun K hK => ?_) AllReadyH.nil
            go_simp
            refine hK.out _ _ (by exact ⟨set_ne (by omega) g1, set_ne (by omega) g2⟩) (fun _ => ?_)
            clear hK K
            try simp only [Act.put, gz1, gz2, gz3, gz4, gz5, gz6]
            refine wpAnyH_done (by kernel_rfl) ?_ _
            have HM9 : Hid (MC = (ps ++ [(Value.slice (some ⟨z, 0, none⟩) 3 3, [-A, -X, f0 + fhi]), (Value.slice (some ⟨z + 1, 0, none⟩) 3 3, [-A, X, f0 + flo])]).map Prod.snd ++ (ndC f0 D ll (ns.drop (q + 1)) (q + 1) ++ lfC f0 ws lvs 0)) := Lib.hid (by rw [HMQ.out]; simp)
            have HL9 : Hid ((ps ++ [(Value.slice (some ⟨z, 0, none⟩) 3 3, [-A, -X, f0 + fhi]), (Value.slice (some ⟨z + 1, 0, none⟩) 3 3, [-A, X, f0 + flo])]).length = 1 + 2 * (q + 1)) := Lib.hid (by have := HPL.out; simp; omega)
            go_wp2_with fail
            go_roundg (gk - 1)
            case measure => omega
            case rel => exact ⟨q + 1, _, _, by omega, by go_num, HBF, HO9, HM9, HL9⟩
      · go_simp
        obtain ⟨x1, hnew⟩ : ∃ W, x0.alloc (.cells #[.int .i64 (-A), .int .i64 (X), .int .i64 (f0 + flo)] 3) = W := ⟨_, rfl⟩
        have hbn : Below x0.heap.size x0 x1 := by rw [← hnew]; exact (Below.refl _ _).alloc (Nat.le_refl _) _
        have hs1 : x1.heap.size = z + 1 := by rw [← hnew, World.size_alloc, hs0]
        have q18 : x1.heap[z]? = some (.cells #[.int .i64 (-A), .int .i64 (X), .int .i64 (f0 + flo)] 3) := by rw [← hnew, ← hs0]; exact new_at _ _
        have cT := keep_c hbn cT
        have cg := keep_c hbn cg
        have ck := keep_c hbn ck
        have g1 := keep_c hbn g1
        have g2 := keep_c hbn g2
        have cTf := keep_f hbn (by omega) cTf
        have hBX : Below w8.heap.size w8 x1 := hBX.trans (hbn.mono (by omega))
        try rw [hnew]
        clear hnew hbn
        refine hK.out _ _ (by exact ⟨g1, g2⟩) (fun _ => ?_)
        clear hK K
        try simp only [Act.put, gz1, gz2, gz3, gz4, gz5, gz6]
        refine wpAnyH_ready (rs := [1, 10]) (by kernel_rfl) (by simp) ?_
        refine AllReadyH.cons rfl (fun K hK => ?_) (AllReadyH.cons rfl (fun K hK => ?_) AllReadyH.nil)
        · go_simp
          refine hK.out _ _ (by exact ⟨g1, g2⟩) (fun _ => ?_)
          clear hK K
          try simp only [Act.put, gz1, gz2, gz3, gz4, gz5, gz6]
          refine wpAnyH_ready (rs := [10]) (by kernel_rfl) (by simp) ?_
          refine AllReadyH.cons rfl (fun K hK => ?_) AllReadyH.nil
          go_simp
          obtain ⟨x2, hnew⟩ : ∃ W, x1.alloc (.cells #[.int .i64 (-A), .int .i64 (-X), .int .i64 (f0 + fhi)] 3) = W := ⟨_, rfl⟩
          have hbn : Below x1.heap.size x1 x2 := by rw [← hnew]; exact (Below.refl _ _).alloc (Nat.le_refl _) _
          have hs2 : x2.heap.size = z + 2 := by rw [← hnew, World.size_alloc, hs1]
          have q10 : x2.heap[z + 1]? = some (.cells #[.int .i64 (-A), .int .i64 (-X), .int .i64 (f0 + fhi)] 3) := by rw [← hnew, ← hs1]; exact new_at _ _
          have q18 := (hbn.block (z) (by omega)).trans q18
          have cT := keep_c hbn cT
          have cg := keep_c hbn cg
          have ck := keep_c hbn ck
          have g1 := keep_c hbn g1
          have g2 := keep_c hbn g2
          have cTf := keep_f hbn (by omega) cTf
          have hBX : Below w8.heap.size w8 x2 := hBX.trans (hbn.mono (by omega))
          try rw [hnew]
          clear hnew hbn
          refine hK.out _ _ (by exact ⟨g1, g2⟩) (fun _ => ?_)
          clear hK K
          try simp only [Act.put, gz1, gz2, gz3, gz4, gz5, gz6]
          refine wpAnyH_ready (rs := [19]) (by kernel_rfl) (by simp) ?_
          refine AllReadyH.cons rfl (fun K hK => ?_) AllReadyH.nil
          go_simp
          obtain ⟨x3, hnew⟩ : ∃ W, x2.alloc (.cells #[.slice (some ⟨z + 1, 0, none⟩) 3 3, .slice (some ⟨z, 0, none⟩) 3 3] 22) = W := ⟨_, rfl⟩
          have hbn : Below x2.heap.size x2 x3 := by rw [← hnew]; exact (Below.refl _ _).alloc (Nat.le_refl _) _
          have hs3 : x3.heap.size = z + 3 := by rw [← hnew, World.size_alloc, hs2]
          have q19 : x3.heap[z + 2]? = some (.cells #[.slice (some ⟨z + 1, 0, none⟩) 3 3, .slice (some ⟨z, 0, none⟩) 3 3] 22) := by rw [← hnew, ← hs2]; exact new_at _ _
          have q18 := (hbn.block (z) (by omega)).trans q18
          have q10 := (hbn.block (z + 1) (by omega)).trans q10
          have cT := keep_c hbn cT
          have cg := keep_c hbn cg
          have ck := keep_c hbn ck
          have g1 := keep_c hbn g1
          have g2 := keep_c hbn g2
          have cTf := keep_f hbn (by omega) cTf
          have hBX : Below w8.heap.size w8 x3 := hBX.trans (hbn.mono (by omega))
          try rw [hnew]
          clear hnew hbn
          refine hK.out _ _ (by exact ⟨g1, g2⟩) (fun _ => ?_)
          clear hK K
          try simp only [Act.put, gz1, gz2, gz3, gz4, gz5, gz6]
          refine wpAnyH_ready (rs := [20]) (by kernel_rfl) (by simp) ?_
          refine AllReadyH.cons rfl (fun K hK => ?_) AllReadyH.nil
          have hrow := own_below HOM.out.2.1.1 hBX
          rw [HPN.out] at hrow
          refine step_push2 rfl _ _ 29 rfl 22 (.slice none 0 0) 24 Tryz.underlying29 HIN.out rfl (T + 1) (.slice oa pn oc) pn (ps.map Prod.fst) (z + 2) (Value.slice (some ⟨z + 1, 0, none⟩) 3 3) (Value.slice (some ⟨z, 0, none⟩) 3 3) rfl rfl (cell_of q19 rfl) (cell_of q19 rfl) hrow rfl rfl (by omega) (by omega) (by omega) ?_
          intro g9 cap9 w9 hown9 hg9 hat9
          have HI9 : Hid (∀ p ∈ ([(Value.slice (some ⟨z + 1, 0, none⟩) 3 3, [-A, -X, f0 + fhi]), (Value.slice (some ⟨z, 0, none⟩) 3 3, [-A, X, f0 + flo])] : List (Value × List Int)), Ints (fun b => w8.heap.size ≤ b) x3 p.1 p.2) := Lib.hid (by
            intro p hp
            simp only [List.mem_cons, List.not_mem_nil, or_false] at hp
            rcases hp with rfl | rfl
            · exact (ints_block [-A, -X, f0 + fhi] 3 q10 (by simp) (by simp) (by intro y hy; simp at hy; unfold I64; omega)).mono fun b hb => by have hb : b = _ := hb; omega
            · exact (ints_block [-A, X, f0 + flo] 3 q18 (by simp) (by simp) (by intro y hy; simp at hy; unfold I64; omega)).mono fun b hb => by have hb : b = _ := hb; omega
          )
          have HO9 := Lib.hid (HOM.out.push (rs := [(Value.slice (some ⟨z + 1, 0, none⟩) 3 3, [-A, -X, f0 + fhi]), (Value.slice (some ⟨z, 0, none⟩) 3 3, [-A, X, f0 + flo])]) HPN.out hBX HI9.out hg9 hown9 hat9)
          have cT := grown_cell hg9 (fun e => by have := HOB.out _ e.symm; omega) cT
          have cg := grown_cell hg9 (fun e => by have := HOB.out _ e.symm; omega) cg
          have ck := grown_cell hg9 (fun e => by have := HOB.out _ e.symm; omega) ck
          have g1 := grown_cell hg9 (fun e => by have := HOZ.out _ e.symm; omega) g1
          have g2 := grown_cell hg9 (fun e => by have := HOZ.out _ e.symm; omega) g2
          have cTf : ∀ o, w9.frozen? ⟨T, o, none⟩ = false := fun o => grown_froz hg9 (fun e => by have := HOB.out _ e.symm; omega) (by have := hTz; omega) (cTf o)
          have HBF : Hid (Below T w5 (w9.setCell ⟨T, 2, none⟩ (.slice (some ⟨g9, 0, none⟩) (pn + 2) cap9))) := Lib.hid (((HB.out.trans (hBX.mono (by omega))).grown hg9 (by have := hBX.size; have := HB.out.size; omega) (fun b e => by have := HOB.out b e; omega)).setCell (Nat.le_refl T) _)
          clear hown9 hg9 hat9 hrow hBX
          refine hK.out _ _ (by exact ⟨g1, g2⟩) (fun _ => ?_)
          clear hK K
          try simp only [Act.put, gz1, gz2, gz3, gz4, gz5, gz6]
          refine wpAnyH_take (i := 21) (v := ?_) rfl (by kernel_rfl) (by kernel_rfl) (by kernel_rfl) (fun _ _ _ h => h) (Or.inl ⟨by rfl, ?_⟩) (by assumption) ?_
          rotate_left
          · intro w hSw
            try dsimp only at hSw
            go_simp
            try with_reducible rfl
          try simp only [Act.put, gz1, gz2, gz3, gz4, gz5, gz6]
          refine wpAnyH_ready (rs := [22]) (by kernel_rfl) (by simp) ?_
          refine AllReadyH.cons rfl (fun K hK => ?_) AllReadyH.nil
          go_simp
          refine hK.out _ _ (by exact ⟨set_ne (by omega) g1, set_ne (by omega) g2⟩) (fun _ => ?_)
          clear hK K
          try simp only [Act.put, gz1, gz2, gz3, gz4, gz5, gz6]
          refine wpAnyH_done (by kernel_rfl) ?_ _
          have HM9 : Hid (MC = (ps ++ [(Value.slice (some ⟨z + 1, 0, none⟩) 3 3, [-A, -X, f0 + fhi]), (Value.slice (some ⟨z, 0, none⟩) 3 3, [-A, X, f0 + flo])]).map Prod.snd ++ (ndC f0 D ll (ns.drop (q + 1)) (q + 1) ++ lfC f0 ws lvs 0)) := Lib.hid (by rw [HMQ.out]; simp)
          have HL9 : Hid ((ps ++ [(Value.slice (some ⟨z + 1, 0, none⟩) 3 3, [-A, -X, f0 + fhi]), (Value.slice (some ⟨z, 0, none⟩) 3 3, [-A, X, f0 + flo])]).length = 1 + 2 * (q + 1)) := Lib.hid (by have := HPL.out; simp; omega)
          go_wp2_with fail
          go_roundg (gk - 1)
          case measure => omega
          case rel => exact ⟨q + 1, _, _, by omega, by go_num, HBF, HO9, HM9, HL9⟩
        · go_simp
          obtain ⟨x2, hnew⟩ : ∃ W, x1.alloc (.cells #[.int .i64 (-A), .int .i64 (-X), .int .i64 (f0 + fhi)] 3) = W := ⟨_, rfl⟩
          have hbn : Below x1.heap.size x1 x2 := by rw [← hnew]; exact (Below.refl _ _).alloc (Nat.le_refl _) _
          have hs2 : x2.heap.size = z + 2 := by rw [← hnew, World.size_alloc, hs1]
          have q10 : x2.heap[z + 1]? = some (.cells #[.int .i64 (-A), .int .i64 (-X), .int .i64 (f0 + fhi)] 3) := by rw [← hnew, ← hs1]; exact new_at _ _
          have q18 := (hbn.block (z) (by omega)).trans q18
          have cT := keep_c hbn cT
          have cg := keep_c hbn cg
          have ck := keep_c hbn ck
          have g1 := keep_c hbn g1
          have g2 := keep_c hbn g2
          have cTf := keep_f hbn (by omega) cTf
          have hBX : Below w8.heap.size w8 x2 := hBX.trans (hbn.mono (by omega))
          try rw [hnew]
          clear hnew hbn
          refine hK.out _ _ (by exact ⟨g1, g2⟩) (fun _ => ?_)
          clear hK K
          try simp only [Act.put, gz1, gz2, gz3, gz4, gz5, gz6]
          refine wpAnyH_ready (rs := [1, 19]) (by kernel_rfl) (by simp) ?_
          refine AllReadyH.cons rfl (fun K hK => ?_) (AllReadyH.cons rfl (fun K hK => ?_) AllReadyH.nil)
          · go_simp
            refine hK.out _ _ (by exact ⟨g1, g2⟩) (fun _ => ?_)
            clear hK K
            try simp only [Act.put, gz1, gz2, gz3, gz4, gz5, gz6]
            refine wpAnyH_ready (rs := [19]) (by kernel_rfl) (by simp) ?_
            refine AllReadyH.cons rfl (fun K hK => ?_) AllReadyH.nil
            go_simp
            obtain ⟨x3, hnew⟩ : ∃ W, x2.alloc (.cells #[.slice (some ⟨z + 1, 0, none⟩) 3 3, .slice (some ⟨z, 0, none⟩) 3 3] 22) = W := ⟨_, rfl⟩
            have hbn : Below x2.heap.size x2 x3 := by rw [← hnew]; exact (Below.refl _ _).alloc (Nat.le_refl _) _
            have hs3 : x3.heap.size = z + 3 := by rw [← hnew, World.size_alloc, hs2]
            have q19 : x3.heap[z + 2]? = some (.cells #[.slice (some ⟨z + 1, 0, none⟩) 3 3, .slice (some ⟨z, 0, none⟩) 3 3] 22) := by rw [← hnew, ← hs2]; exact new_at _ _
            have q18 := (hbn.block (z) (by omega)).trans q18
            have q10 := (hbn.block (z + 1) (by omega)).trans q10
            have cT := keep_c hbn cT
            have cg := keep_c hbn cg
            have ck := keep_c hbn ck
            have g1 := keep_c hbn g1
            have g2 := keep_c hbn g2
            have cTf := keep_f hbn (by omega) cTf
            have hBX : Below w8.heap.size w8 x3 := hBX.trans (hbn.mono (by omega))
            try rw [hnew]
            clear hnew hbn
            refine hK.out _ _ (by exact ⟨g1, g2⟩) (fun _ => ?_)
            clear hK K
            try simp only [Act.put, gz1, gz2, gz3, gz4, gz5, gz6]
            refine wpAnyH_ready (rs := [20]) (by kernel_rfl) (by simp) ?_
            refine AllReadyH.cons rfl (fun K hK => ?_) AllReadyH.nil
            have hrow := own_below HOM.out.2.1.1 hBX
            rw [HPN.out] at hrow
            refine step_push2 rfl _ _ 29 rfl 22 (.slice none 0 0) 24 Tryz.underlying29 HIN.out rfl (T + 1) (.slice oa pn oc) pn (ps.map Prod.fst) (z + 2) (Value.slice (some ⟨z + 1, 0, none⟩) 3 3) (Value.slice (some ⟨z, 0, none⟩) 3 3) rfl rfl (cell_of q19 rfl) (cell_of q19 rfl) hrow rfl rfl (by omega) (by omega) (by omega) ?_
            intro g9 cap9 w9 hown9 hg9 hat9
            have HI9 : Hid (∀ p ∈ ([(Value.slice (some ⟨z + 1, 0, none⟩) 3 3, [-A, -X, f0 + fhi]), (Value.slice (some ⟨z, 0, none⟩) 3 3, [-A, X, f0 + flo])] : List (Value × List Int)), Ints (fun b => w8.heap.size ≤ b) x3 p.1 p.2) := Lib.hid (by
              intro p hp
              simp only [List.mem_cons, List.not_mem_nil, or_false] at hp
              rcases hp with rfl | rfl
              · exact (ints_block [-A, -X, f0 + fhi] 3 q10 (by simp) (by simp) (by intro y hy; simp at hy; unfold I64; omega)).mono fun b hb => by have hb : b = _ := hb; omega
              · exact (ints_block [-A, X, f0 + flo] 3 q18 (by simp) (by simp) (by intro y hy; simp at hy; unfold I64; omega)).mono fun b hb => by have hb : b = _ := hb; omega
            )
            have HO9 := Lib.hid (HOM.out.push (rs := [(Value.slice (some ⟨z + 1, 0, none⟩) 3 3, [-A, -X, f0 + fhi]), (Value.slice (some ⟨z, 0, none⟩) 3 3, [-A, X, f0 + flo])]) HPN.out hBX HI9.out hg9 hown9 hat9)
            have cT := grown_cell hg9 (fun e => by have := HOB.out _ e.symm; omega) cT
            have cg := grown_cell hg9 (fun e => by have := HOB.out _ e.symm; omega) cg
            have ck := grown_cell hg9 (fun e => by have := HOB.out _ e.symm; omega) ck
            have g1 := grown_cell hg9 (fun e => by have := HOZ.out _ e.symm; omega) g1
            have g2 := grown_cell hg9 (fun e => by have := HOZ.out _ e.symm; omega) g2
            have cTf : ∀ o, w9.frozen? ⟨T, o, none⟩ = false := fun o => grown_froz hg9 (fun e => by have := HOB.out _ e.symm; omega) (by have := hTz; omega) (cTf o)
            have HBF : Hid (Below T w5 (w9.setCell ⟨T, 2, none⟩ (.slice (some ⟨g9, 0, none⟩) (pn + 2) cap9))) := Lib.hid (((HB.out.trans (hBX.mono (by omega))).grown hg9 (by have := hBX.size; have := HB.out.size; omega) (fun b e => by have := HOB.out b e; omega)).setCell (Nat.le_refl T) _)
            clear hown9 hg9 hat9 hrow hBX
            refine hK.out _ _ (by exact ⟨g1, g2⟩) (fun _ => ?_)
            clear hK K
            try simp only [Act.put, gz1, gz2, gz3, gz4, gz5, gz6]
            refine wpAnyH_take (i := 21) (v := ?_) rfl (by kernel_rfl) (by kernel_rfl) (by kernel_rfl) (fun _ _ _ h => h) (Or.inl ⟨by rfl, ?_⟩) (by assumption) ?_
            rotate_left
            · intro w hSw
              try dsimp only at hSw
              go_simp
              try with_reducible rfl
            try simp only [Act.put, gz1, gz2, gz3, gz4, gz5, gz6]
            refine wpAnyH_ready (rs := [22]) (by kernel_rfl) (by simp) ?_
            refine AllReadyH.cons rfl (fun K hK => ?_) AllReadyH.nil
            go_simp
            refine hK.out _ _ (by exact ⟨set_ne (by omega) g1, set_ne (by omega) g2⟩) (fun _ => ?_)
            clear hK K
            try simp only [Act.put, gz1, gz2, gz3, gz4, gz5, gz6]
            refine wpAnyH_done (by kernel_rfl) ?_ _
            have HM9 : Hid (MC = (ps ++ [(Value.slice (some ⟨z + 1, 0, none⟩) 3 3, [-A, -X, f0 + fhi]), (Value.slice (some ⟨z, 0, none⟩) 3 3, [-A, X, f0 + flo])]).map Prod.snd ++ (ndC f0 D ll (ns.drop (q + 1)) (q + 1) ++ lfC f0 ws lvs 0)) := Lib.hid (by rw [HMQ.out]; simp)
            have HL9 : Hid ((ps ++ [(Value.slice (some ⟨z + 1, 0, none⟩) 3 3, [-A, -X, f0 + fhi]), (Value.slice (some ⟨z, 0, none⟩) 3 3, [-A, X, f0 + flo])]).length = 1 + 2 * (q + 1)) := Lib.hid (by have := HPL.out; simp; omega)
            go_wp2_with fail
            go_roundg (gk - 1)
            case measure => omega
            case rel => exact ⟨q + 1, _, _, by omega, by go_num, HBF, HO9, HM9, HL9⟩
          · go_simp
            obtain ⟨x3, hnew⟩ : ∃ W, x2.alloc (.cells #[.slice (some ⟨z + 1, 0, none⟩) 3 3, .slice (some ⟨z, 0, none⟩) 3 3] 22) = W := ⟨_, rfl⟩
            have hbn : Below x2.heap.size x2 x3 := by rw [← hnew]; exact (Below.refl _ _).alloc (Nat.le_refl _) _
            have hs3 : x3.heap.size = z + 3 := by rw [← hnew, World.size_alloc, hs2]
            have q19 : x3.heap[z + 2]? = some (.cells #[.slice (some ⟨z + 1, 0, none⟩) 3 3, .slice (some ⟨z, 0, none⟩) 3 3] 22) := by rw [← hnew, ← hs2]; exact new_at _ _
            have q18 := (hbn.block (z) (by omega)).trans q18
            have q10 := (hbn.block (z + 1) (by omega)).trans q10
            have cT := keep_c hbn cT
            have cg := keep_c hbn cg
            have ck := keep_c hbn ck
            have g1 := keep_c hbn g1
            have g2 := keep_c hbn g2
            have cTf := keep_f hbn (by omega) cTf
            have hBX : Below w8.heap.size w8 x3 := hBX.trans (hbn.mono (by omega))
            try rw [hnew]
            clear hnew hbn
            refine hK.out _ _ (by exact ⟨g1, g2⟩) (fun _ => ?_)
            clear hK K
            try simp only [Act.put, gz1, gz2, gz3, gz4, gz5, gz6]
            refine wpAnyH_ready (rs := [1]) (by kernel_rfl) (by simp) ?_
            refine AllReadyH.cons rfl (fun K hK => ?_) AllReadyH.nil
            go_simp
            refine hK.out _ _ (by exact ⟨g1, g2⟩) (fun _ => ?_)
            clear hK K
            try simp only [Act.put, gz1, gz2, gz3, gz4, gz5, gz6]
            refine wpAnyH_ready (rs := [20]) (by kernel_rfl) (by simp) ?_
            refine AllReadyH.cons rfl (fun K hK => ?_) AllReadyH.nil
            have hrow := own_below HOM.out.2.1.1 hBX
            rw [HPN.out] at hrow
            refine step_push2 rfl _ _ 29 rfl 22 (.slice none 0 0) 24 Tryz.underlying29 HIN.out rfl (T + 1) (.slice oa pn oc) pn (ps.map Prod.fst) (z + 2) (Value.slice (some ⟨z + 1, 0, none⟩) 3 3) (Value.slice (some ⟨z, 0, none⟩) 3 3) rfl rfl (cell_of q19 rfl) (cell_of q19 rfl) hrow rfl rfl (by omega) (by omega) (by omega) ?_
            intro g9 cap9 w9 hown9 hg9 hat9
            have HI9 : Hid (∀ p ∈ ([(Value.slice (some ⟨z + 1, 0, none⟩) 3 3, [-A, -X, f0 + fhi]), (Value.slice (some ⟨z, 0, none⟩) 3 3, [-A, X, f0 + flo])] : List (Value × List Int)), Ints (fun b => w8.heap.size ≤ b) x3 p.1 p.2) := Lib.hid (by
              intro p hp
              simp only [List.mem_cons, List.not_mem_nil, or_false] at hp
              rcases hp with rfl | rfl
              · exact (ints_block [-A, -X, f0 + fhi] 3 q10 (by simp) (by simp) (by intro y hy; simp at hy; unfold I64; omega)).mono fun b hb => by have hb : b = _ := hb; omega
              · exact (ints_block [-A, X, f0 + flo] 3 q18 (by simp) (by simp) (by intro y hy; simp at hy; unfold I64; omega)).mono fun b hb => by have hb : b = _ := hb; omega
            )
            have HO9 := Lib.hid (HOM.out.push (rs := [(Value.slice (some ⟨z + 1, 0, none⟩) 3 3, [-A, -X, f0 + fhi]), (Value.slice (some ⟨z, 0, none⟩) 3 3, [-A, X, f0 + flo])]) HPN.out hBX HI9.out hg9 hown9 hat9)
            have cT := grown_cell hg9 (fun e => by have := HOB.out _ e.symm; omega) cT
            have cg := grown_cell hg9 (fun e => by have := HOB.out _ e.symm; omega) cg
            have ck := grown_cell hg9 (fun e => by have := HOB.out _ e.symm; omega) ck
            have g1 := grown_cell hg9 (fun e => by have := HOZ.out _ e.symm; omega) g1
            have g2 := grown_cell hg9 (fun e => by have := HOZ.out _ e.symm; omega) g2
            have cTf : ∀ o, w9.frozen? ⟨T, o, none⟩ = false := fun o => grown_froz hg9 (fun e => by have := HOB.out _ e.symm; omega) (by have := hTz; omega) (cTf o)
            have HBF : Hid (Below T w5 (w9.setCell ⟨T, 2, none⟩ (.slice (some ⟨g9, 0, none⟩) (pn + 2) cap9))) := Lib.hid (((HB.out.trans (hBX.mono (by omega))).grown hg9 (by have := hBX.size; have := HB.out.size; omega) (fun b e => by have := HOB.out b e; omega)).setCell (Nat.le_refl T) _)
            clear hown9 hg9 hat9 hrow hBX
            refine hK.out _ _ (by exact ⟨g1, g2⟩) (fun _ => ?_)
            clear hK K
            try simp only [Act.put, gz1, gz2, gz3, gz4, gz5, gz6]
            refine wpAnyH_take (i := 21) (v := ?_) rfl (by kernel_rfl) (by kernel_rfl) (by kernel_rfl) (fun _ _ _ h => h) (Or.inl ⟨by rfl, ?_⟩) (by assumption) ?_
            rotate_left
            · intro w hSw
              try dsimp only at hSw
              go_simp
              try with_reducible rfl
            try simp only [Act.put, gz1, gz2, gz3, gz4, gz5, gz6]
            refine wpAnyH_ready (rs := [22]) (by kernel_rfl) (by simp) ?_
            refine AllReadyH.cons rfl (fun K hK => ?_) AllReadyH.nil
            go_simp
            refine hK.out _ _ (by exact ⟨set_ne (by omega) g1, set_ne (by omega) g2⟩) (fun _ => ?_)
            clear hK K
            try simp only [Act.put, gz1, gz2, gz3, gz4, gz5, gz6]
            refine wpAnyH_done (by kernel_rfl) ?_ _
            have HM9 : Hid (MC = (ps ++ [(Value.slice (some ⟨z + 1, 0, none⟩) 3 3, [-A, -X, f0 + fhi]), (Value.slice (some ⟨z, 0, none⟩) 3 3, [-A, X, f0 + flo])]).map Prod.snd ++ (ndC f0 D ll (ns.drop (q + 1)) (q + 1) ++ lfC f0 ws lvs 0)) := Lib.hid (by rw [HMQ.out]; simp)
            have HL9 : Hid ((ps ++ [(Value.slice (some ⟨z + 1, 0, none⟩) 3 3, [-A, -X, f0 + fhi]), (Value.slice (some ⟨z, 0, none⟩) 3 3, [-A, X, f0 + flo])]).length = 1 + 2 * (q + 1)) := Lib.hid (by have := HPL.out; simp; omega)
            go_wp2_with fail
            go_roundg (gk - 1)
            case measure => omega
            case rel => exact ⟨q + 1, _, _, by omega, by go_num, HBF, HO9, HM9, HL9⟩

end Go.Proofs.YteadlkecngfcoaaGreat
