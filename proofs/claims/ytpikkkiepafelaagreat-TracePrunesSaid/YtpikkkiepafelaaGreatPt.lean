/- (Trace seat) The trace that a call writes: its block and its own row of claims; walk of copied, of the package trace. No condition but the sizes. -/
import Derived.Test.YtpikkkiepafelaaGreatPs
namespace Go.Proofs.YtpikkkiepafelaaGreat
open Go.ChangeShapes Go.WideShapes Go.ChangeAt Go.RowKit
set_option linter.unusedVariables false
set_option linter.unusedSimpArgs false

section push5
variable {P : Program} {ops : Array Oper} {rest : List Oper} {o : Oper} {a : Act} {Q : Exit → Act → World → Prop}
/-- append of one element of five cells, which has just been laid in a block of its own -/
theorem wpList_push5t (hgd : o.guard = none) (s x : Operand) (t : TypeId)
    (ho : o.op = .call { callee := .builtin .append, args := #[s, x], argTypes := #[t, t] })
    (E : TypeId) (z : Value) (bytes : Nat) (ht : P.underlying t = some (.slice E)) (hinfo : (P.info? E).map (fun i => (i.zero, i.size, i.bytes)) = some (some z, 5, bytes)) (hz1 : z.cells.size = 5)
    (base : Nat) (v : Value) (n : Nat) (xs : List Value) (w0 : World) (u0 u1 u2 u3 u4 : Value)
    (hs : a.eval s = v) (hx : a.eval x = .slice (some ⟨w0.heap.size, 0, none⟩) 1 1) (hown : w0.ownsRow base E 5 v n xs) (hu0 : u0.oneCell' = true) (hu1 : u1.oneCell' = true) (hu2 : u2.oneCell' = true) (hu3 : u3.oneCell' = true) (hu4 : u4.oneCell' = true)
    (hn : (n + 1) * bytes ≤ 140737488355328) (hby : 1 ≤ bytes) (hbase : base ≤ w0.heap.size)
    (h : ∀ (g cap' : Nat) w', w'.ownsRow base E 5 (.slice (some ⟨g, 0, none⟩) (n + 1) cap') (n + 1) (xs ++ [u0, u1, u2, u3, u4]) → w0.grownBy w' v.ownBlock → w0.heap.size < w'.heap.size → base ≤ g → g < w'.heap.size → (v.ownBlock = some g ∨ w0.heap.size ≤ g) → wpList P ops Q rest (a.put o.dst (.slice (some ⟨g, 0, none⟩) (n + 1) cap')) w') :
    wpList P ops Q (o :: rest) a (w0.alloc (.cells #[u0, u1, u2, u3, u4] E)) := by
  obtain ⟨i, hi, hz, h1, h2⟩ := info_parts hinfo
  have hle : n + 1 ≤ (n + 1) * bytes := Nat.le_mul_of_pos_right _ hby
  refine wpList_append_own_at _ hgd s x t ho base E i z 5 bytes ht hi hz h1 h2 hz1 (by decide) v n xs hs (hown.alloc _) ⟨w0.heap.size, 0, none⟩ 1 1 [u0, u1, u2, u3, u4] hx rfl ?_ ?_ ?_ hn ?_ ?_
  · intro j y hj
    match j, hj with
    | 0, hj => simp at hj; subst hj; simp [Addr.add]
    | 1, hj => simp at hj; subst hj; simp [Addr.add]
    | 2, hj => simp at hj; subst hj; simp [Addr.add]
    | 3, hj => simp at hj; subst hj; simp [Addr.add]
    | 4, hj => simp at hj; subst hj; simp [Addr.add]
  · intro y hy; simp at hy; rcases hy with rfl | rfl | rfl | rfl | rfl <;> assumption
  · unfold maxLen; omega
  · simp; omega
  · intro v' w' hown' hg _ hat
    rcases hown'.2 with ⟨_, h0⟩ | ⟨g, cap', cur, rfl, hb, hh, _⟩
    · omega
    refine h g cap' w' hown' ⟨hg.os, hg.tape, hg.output, ?_, ?_⟩ ?_ hb (Array.getElem?_eq_some_iff.1 hh).1 ?_
    · have := hg.size; simp at this; omega
    · intro k hk hne
      rw [hg.block k (by simp; omega) hne]
      exact Below.heap_alloc w0 _ k hk
    · have := hg.size; simp at this; omega
    · rcases hat with h | h
      · exact .inl h.symm
      · right; simp [Value.ownBlock] at h; omega
end push5

theorem claimV_and {F : Nat → Prop} {w : World} {u : Row5} {c : Claim} (h : ClaimV F w u c) : ClaimV (fun b => b < w.heap.size ∧ F b) w u c := by
  have h1 := h.lt
  obtain ⟨⟨hcl, e1, e2, hki, e4⟩, hI⟩ := h
  refine ⟨⟨?_, e1, e2, (hki.lt).mono fun b hb => ⟨hb.2, hb.1⟩, e4⟩, hI⟩
  obtain ⟨us, h1, h2, h3⟩ := hcl
  exact ⟨us, h1.lt.mono fun b hb => ⟨hb.2, hb.1⟩, h2, fun j u x hu hx => ((h3 j u x hu hx).lt).mono fun b hb => ⟨hb.2, hb.1⟩⟩
/-- the trace that is written: the block T, its row of claims behind it; the claims' parts lie below s or behind T -/
def TrP (w : World) (s T : Nat) (v : Value) (ts : List Claim) : Prop :=
  w.cell? ⟨T, 0, none⟩ = some v ∧ (∀ o, w.frozen? ⟨T, o, none⟩ = false) ∧
  ∃ us : List Row5, w.ownsRow (T + 1) 42 5 v ts.length (cells5 us) ∧ us.length = ts.length ∧ ∀ (j : Nat) u c, us[j]? = some u → ts[j]? = some c → ClaimV (fun b => (b < s ∨ T + 1 ≤ b) ∧ v.ownBlock ≠ some b) w u c
theorem TrP.same {w w' : World} {s T : Nat} {v : Value} {ts : List Claim} (h : TrP w s T v ts) (hs : s ≤ T) (hm : ∀ b, b < w.heap.size → b < s ∨ T ≤ b → w'.heap[b]? = w.heap[b]?) : TrP w' s T v ts := by
  obtain ⟨h0, hf, us, ho, hl, hr⟩ := h
  have hlt := block_lt h0
  have hT := hm T hlt (.inr (Nat.le_refl _))
  refine ⟨(World.cell?_of_block hT).trans h0, fun o => (World.frozen?_of_block (a := ⟨T, o, none⟩) hT).trans (hf o), us, own_same ho fun b e => hm b (ho.lt b e).2 (.inr (by have := (ho.lt b e).1; omega)), hl, fun j u c hu hc => ((claimV_and (hr j u c hu hc)).move fun b hb _ => hm b hb.1 ?_).mono fun b hb => hb.2⟩
  rcases hb.2.1 with h | h
  · exact .inl h
  · exact .inr (by omega)
theorem TrP.below {w w' : World} {s T : Nat} {v : Value} {ts : List Claim} (h : TrP w s T v ts) (hs : s ≤ T) (hb : Below w.heap.size w w') : TrP w' s T v ts := h.same hs fun b h1 _ => hb.block b h1
theorem TrP.push {w w7 : World} {s T g cap n : Nat} {v r0 r1 r2 r3 r4 : Value} {ts : List Claim} {c : Claim} {us : List Row5} (hs : s ≤ T)
    (h : TrP w s T v ts) (hn : n = ts.length) (h1 : w.ownsRow (T + 1) 42 5 v n (cells5 us)) (h2 : us.length = ts.length) (h3 : ∀ (j : Nat) u c, us[j]? = some u → ts[j]? = some c → ClaimV (fun b => (b < s ∨ T + 1 ≤ b) ∧ v.ownBlock ≠ some b) w u c) (hr : ClaimV (fun b => (b < s ∨ T + 1 ≤ b) ∧ v.ownBlock ≠ some b) w (r0, r1, r2, r3, r4) c)
    (hown : w7.ownsRow (T + 1) 42 5 (.slice (some ⟨g, 0, none⟩) (n + 1) cap) (n + 1) (cells5 us ++ [r0, r1, r2, r3, r4])) (hg : w.grownBy w7 v.ownBlock) (hat : v.ownBlock = some g ∨ w.heap.size ≤ g) :
    TrP (w7.setCell ⟨T, 0, none⟩ (.slice (some ⟨g, 0, none⟩) (n + 1) cap)) s T (.slice (some ⟨g, 0, none⟩) (n + 1) cap) (ts ++ [c]) := by
  subst hn
  obtain ⟨c0, hf, _⟩ := h
  have hlt := block_lt c0
  have hne : some T ≠ v.ownBlock := fun e => by have := (h1.lt T e.symm).1; omega
  have hgB : T + 1 ≤ g := (hown.lt g rfl).1
  have mv : ∀ u m, ClaimV (fun b => (b < s ∨ T + 1 ≤ b) ∧ v.ownBlock ≠ some b) w u m → ClaimV (fun b => (b < s ∨ T + 1 ≤ b) ∧ (Value.slice (some ⟨g, 0, none⟩) (ts.length + 1) cap).ownBlock ≠ some b) (w7.setCell ⟨T, 0, none⟩ (.slice (some ⟨g, 0, none⟩) (ts.length + 1) cap)) u m := by
    intro u m hu
    refine ((claimV_and hu).move (w' := w7.setCell ⟨T, 0, none⟩ (.slice (some ⟨g, 0, none⟩) (ts.length + 1) cap)) fun b hb hlt => ?_).mono fun b hb => ?_
    · exact (Below.heap_setCell _ _ _ _ (show b ≠ T by have := hb.2.1; omega)).trans (hg.block b hlt (fun e => hb.2.2 e.symm))
    · refine ⟨hb.2.1, ?_⟩
      simp only [Value.ownBlock]
      intro e
      injection e with e
      subst e
      rcases hat with h | h
      · exact hb.2.2 h
      · have := hb.1; omega
  refine ⟨set_eq (grown_c2 hg hne c0), fun o => ?_, us ++ [(r0, r1, r2, r3, r4)], ?_, by simp [h2], fun j u x hu hx => ?_⟩
  · rw [World.frozen?_setCell]
    exact (World.frozen?_of_block (a := ⟨T, o, none⟩) (hg.block T hlt hne)).trans (hf o)
  · rw [List.length_append, cells5_snoc]
    refine own_same hown fun b e => Below.heap_setCell _ _ _ _ ?_
    have : g = b := by simpa [Value.ownBlock] using e
    show b ≠ T
    omega
  · rcases Nat.lt_or_ge j us.length with hj | hj
    · rw [List.getElem?_append_left hj] at hu
      rw [List.getElem?_append_left (by omega)] at hx
      exact mv u x (h3 j u x hu hx)
    · rw [List.getElem?_append_right hj] at hu
      rw [List.getElem?_append_right (by omega)] at hx
      rw [h2] at hu
      rcases hk : j - ts.length with _ | k
      · rw [hk] at hu hx
        simp at hu hx
        subst hu hx
        exact mv _ c hr
      · rw [hk] at hu
        simp at hu
theorem TrP.claims {w : World} {s T : Nat} {v : Value} {ts : List Claim} (h : TrP w s T v ts) (hn : ts.length ≤ 9223372036854775807) : Claims (fun b => b < s ∨ T + 1 ≤ b) w v ts := by
  obtain ⟨_, _, us, h1, h2, h3⟩ := h
  refine ⟨us, ?_, h2, fun j u c hu hc => (h3 j u c hu hc).mono fun b hb => hb.1⟩
  rcases h1.2 with ⟨rfl, h0⟩ | ⟨g, cap, cur, rfl, _⟩
  · have : us = [] := List.eq_nil_of_length_eq_zero (by omega)
    subst this
    exact ⟨none, 0, rfl, by simp, fun j u hu => by simp at hu⟩
  · have hg := (h1.lt g rfl).1
    refine ⟨some ⟨g, 0, none⟩, cap, by rw [h2], by omega, fun j u hu => ⟨g, 0, rfl, .inr hg, ?_⟩⟩
    have hc := h1.cells (g := g) rfl
    obtain ⟨e1, e2, e3, e4, e5⟩ := cells5_get us j u hu
    have f1 := hc _ _ e1
    have f2 := hc _ _ e2
    have f3 := hc _ _ e3
    have f4 := hc _ _ e4
    have f5 := hc _ _ e5
    rw [add_at] at f1 f2 f3 f4 f5
    rw [Nat.zero_add] at f1 f2 f3 f4 f5 ⊢
    exact ⟨f1, f2, f3, f4, f5⟩
theorem Claims.lt' {F : Nat → Prop} {w : World} {v : Value} {ts : List Claim} (h : Claims F w v ts) : Claims (fun b => b < w.heap.size) w v ts := by
  obtain ⟨us, ⟨a, cp, e1, e2, e3⟩, h2, h3⟩ := h
  refine ⟨us, ⟨a, cp, e1, e2, fun j u hu => ?_⟩, h2, fun j u c hu hc => (h3 j u c hu hc).lt⟩
  obtain ⟨b, off, f1, f2, f3⟩ := e3 j u hu
  exact ⟨b, off, f1, block_lt f3.1, f3⟩
/-- what copied hands back -/
def CpyPost (W : World) (ts : List Claim) (e : Ending) (w' : World) : Prop := ∃ v, e = .returned (.agg #[v]) ∧ Claims (fun b => W.heap.size ≤ b) w' v ts ∧ Below W.heap.size W w'
/-- what Prune and pruned hand back -/
def TrcPost (W : World) (ts : List Claim) (e : Ending) (w' : World) : Prop := ∃ v, e = .returned (.agg #[v]) ∧ Claims (fun _ => True) w' v ts ∧ Below W.heap.size W w'

set_option maxRecDepth 100000 in
set_option maxHeartbeats 16000000 in
theorem copied_any (tv : Value) (ts : List Claim) (w : World) (hx : Claims (fun _ => True) w tv ts) (hsz : ∀ c ∈ ts, SzC c) (hl : ts.length ≤ 4000) :
    Calls Tryz.prog 14 #[.agg #[tv]] w (CpyPost w ts) := by
  obtain ⟨ta, tn, tc, rfl, HTN, htn⟩ := hx.form
  obtain ⟨s, hs⟩ : ∃ b, w.heap.size = b := ⟨_, rfl⟩
  obtain ⟨W1, hW1⟩ : ∃ W, ((w.alloc (.cells #[.slice ta tn tc] 27)).alloc (.cells #[.slice none 0 0] 27)).alloc (.cells #[.slice none 0 0] 27) = W := ⟨_, rfl⟩
  have hb1 : Below w.heap.size w W1 := by rw [← hW1]; exact (((Below.refl _ _).alloc (Nat.le_refl _) _).alloc (by simp) _).alloc (by simp; omega) _
  have hs1 : W1.heap.size = s + 3 := by rw [← hW1]; simp; omega
  have hr0 : W1.heap[s]? = some (.cells #[.slice ta tn tc] 27) := by rw [← hW1]; exact old_at _ _ _ (old_at _ _ _ (new_at' _ _ hs.symm))
  have hr1 : W1.heap[s + 1]? = some (.cells #[.slice none 0 0] 27) := by rw [← hW1]; exact old_at _ _ _ (new_at' _ _ (by simp; omega))
  have hr2 : W1.heap[s + 2]? = some (.cells #[.slice none 0 0] 27) := by rw [← hW1]; exact new_at' _ _ (by simp; omega)
  have t0 : W1.cell? ⟨s, 0, none⟩ = some (.slice ta tn tc) := by rw [cell_of_row _ _ _ _ _ _ hr0]; rfl
  have e0 : W1.cell? ⟨s + 1, 0, none⟩ = some (.slice none 0 0) := by rw [cell_of_row _ _ _ _ _ _ hr1]; rfl
  have HEF : Hid (∀ o, W1.frozen? ⟨s + 1, o, none⟩ = false) := Lib.hid fun o => by simp only [World.frozen?, hr1]; simp
  have HX : Hid (Claims (fun b => b < s) W1 (.slice ta tn tc) ts) := Lib.hid (by rw [← hs]; exact hx.lt'.below hb1)
  have HO1 : Hid (TrP W1 0 (s + 2) (.slice none 0 0) []) := Lib.hid ⟨by rw [cell_of_row _ _ _ _ _ _ hr2]; rfl, fun o => by simp only [World.frozen?, hr2]; simp, [], World.ownsRow_nil _ _ _ _, rfl, by simp⟩
  have HB1 := Lib.hid hb1
  have HW1 := Lib.hid hW1
  have HS := Lib.hid hs
  have HS1 := Lib.hid hs1
  have HSZ := Lib.hid hsz
  have hn4 : tn ≤ 4000 := by rw [HTN.out]; exact hl
  have HI5 := Lib.hid (show (Tryz.prog.info? 42).map (fun i => (i.zero, i.size, i.bytes)) = some (some (.agg #[.slice none 0 0, .int .i64 0, .int .i64 0, .slice none 0 0, .int .i64 0]), 5, 72) by kernel_rfl)
  have HB0 : Hid (Below (s + 2) W1 W1) := Lib.hid (Below.refl _ _)
  have hlt0 : s + 2 ≤ W1.heap.size := by omega
  clear hx hsz hl hb1 hs1 hr0 hr1 hr2 hW1 hs
  go_enter Tryz.func14, Tryz.ntmps14
  go_upto_region 2 with fail
  try rw [HW1.out, HS.out]
  go_wp2_with fail
  go_loopg [9] tn (fun gg u9 wx => ∃ (k pn : Nat) (oa : Option Addr) (oc : Nat) (xs : List Claim), k + gg = tn ∧ u9 = .int .i64 k ∧ Hid (pn = xs.length) ∧ pn ≤ k ∧ Hid (xs = ts.take k) ∧ Hid (Below (s + 2) W1 wx) ∧ Hid (TrP wx 0 (s + 2) (.slice oa pn oc) xs))
  case atStart => exact ⟨0, 0, none, 0, [], by omega, rfl, Lib.hid rfl, by omega, Lib.hid (by simp), HB0, HO1⟩
  case round =>
  clear HO1 HB0
  obtain ⟨k, pn, oa, oc, xs, hkg, rfl, HPN, hpk, HXS, HB, HO⟩ := hrel
  have hwz := HB.out.size
  by_cases hk : k < tn
  case neg =>
    obtain rfl : k = tn := by omega
    have hdk : decide ((k : Int) < k) = false := by simp
    have hdk' : decide (k < k) = false := decide_eq_false (by omega)
    have hxs : xs = ts := by rw [HXS.out, List.take_of_length_le (by rw [← HTN.out]; exact Nat.le_refl _)]
    subst hxs
    have q0 := HO.out.1
    have j0 := below_c HB.out (by omega) e0
    have jf0 : wr.frozen? ⟨s + 1, 0, none⟩ = false := below_z HB.out (by omega) (HEF.out 0)
    have HRES : Hid (CpyPost w xs (.returned (.agg #[.slice oa pn oc])) (wr.setCell ⟨s + 1, 0, none⟩ (.slice oa pn oc))) := Lib.hid (by
      refine ⟨_, rfl, ?_, ?_⟩
      · exact ((HO.out.claims (by rw [← HTN.out]; omega)).move fun b hb _ => Below.heap_setCell _ _ _ _ (by show b ≠ s + 1; omega)).mono fun b hb => by rw [HS.out]; omega
      · have := HB1.out.trans (HB.out.mono (by rw [HS.out]; omega))
        exact this.setCell (by rw [HS.out]; exact Nat.le_succ s) _)
    clear HB HO HPN HXS hpk
    go_wp2_with fail
    refine bodyPost_ret (v := .agg #[.slice oa pn oc]) (by simp [results, Tryz.results14, go_sem, set_eq j0]) rfl ?_
    exact HRES.out
  have hdk : decide ((k : Int) < tn) = true := by simp; omega
  have hdk' : decide (k < tn) = true := decide_eq_true hk
  have hk0 : (0 : Int) ≤ k := by omega
  have hkn : (k : Int) < tn := by omega
  have hxr : Claims (fun b => b < s) wr (.slice ta tn tc) ts := HX.out.move fun b hb _ => HB.out.block b (by omega)
  obtain ⟨c, hc⟩ : ∃ c, ts[k]? = some c := ⟨_, List.getElem?_eq_getElem (by rw [← HTN.out]; exact hk)⟩
  obtain ⟨xb, xo, xcv, xkv, rfl, _, hxb, m0, m1, m2, m3, m4, hcv⟩ := hxr.at hc
  have hxc : Clss (fun b => b < s) wr xcv c.cls := hcv.1.1
  have hxk : Ints (fun b => b < s) wr xkv c.kids := hcv.1.2.2.2.1
  obtain ⟨xa, xn, xc, rfl, _, _⟩ := hxc.form'
  obtain ⟨ya, yn, yc, rfl, _, _⟩ := hxk.form'
  have HXP : Hid (xs ++ [c] = ts.take (k + 1)) := Lib.hid (by rw [List.take_add_one, hc, HXS.out]; rfl)
  have HSC := Lib.hid (HSZ.out c (List.mem_of_getElem? hc))
  obtain ⟨L, hL⟩ : ∃ g, wr.heap.size = g := ⟨_, rfl⟩
  obtain ⟨W2, hW2⟩ : ∃ W, wr.alloc (.cells #[.slice xa xn xc, .int .i64 c.rule, .int .i64 c.lit, .slice ya yn yc, .int .i64 c.count] 42) = W := ⟨_, rfl⟩
  have hb2 : Below wr.heap.size wr W2 := by rw [← hW2]; exact (Below.refl _ _).alloc (Nat.le_refl _) _
  have hr : W2.heap[L]? = some (.cells #[.slice xa xn xc, .int .i64 c.rule, .int .i64 c.lit, .slice ya yn yc, .int .i64 c.count] 42) := by rw [← hW2]; exact new_at' _ _ hL.symm
  have l0 : W2.cell? ⟨L, 0, none⟩ = some (.slice xa xn xc) := by rw [cell_of_row _ _ _ _ _ _ hr]; rfl
  have l1 : W2.cell? ⟨L, 1, none⟩ = some (.int .i64 c.rule) := by rw [cell_of_row _ _ _ _ _ _ hr]; rfl
  have l2 : W2.cell? ⟨L, 2, none⟩ = some (.int .i64 c.lit) := by rw [cell_of_row _ _ _ _ _ _ hr]; rfl
  have l3 : W2.cell? ⟨L, 3, none⟩ = some (.slice ya yn yc) := by rw [cell_of_row _ _ _ _ _ _ hr]; rfl
  have l4 : W2.cell? ⟨L, 4, none⟩ = some (.int .i64 c.count) := by rw [cell_of_row _ _ _ _ _ _ hr]; rfl
  have hs2 : W2.heap.size = L + 1 := by rw [← hW2]; simp; omega
  have hO2 := HO.out.below (by omega) hb2
  have HO2 := Lib.hid hO2
  have k0 := hO2.1
  have kf := hO2.2.1 0
  have hTl := block_lt k0
  have hLl := block_lt l0
  have HCV := Lib.hid (hcv.below hb2)
  have HCR : Hid (∀ W, Below W2.heap.size W2 W → Calls Tryz.prog 15 #[.agg #[.slice xa xn xc, .int .i64 c.rule, .int .i64 c.lit, .slice ya yn yc, .int .i64 c.count]] W (ClmPost W c)) := Lib.hid fun W hW => tclaim_any _ _ _ c W (HCV.out.below hW) HSC.out
  have HDR : Hid (Below W2.heap.size W2 W2.drew) := Lib.hid (Below.refl _ _).drew
  have HB2 : Hid (Below (s + 2) W1 W2) := Lib.hid (HB.out.trans (hb2.mono (by omega)))
  have HI3 := Lib.hid hcv.2
  have HTL : Hid (∀ b, (Value.slice oa pn oc).ownBlock = some b → b < L) := Lib.hid fun b e => by obtain ⟨us', h1, _⟩ := HO.out.2.2; have := (h1.lt b e).2; omega
  have hTL : s + 2 < L := by have := block_lt HO.out.1; omega
  have HL := Lib.hid hL
  have HW2 := Lib.hid hW2
  clear hxr hcv hxc hxk hc HXS hb2 hr hO2 HO hL hW2
  go_upto_region 5 with fail
  try rw [HW2.out, HL.out]
  clear HW2 m0 m1 m2 m3 m4
  refine wp_region_held_drew (S := fun w' => w'.cell? ⟨L, 0, none⟩ = some (.slice xa xn xc) ∧ w'.cell? ⟨L, 1, none⟩ = some (.int .i64 c.rule) ∧ w'.cell? ⟨L, 2, none⟩ = some (.int .i64 c.lit) ∧ w'.cell? ⟨L, 3, none⟩ = some (.slice ya yn yc) ∧ w'.cell? ⟨L, 4, none⟩ = some (.int .i64 c.count)) (by kernel_rfl) (by exact ⟨l0, l1, l2, l3, l4⟩) (fun hHeld => ?_)
  refine wpAnyH_take (i := 0) (v := ?_) rfl (by kernel_rfl) (by kernel_rfl) (by kernel_rfl) (fun _ _ _ h => h) (Or.inl ⟨by rfl, ?_⟩) (by assumption) ?_
  rotate_left
  · intro w hSw
    try dsimp only at hSw
    go_simp
    try with_reducible rfl
  try simp only [Act.put, List.getElem_toArray, List.getElem_cons_succ, List.getElem_cons_zero, List.setIfInBounds_toArray, List.set_cons_zero, List.set_cons_succ]
  refine wpAnyH_take (i := 2) (v := ?_) rfl (by kernel_rfl) (by kernel_rfl) (by kernel_rfl) (fun _ _ _ h => h) (Or.inl ⟨by rfl, ?_⟩) (by assumption) ?_
  rotate_left
  · intro w hSw
    try dsimp only at hSw
    go_simp
    try with_reducible rfl
  try simp only [Act.put, List.getElem_toArray, List.getElem_cons_succ, List.getElem_cons_zero, List.setIfInBounds_toArray, List.set_cons_zero, List.set_cons_succ]
  refine wpAnyH_ready (rs := [1, 3]) (by kernel_rfl) (by simp) ?_
  refine AllReadyH.cons rfl (fun K hK => ?_) (AllReadyH.cons rfl (fun K hK => ?_) AllReadyH.nil)
  · go_simp
    refine hK.out _ _ (by exact ⟨l0, l1, l2, l3, l4⟩) (fun _ => ?_)
    clear hK K
    try simp only [Act.put, List.getElem_toArray, List.getElem_cons_succ, List.getElem_cons_zero, List.setIfInBounds_toArray, List.set_cons_zero, List.set_cons_succ]
    refine wpAnyH_ready (rs := [3]) (by kernel_rfl) (by simp) ?_
    refine AllReadyH.cons rfl (fun K hK => ?_) AllReadyH.nil
    go_simp
    go_at_call 15
    (with_reducible refine (HCR.out _ HDR.out).mono ?_)
    rintro e w8 ⟨dv, ev, rfl, hdc, hek, hb8⟩
    obtain ⟨da, dn, dc, rfl, _, _⟩ := hdc.form'
    obtain ⟨ea, ec, rfl⟩ := own_form hek
    have HB8 : Hid (Below W2.heap.size W2 w8) := Lib.hid (HDR.out.trans (hb8.mono HDR.out.size))
    have l0 := below_c HB8.out hLl l0
    have l1 := below_c HB8.out hLl l1
    have l2 := below_c HB8.out hLl l2
    have l3 := below_c HB8.out hLl l3
    have l4 := below_c HB8.out hLl l4
    have k0 := below_c HB8.out hTl k0
    have kf := below_z HB8.out hTl kf
    have HDC : Hid (Clss (fun b => W2.heap.size ≤ b ∧ (Value.slice ea c.kids.length ec).ownBlock ≠ some b) w8 (.slice da dn dc) c.cls) := Lib.hid hdc
    have HEK : Hid (w8.ownsRow W2.heap.size 3 1 (.slice ea c.kids.length ec) c.kids.length (c.kids.map (.int .i64))) := Lib.hid hek
    clear hb8 hdc hek
    go_wp2_with fail
    refine hK.out _ _ (by exact ⟨l0, l1, l2, l3, l4⟩) (fun _ => ?_)
    clear hK K
    try simp only [Act.put, List.getElem_toArray, List.getElem_cons_succ, List.getElem_cons_zero, List.setIfInBounds_toArray, List.set_cons_zero, List.set_cons_succ]
    refine wpAnyH_ready (rs := [4]) (by kernel_rfl) (by simp) ?_
    refine AllReadyH.cons rfl (fun K hK => ?_) AllReadyH.nil
    go_simp
    refine hK.out _ _ (by exact ⟨cell_alloc _ l0, cell_alloc _ l1, cell_alloc _ l2, cell_alloc _ l3, cell_alloc _ l4⟩) (fun _ => ?_)
    clear hK K
    try simp only [Act.put, List.getElem_toArray, List.getElem_cons_succ, List.getElem_cons_zero, List.setIfInBounds_toArray, List.set_cons_zero, List.set_cons_succ]
    refine wpAnyH_ready (rs := [5]) (by kernel_rfl) (by simp) ?_
    refine AllReadyH.cons rfl (fun K hK => ?_) AllReadyH.nil
    obtain ⟨W8, hW8⟩ : ∃ W, w8.alloc (.cells #[.slice da dn dc, .int .i64 c.rule, .int .i64 c.lit, .slice ea c.kids.length ec, .int .i64 c.count] 42) = W := ⟨_, rfl⟩
    have hb9 : Below w8.heap.size w8 W8 := by rw [← hW8]; exact (Below.refl _ _).alloc (Nat.le_refl _) _
    have HO8 := Lib.hid ((HO2.out.below (by omega) HB8.out).below (by omega) hb9)
    obtain ⟨us, ho1, ho2, ho3⟩ := HO8.out.2.2
    rw [← HPN.out] at ho1
    have hnr : W8.heap[w8.heap.size]? = some (.cells #[.slice da dn dc, .int .i64 c.rule, .int .i64 c.lit, .slice ea c.kids.length ec, .int .i64 c.count] 42) := by rw [← hW8]; exact new_at _ _
    have n0 : W8.cell? ⟨w8.heap.size, 0, none⟩ = some (.slice da dn dc) := by rw [cell_of_row _ _ _ _ _ _ hnr]; rfl
    have n1 : W8.cell? ⟨w8.heap.size, 1, none⟩ = some (.int .i64 c.rule) := by rw [cell_of_row _ _ _ _ _ _ hnr]; rfl
    have n2 : W8.cell? ⟨w8.heap.size, 2, none⟩ = some (.int .i64 c.lit) := by rw [cell_of_row _ _ _ _ _ _ hnr]; rfl
    have n3 : W8.cell? ⟨w8.heap.size, 3, none⟩ = some (.slice ea c.kids.length ec) := by rw [cell_of_row _ _ _ _ _ _ hnr]; rfl
    have n4 : W8.cell? ⟨w8.heap.size, 4, none⟩ = some (.int .i64 c.count) := by rw [cell_of_row _ _ _ _ _ _ hnr]; rfl
    have hz8 := HB8.out.size
    have HOW : Hid (∀ b, (Value.slice oa pn oc).ownBlock = some b → b < W2.heap.size) := Lib.hid fun b e => by obtain ⟨us', h1, _⟩ := HO2.out.2.2; exact (h1.lt b e).2
    have HCN : Hid (ClaimV (fun b => (b < 0 ∨ s + 2 + 1 ≤ b) ∧ (Value.slice oa pn oc).ownBlock ≠ some b) W8 (.slice da dn dc, .int .i64 c.rule, .int .i64 c.lit, .slice ea c.kids.length ec, .int .i64 c.count) c) := Lib.hid (by
      have h1 : ClaimV (fun b => W2.heap.size ≤ b) w8 (.slice da dn dc, .int .i64 c.rule, .int .i64 c.lit, .slice ea c.kids.length ec, .int .i64 c.count) c := ⟨⟨Rows1.mono (fun _ _ _ _ _ h hg => h.mono hg) HDC.out fun b hb => hb.1, rfl, rfl, ⟨(ownsRow_sl1 HEK.out (by have := HSC.out.2.2; omega)).mono fun b hb => hb.1, HCV.out.1.2.2.2.1.2⟩, rfl⟩, HI3.out⟩
      exact (h1.below hb9).mono fun b hb => ⟨.inr (by omega), fun e => by have := HOW.out b e; omega⟩)
    have HO3 := Lib.hid ho3
    have HO21 := Lib.hid ho2
    have hbb : s + 2 + 1 ≤ W8.heap.size := by have := hb9.size; omega
    have HB9 : Hid (Below (s + 2) W1 W8) := Lib.hid ((HB2.out.trans (HB8.out.mono (by omega))).trans (hb9.mono (by omega)))
    have HO1 := Lib.hid ho1
    have l0 : W8.cell? _ = _ := (below_c hb9 (block_lt l0) l0)
    have l1 : W8.cell? _ = _ := (below_c hb9 (block_lt l1) l1)
    have l2 : W8.cell? _ = _ := (below_c hb9 (block_lt l2) l2)
    have l3 : W8.cell? _ = _ := (below_c hb9 (block_lt l3) l3)
    have l4 : W8.cell? _ = _ := (below_c hb9 (block_lt l4) l4)
    have HLO : Hid (some L ≠ (Value.slice oa pn oc).ownBlock) := Lib.hid fun e => by obtain ⟨us', h1, _⟩ := HO2.out.2.2; have := (HTL.out _ e.symm); omega
    try rw [hW8]
    clear ho2 ho3 hb9 hW8 hnr
    refine step_push5 rfl _ _ 25 rfl 42 (.agg #[.slice none 0 0, .int .i64 0, .int .i64 0, .slice none 0 0, .int .i64 0]) 72 Tryz.underlying25 HI5.out rfl (s + 2 + 1) (.slice oa pn oc) pn (cells5 us) w8.heap.size (.slice da dn dc) (.int .i64 c.rule) (.int .i64 c.lit) (.slice ea c.kids.length ec) (.int .i64 c.count) rfl rfl n0 n1 n2 n3 n4 ho1 rfl rfl rfl rfl rfl (by omega) (by omega) hbb ?_
    intro g9 cap9 w9 hown9 hg9 hat9
    have hne9 : some (s + 2) ≠ (Value.slice oa pn oc).ownBlock := fun e => by have := (HO1.out.lt _ e.symm).1; omega
    have k0 := grown_c2 hg9 hne9 HO8.out.1
    have kf : w9.frozen? ⟨s + 2, 0, none⟩ = false := (World.frozen?_of_block (a := ⟨s + 2, 0, none⟩) (hg9.block (s + 2) (block_lt HO8.out.1) hne9)).trans (HO8.out.2.1 0)
    have l0 := grown_c2 hg9 HLO.out l0
    have l1 := grown_c2 hg9 HLO.out l1
    have l2 := grown_c2 hg9 HLO.out l2
    have l3 := grown_c2 hg9 HLO.out l3
    have l4 := grown_c2 hg9 HLO.out l4
    have HO9 : Hid (TrP (w9.setCell ⟨s + 2, 0, none⟩ (.slice (some ⟨g9, 0, none⟩) (pn + 1) cap9)) 0 (s + 2) (.slice (some ⟨g9, 0, none⟩) (pn + 1) cap9) (xs ++ [c])) := Lib.hid (HO8.out.push (by omega) HPN.out HO1.out HO21.out HO3.out HCN.out hown9 hg9 hat9)
    have HB10 : Hid (Below (s + 2) W1 (w9.setCell ⟨s + 2, 0, none⟩ (.slice (some ⟨g9, 0, none⟩) (pn + 1) cap9))) := Lib.hid ((HB9.out.grown hg9 (by omega) (fun b e => by have := (HO1.out.lt b e).1; omega)).setCell (Nat.le_refl _) _)
    clear hown9 hg9 hat9 ho1
    refine hK.out _ _ (by exact ⟨l0, l1, l2, l3, l4⟩) (fun _ => ?_)
    clear hK K
    try simp only [Act.put, List.getElem_toArray, List.getElem_cons_succ, List.getElem_cons_zero, List.setIfInBounds_toArray, List.set_cons_zero, List.set_cons_succ]
    refine wpAnyH_take (i := 6) (v := ?_) rfl (by kernel_rfl) (by kernel_rfl) (by kernel_rfl) (fun _ _ _ h => h) (Or.inl ⟨by rfl, ?_⟩) (by assumption) ?_
    rotate_left
    · intro w hSw
      try dsimp only at hSw
      go_simp
      try with_reducible rfl
    try simp only [Act.put, List.getElem_toArray, List.getElem_cons_succ, List.getElem_cons_zero, List.setIfInBounds_toArray, List.set_cons_zero, List.set_cons_succ]
    refine wpAnyH_ready (rs := [7]) (by kernel_rfl) (by simp) ?_
    refine AllReadyH.cons rfl (fun K hK => ?_) AllReadyH.nil
    go_simp
    refine hK.out _ _ (by exact ⟨set_ne (.inl (by omega)) l0, set_ne (.inl (by omega)) l1, set_ne (.inl (by omega)) l2, set_ne (.inl (by omega)) l3, set_ne (.inl (by omega)) l4⟩) (fun _ => ?_)
    clear hK K
    try simp only [Act.put, List.getElem_toArray, List.getElem_cons_succ, List.getElem_cons_zero, List.setIfInBounds_toArray, List.set_cons_zero, List.set_cons_succ]
    refine wpAnyH_done (by kernel_rfl) ?_ _
    go_wp2_with fail
    go_roundg (gk - 1)
    case measure => omega
    case rel => exact ⟨k + 1, _, _, _, _, by omega, by go_num, Lib.hid (by rw [HPN.out]; simp), by omega, HXP, HB10, HO9⟩
  · go_simp
    go_at_call 15
    (with_reducible refine (HCR.out _ HDR.out).mono ?_)
    rintro e w8 ⟨dv, ev, rfl, hdc, hek, hb8⟩
    obtain ⟨da, dn, dc, rfl, _, _⟩ := hdc.form'
    obtain ⟨ea, ec, rfl⟩ := own_form hek
    have HB8 : Hid (Below W2.heap.size W2 w8) := Lib.hid (HDR.out.trans (hb8.mono HDR.out.size))
    have l0 := below_c HB8.out hLl l0
    have l1 := below_c HB8.out hLl l1
    have l2 := below_c HB8.out hLl l2
    have l3 := below_c HB8.out hLl l3
    have l4 := below_c HB8.out hLl l4
    have k0 := below_c HB8.out hTl k0
    have kf := below_z HB8.out hTl kf
    have HDC : Hid (Clss (fun b => W2.heap.size ≤ b ∧ (Value.slice ea c.kids.length ec).ownBlock ≠ some b) w8 (.slice da dn dc) c.cls) := Lib.hid hdc
    have HEK : Hid (w8.ownsRow W2.heap.size 3 1 (.slice ea c.kids.length ec) c.kids.length (c.kids.map (.int .i64))) := Lib.hid hek
    clear hb8 hdc hek
    go_wp2_with fail
    refine hK.out _ _ (by exact ⟨l0, l1, l2, l3, l4⟩) (fun _ => ?_)
    clear hK K
    try simp only [Act.put, List.getElem_toArray, List.getElem_cons_succ, List.getElem_cons_zero, List.setIfInBounds_toArray, List.set_cons_zero, List.set_cons_succ]
    refine wpAnyH_ready (rs := [1, 4]) (by kernel_rfl) (by simp) ?_
    refine AllReadyH.cons rfl (fun K hK => ?_) (AllReadyH.cons rfl (fun K hK => ?_) AllReadyH.nil)
    · go_simp
      refine hK.out _ _ (by exact ⟨l0, l1, l2, l3, l4⟩) (fun _ => ?_)
      clear hK K
      try simp only [Act.put, List.getElem_toArray, List.getElem_cons_succ, List.getElem_cons_zero, List.setIfInBounds_toArray, List.set_cons_zero, List.set_cons_succ]
      refine wpAnyH_ready (rs := [4]) (by kernel_rfl) (by simp) ?_
      refine AllReadyH.cons rfl (fun K hK => ?_) AllReadyH.nil
      go_simp
      refine hK.out _ _ (by exact ⟨cell_alloc _ l0, cell_alloc _ l1, cell_alloc _ l2, cell_alloc _ l3, cell_alloc _ l4⟩) (fun _ => ?_)
      clear hK K
      try simp only [Act.put, List.getElem_toArray, List.getElem_cons_succ, List.getElem_cons_zero, List.setIfInBounds_toArray, List.set_cons_zero, List.set_cons_succ]
      refine wpAnyH_ready (rs := [5]) (by kernel_rfl) (by simp) ?_
      refine AllReadyH.cons rfl (fun K hK => ?_) AllReadyH.nil
      obtain ⟨W8, hW8⟩ : ∃ W, w8.alloc (.cells #[.slice da dn dc, .int .i64 c.rule, .int .i64 c.lit, .slice ea c.kids.length ec, .int .i64 c.count] 42) = W := ⟨_, rfl⟩
      have hb9 : Below w8.heap.size w8 W8 := by rw [← hW8]; exact (Below.refl _ _).alloc (Nat.le_refl _) _
      have HO8 := Lib.hid ((HO2.out.below (by omega) HB8.out).below (by omega) hb9)
      obtain ⟨us, ho1, ho2, ho3⟩ := HO8.out.2.2
      rw [← HPN.out] at ho1
      have hnr : W8.heap[w8.heap.size]? = some (.cells #[.slice da dn dc, .int .i64 c.rule, .int .i64 c.lit, .slice ea c.kids.length ec, .int .i64 c.count] 42) := by rw [← hW8]; exact new_at _ _
      have n0 : W8.cell? ⟨w8.heap.size, 0, none⟩ = some (.slice da dn dc) := by rw [cell_of_row _ _ _ _ _ _ hnr]; rfl
      have n1 : W8.cell? ⟨w8.heap.size, 1, none⟩ = some (.int .i64 c.rule) := by rw [cell_of_row _ _ _ _ _ _ hnr]; rfl
      have n2 : W8.cell? ⟨w8.heap.size, 2, none⟩ = some (.int .i64 c.lit) := by rw [cell_of_row _ _ _ _ _ _ hnr]; rfl
      have n3 : W8.cell? ⟨w8.heap.size, 3, none⟩ = some (.slice ea c.kids.length ec) := by rw [cell_of_row _ _ _ _ _ _ hnr]; rfl
      have n4 : W8.cell? ⟨w8.heap.size, 4, none⟩ = some (.int .i64 c.count) := by rw [cell_of_row _ _ _ _ _ _ hnr]; rfl
      have hz8 := HB8.out.size
      have HOW : Hid (∀ b, (Value.slice oa pn oc).ownBlock = some b → b < W2.heap.size) := Lib.hid fun b e => by obtain ⟨us', h1, _⟩ := HO2.out.2.2; exact (h1.lt b e).2
      have HCN : Hid (ClaimV (fun b => (b < 0 ∨ s + 2 + 1 ≤ b) ∧ (Value.slice oa pn oc).ownBlock ≠ some b) W8 (.slice da dn dc, .int .i64 c.rule, .int .i64 c.lit, .slice ea c.kids.length ec, .int .i64 c.count) c) := Lib.hid (by
        have h1 : ClaimV (fun b => W2.heap.size ≤ b) w8 (.slice da dn dc, .int .i64 c.rule, .int .i64 c.lit, .slice ea c.kids.length ec, .int .i64 c.count) c := ⟨⟨Rows1.mono (fun _ _ _ _ _ h hg => h.mono hg) HDC.out fun b hb => hb.1, rfl, rfl, ⟨(ownsRow_sl1 HEK.out (by have := HSC.out.2.2; omega)).mono fun b hb => hb.1, HCV.out.1.2.2.2.1.2⟩, rfl⟩, HI3.out⟩
        exact (h1.below hb9).mono fun b hb => ⟨.inr (by omega), fun e => by have := HOW.out b e; omega⟩)
      have HO3 := Lib.hid ho3
      have HO21 := Lib.hid ho2
      have hbb : s + 2 + 1 ≤ W8.heap.size := by have := hb9.size; omega
      have HB9 : Hid (Below (s + 2) W1 W8) := Lib.hid ((HB2.out.trans (HB8.out.mono (by omega))).trans (hb9.mono (by omega)))
      have HO1 := Lib.hid ho1
      have l0 : W8.cell? _ = _ := (below_c hb9 (block_lt l0) l0)
      have l1 : W8.cell? _ = _ := (below_c hb9 (block_lt l1) l1)
      have l2 : W8.cell? _ = _ := (below_c hb9 (block_lt l2) l2)
      have l3 : W8.cell? _ = _ := (below_c hb9 (block_lt l3) l3)
      have l4 : W8.cell? _ = _ := (below_c hb9 (block_lt l4) l4)
      have HLO : Hid (some L ≠ (Value.slice oa pn oc).ownBlock) := Lib.hid fun e => by obtain ⟨us', h1, _⟩ := HO2.out.2.2; have := (HTL.out _ e.symm); omega
      try rw [hW8]
      clear ho2 ho3 hb9 hW8 hnr
      refine step_push5 rfl _ _ 25 rfl 42 (.agg #[.slice none 0 0, .int .i64 0, .int .i64 0, .slice none 0 0, .int .i64 0]) 72 Tryz.underlying25 HI5.out rfl (s + 2 + 1) (.slice oa pn oc) pn (cells5 us) w8.heap.size (.slice da dn dc) (.int .i64 c.rule) (.int .i64 c.lit) (.slice ea c.kids.length ec) (.int .i64 c.count) rfl rfl n0 n1 n2 n3 n4 ho1 rfl rfl rfl rfl rfl (by omega) (by omega) hbb ?_
      intro g9 cap9 w9 hown9 hg9 hat9
      have hne9 : some (s + 2) ≠ (Value.slice oa pn oc).ownBlock := fun e => by have := (HO1.out.lt _ e.symm).1; omega
      have k0 := grown_c2 hg9 hne9 HO8.out.1
      have kf : w9.frozen? ⟨s + 2, 0, none⟩ = false := (World.frozen?_of_block (a := ⟨s + 2, 0, none⟩) (hg9.block (s + 2) (block_lt HO8.out.1) hne9)).trans (HO8.out.2.1 0)
      have l0 := grown_c2 hg9 HLO.out l0
      have l1 := grown_c2 hg9 HLO.out l1
      have l2 := grown_c2 hg9 HLO.out l2
      have l3 := grown_c2 hg9 HLO.out l3
      have l4 := grown_c2 hg9 HLO.out l4
      have HO9 : Hid (TrP (w9.setCell ⟨s + 2, 0, none⟩ (.slice (some ⟨g9, 0, none⟩) (pn + 1) cap9)) 0 (s + 2) (.slice (some ⟨g9, 0, none⟩) (pn + 1) cap9) (xs ++ [c])) := Lib.hid (HO8.out.push (by omega) HPN.out HO1.out HO21.out HO3.out HCN.out hown9 hg9 hat9)
      have HB10 : Hid (Below (s + 2) W1 (w9.setCell ⟨s + 2, 0, none⟩ (.slice (some ⟨g9, 0, none⟩) (pn + 1) cap9))) := Lib.hid ((HB9.out.grown hg9 (by omega) (fun b e => by have := (HO1.out.lt b e).1; omega)).setCell (Nat.le_refl _) _)
      clear hown9 hg9 hat9 ho1
      refine hK.out _ _ (by exact ⟨l0, l1, l2, l3, l4⟩) (fun _ => ?_)
      clear hK K
      try simp only [Act.put, List.getElem_toArray, List.getElem_cons_succ, List.getElem_cons_zero, List.setIfInBounds_toArray, List.set_cons_zero, List.set_cons_succ]
      refine wpAnyH_take (i := 6) (v := ?_) rfl (by kernel_rfl) (by kernel_rfl) (by kernel_rfl) (fun _ _ _ h => h) (Or.inl ⟨by rfl, ?_⟩) (by assumption) ?_
      rotate_left
      · intro w hSw
        try dsimp only at hSw
        go_simp
        try with_reducible rfl
      try simp only [Act.put, List.getElem_toArray, List.getElem_cons_succ, List.getElem_cons_zero, List.setIfInBounds_toArray, List.set_cons_zero, List.set_cons_succ]
      refine wpAnyH_ready (rs := [7]) (by kernel_rfl) (by simp) ?_
      refine AllReadyH.cons rfl (fun K hK => ?_) AllReadyH.nil
      go_simp
      refine hK.out _ _ (by exact ⟨set_ne (.inl (by omega)) l0, set_ne (.inl (by omega)) l1, set_ne (.inl (by omega)) l2, set_ne (.inl (by omega)) l3, set_ne (.inl (by omega)) l4⟩) (fun _ => ?_)
      clear hK K
      try simp only [Act.put, List.getElem_toArray, List.getElem_cons_succ, List.getElem_cons_zero, List.setIfInBounds_toArray, List.set_cons_zero, List.set_cons_succ]
      refine wpAnyH_done (by kernel_rfl) ?_ _
      go_wp2_with fail
      go_roundg (gk - 1)
      case measure => omega
      case rel => exact ⟨k + 1, _, _, _, _, by omega, by go_num, Lib.hid (by rw [HPN.out]; simp), by omega, HXP, HB10, HO9⟩
    · go_simp
      refine hK.out _ _ (by exact ⟨cell_alloc _ l0, cell_alloc _ l1, cell_alloc _ l2, cell_alloc _ l3, cell_alloc _ l4⟩) (fun _ => ?_)
      clear hK K
      try simp only [Act.put, List.getElem_toArray, List.getElem_cons_succ, List.getElem_cons_zero, List.setIfInBounds_toArray, List.set_cons_zero, List.set_cons_succ]
      refine wpAnyH_ready (rs := [1]) (by kernel_rfl) (by simp) ?_
      refine AllReadyH.cons rfl (fun K hK => ?_) AllReadyH.nil
      have ka0 := cell_alloc (.cells #[.slice da dn dc, .int .i64 c.rule, .int .i64 c.lit, .slice ea c.kids.length ec, .int .i64 c.count] 42) k0
      go_simp
      refine hK.out _ _ (by exact ⟨cell_alloc _ l0, cell_alloc _ l1, cell_alloc _ l2, cell_alloc _ l3, cell_alloc _ l4⟩) (fun _ => ?_)
      clear hK K
      try simp only [Act.put, List.getElem_toArray, List.getElem_cons_succ, List.getElem_cons_zero, List.setIfInBounds_toArray, List.set_cons_zero, List.set_cons_succ]
      refine wpAnyH_ready (rs := [5]) (by kernel_rfl) (by simp) ?_
      refine AllReadyH.cons rfl (fun K hK => ?_) AllReadyH.nil
      obtain ⟨W8, hW8⟩ : ∃ W, w8.alloc (.cells #[.slice da dn dc, .int .i64 c.rule, .int .i64 c.lit, .slice ea c.kids.length ec, .int .i64 c.count] 42) = W := ⟨_, rfl⟩
      have hb9 : Below w8.heap.size w8 W8 := by rw [← hW8]; exact (Below.refl _ _).alloc (Nat.le_refl _) _
      have HO8 := Lib.hid ((HO2.out.below (by omega) HB8.out).below (by omega) hb9)
      obtain ⟨us, ho1, ho2, ho3⟩ := HO8.out.2.2
      rw [← HPN.out] at ho1
      have hnr : W8.heap[w8.heap.size]? = some (.cells #[.slice da dn dc, .int .i64 c.rule, .int .i64 c.lit, .slice ea c.kids.length ec, .int .i64 c.count] 42) := by rw [← hW8]; exact new_at _ _
      have n0 : W8.cell? ⟨w8.heap.size, 0, none⟩ = some (.slice da dn dc) := by rw [cell_of_row _ _ _ _ _ _ hnr]; rfl
      have n1 : W8.cell? ⟨w8.heap.size, 1, none⟩ = some (.int .i64 c.rule) := by rw [cell_of_row _ _ _ _ _ _ hnr]; rfl
      have n2 : W8.cell? ⟨w8.heap.size, 2, none⟩ = some (.int .i64 c.lit) := by rw [cell_of_row _ _ _ _ _ _ hnr]; rfl
      have n3 : W8.cell? ⟨w8.heap.size, 3, none⟩ = some (.slice ea c.kids.length ec) := by rw [cell_of_row _ _ _ _ _ _ hnr]; rfl
      have n4 : W8.cell? ⟨w8.heap.size, 4, none⟩ = some (.int .i64 c.count) := by rw [cell_of_row _ _ _ _ _ _ hnr]; rfl
      have hz8 := HB8.out.size
      have HOW : Hid (∀ b, (Value.slice oa pn oc).ownBlock = some b → b < W2.heap.size) := Lib.hid fun b e => by obtain ⟨us', h1, _⟩ := HO2.out.2.2; exact (h1.lt b e).2
      have HCN : Hid (ClaimV (fun b => (b < 0 ∨ s + 2 + 1 ≤ b) ∧ (Value.slice oa pn oc).ownBlock ≠ some b) W8 (.slice da dn dc, .int .i64 c.rule, .int .i64 c.lit, .slice ea c.kids.length ec, .int .i64 c.count) c) := Lib.hid (by
        have h1 : ClaimV (fun b => W2.heap.size ≤ b) w8 (.slice da dn dc, .int .i64 c.rule, .int .i64 c.lit, .slice ea c.kids.length ec, .int .i64 c.count) c := ⟨⟨Rows1.mono (fun _ _ _ _ _ h hg => h.mono hg) HDC.out fun b hb => hb.1, rfl, rfl, ⟨(ownsRow_sl1 HEK.out (by have := HSC.out.2.2; omega)).mono fun b hb => hb.1, HCV.out.1.2.2.2.1.2⟩, rfl⟩, HI3.out⟩
        exact (h1.below hb9).mono fun b hb => ⟨.inr (by omega), fun e => by have := HOW.out b e; omega⟩)
      have HO3 := Lib.hid ho3
      have HO21 := Lib.hid ho2
      have hbb : s + 2 + 1 ≤ W8.heap.size := by have := hb9.size; omega
      have HB9 : Hid (Below (s + 2) W1 W8) := Lib.hid ((HB2.out.trans (HB8.out.mono (by omega))).trans (hb9.mono (by omega)))
      have HO1 := Lib.hid ho1
      have l0 : W8.cell? _ = _ := (below_c hb9 (block_lt l0) l0)
      have l1 : W8.cell? _ = _ := (below_c hb9 (block_lt l1) l1)
      have l2 : W8.cell? _ = _ := (below_c hb9 (block_lt l2) l2)
      have l3 : W8.cell? _ = _ := (below_c hb9 (block_lt l3) l3)
      have l4 : W8.cell? _ = _ := (below_c hb9 (block_lt l4) l4)
      have HLO : Hid (some L ≠ (Value.slice oa pn oc).ownBlock) := Lib.hid fun e => by obtain ⟨us', h1, _⟩ := HO2.out.2.2; have := (HTL.out _ e.symm); omega
      try rw [hW8]
      clear ho2 ho3 hb9 hW8 hnr
      refine step_push5 rfl _ _ 25 rfl 42 (.agg #[.slice none 0 0, .int .i64 0, .int .i64 0, .slice none 0 0, .int .i64 0]) 72 Tryz.underlying25 HI5.out rfl (s + 2 + 1) (.slice oa pn oc) pn (cells5 us) w8.heap.size (.slice da dn dc) (.int .i64 c.rule) (.int .i64 c.lit) (.slice ea c.kids.length ec) (.int .i64 c.count) rfl rfl n0 n1 n2 n3 n4 ho1 rfl rfl rfl rfl rfl (by omega) (by omega) hbb ?_
      intro g9 cap9 w9 hown9 hg9 hat9
      have hne9 : some (s + 2) ≠ (Value.slice oa pn oc).ownBlock := fun e => by have := (HO1.out.lt _ e.symm).1; omega
      have k0 := grown_c2 hg9 hne9 HO8.out.1
      have kf : w9.frozen? ⟨s + 2, 0, none⟩ = false := (World.frozen?_of_block (a := ⟨s + 2, 0, none⟩) (hg9.block (s + 2) (block_lt HO8.out.1) hne9)).trans (HO8.out.2.1 0)
      have l0 := grown_c2 hg9 HLO.out l0
      have l1 := grown_c2 hg9 HLO.out l1
      have l2 := grown_c2 hg9 HLO.out l2
      have l3 := grown_c2 hg9 HLO.out l3
      have l4 := grown_c2 hg9 HLO.out l4
      have HO9 : Hid (TrP (w9.setCell ⟨s + 2, 0, none⟩ (.slice (some ⟨g9, 0, none⟩) (pn + 1) cap9)) 0 (s + 2) (.slice (some ⟨g9, 0, none⟩) (pn + 1) cap9) (xs ++ [c])) := Lib.hid (HO8.out.push (by omega) HPN.out HO1.out HO21.out HO3.out HCN.out hown9 hg9 hat9)
      have HB10 : Hid (Below (s + 2) W1 (w9.setCell ⟨s + 2, 0, none⟩ (.slice (some ⟨g9, 0, none⟩) (pn + 1) cap9))) := Lib.hid ((HB9.out.grown hg9 (by omega) (fun b e => by have := (HO1.out.lt b e).1; omega)).setCell (Nat.le_refl _) _)
      clear hown9 hg9 hat9 ho1
      refine hK.out _ _ (by exact ⟨l0, l1, l2, l3, l4⟩) (fun _ => ?_)
      clear hK K
      try simp only [Act.put, List.getElem_toArray, List.getElem_cons_succ, List.getElem_cons_zero, List.setIfInBounds_toArray, List.set_cons_zero, List.set_cons_succ]
      refine wpAnyH_take (i := 6) (v := ?_) rfl (by kernel_rfl) (by kernel_rfl) (by kernel_rfl) (fun _ _ _ h => h) (Or.inl ⟨by rfl, ?_⟩) (by assumption) ?_
      rotate_left
      · intro w hSw
        try dsimp only at hSw
        go_simp
        try with_reducible rfl
      try simp only [Act.put, List.getElem_toArray, List.getElem_cons_succ, List.getElem_cons_zero, List.setIfInBounds_toArray, List.set_cons_zero, List.set_cons_succ]
      refine wpAnyH_ready (rs := [7]) (by kernel_rfl) (by simp) ?_
      refine AllReadyH.cons rfl (fun K hK => ?_) AllReadyH.nil
      go_simp
      refine hK.out _ _ (by exact ⟨set_ne (.inl (by omega)) l0, set_ne (.inl (by omega)) l1, set_ne (.inl (by omega)) l2, set_ne (.inl (by omega)) l3, set_ne (.inl (by omega)) l4⟩) (fun _ => ?_)
      clear hK K
      try simp only [Act.put, List.getElem_toArray, List.getElem_cons_succ, List.getElem_cons_zero, List.setIfInBounds_toArray, List.set_cons_zero, List.set_cons_succ]
      refine wpAnyH_done (by kernel_rfl) ?_ _
      go_wp2_with fail
      go_roundg (gk - 1)
      case measure => omega
      case rel => exact ⟨k + 1, _, _, _, _, by omega, by go_num, Lib.hid (by rw [HPN.out]; simp), by omega, HXP, HB10, HO9⟩
end Go.Proofs.YtpikkkiepafelaaGreat
