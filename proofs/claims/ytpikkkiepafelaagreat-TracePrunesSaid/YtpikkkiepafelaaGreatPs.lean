/- (Trace seat) Walks: claim and copied, of the package trace. No condition but the sizes. -/
import Derived.Test.YtpikkkiepafelaaGreatPr
import Derived.Test.YtpikkkiepafelaaGreatKe
import Derived.Deep.RegionLaw
namespace Go.Proofs.YtpikkkiepafelaaGreat
open Go.ChangeShapes Go.WideShapes Go.ChangeAt Go.RowKit
set_option linter.unusedVariables false
set_option linter.unusedSimpArgs false

/-- append of one element onto an owned slice, as one step of a region that draws -/
theorem step_push1 {P : Program} {ops : Array Oper} {o : Oper} {a : Act} {w : World} {K : Act → World → Prop} {Q : Exit → Act → World → Prop} {X : Prop}
    (hgd : o.guard = none) (s x : Operand) (t : TypeId)
    (ho : o.op = .call { callee := .builtin .append, args := #[s, x], argTypes := #[t, t] })
    (E : TypeId) (z : Value) (bytes : Nat) (ht : P.underlying t = some (.slice E)) (hinfo : (P.info? E).map (fun i => (i.zero, i.size, i.bytes)) = some (some z, 1, bytes)) (hz1 : z.cells.size = 1)
    (base : Nat) (v : Value) (n : Nat) (xs : List Value) (B : Nat) (u : Value)
    (hs : a.eval s = v) (hx : a.eval x = .slice (some ⟨B, 0, none⟩) 1 1) (hc : w.cell? ⟨B, 0, none⟩ = some u) (hown : w.ownsRow base E 1 v n xs) (hu : u.oneCell' = true)
    (hn : (n + 1) * bytes ≤ 140737488355328) (hby : 1 ≤ bytes) (hbase : base ≤ w.heap.size)
    (h : ∀ (g cap' : Nat) w', w'.ownsRow base E 1 (.slice (some ⟨g, 0, none⟩) (n + 1) cap') (n + 1) (xs ++ [u]) → w.grownBy w' v.ownBlock → (v.ownBlock = some g ∨ w.heap.size ≤ g) → K (a.put o.dst (.slice (some ⟨g, 0, none⟩) (n + 1) cap')) w') :
    if Region.wanted o (yielded ops a.tmps) = true then Oper.wp P o a w K Q else X := by
  have hw : Region.wanted o (yielded ops a.tmps) = true := by simp [Region.wanted, hgd]
  rw [if_pos hw]
  obtain ⟨i, hi, hz, h1, h2⟩ := info_parts hinfo
  have hle : n + 1 ≤ (n + 1) * bytes := Nat.le_mul_of_pos_right _ hby
  obtain ⟨v', w', hr, k2, k3, k4, k5⟩ := run_append_own_at (P := P) w base t o.type E i z 1 bytes ht hi hz h1 h2 hz1 (by decide) v n xs hown ⟨B, 0, none⟩ 1 1 [u] rfl
    (fun j y hj => by
      match j, hj with
      | 0, hj => simp at hj; subst hj; simpa [Addr.add] using hc)
    (fun y hy => by simp at hy; subst hy; exact hu) (by unfold maxLen; omega) hn hbase
  unfold Oper.wp execOp
  simp only [ho, resolve, invoke, builtin, Sem.run_bind, Sem.run_pure, Result.andThen_ok, List.map_toArray, List.map_cons, List.map_nil, hs, hx, hr]
  rcases k2.2 with ⟨_, h0⟩ | ⟨g, cap', cur, rfl, hb, hh, _⟩
  · omega
  refine h g cap' w' k2 k3 ?_
  rcases k5 with h | h
  · exact .inl h.symm
  · right; simp [Value.ownBlock] at h; omega

theorem own_base {w : World} {base base' : Nat} {e : TypeId} {size : Nat} {v : Value} {n : Nat} {xs : List Value} (h : w.ownsRow base e size v n xs) (hb : base' ≤ base) : w.ownsRow base' e size v n xs :=
  ⟨h.1, h.2.imp id fun ⟨g, cap, cur, h1, h2, h3⟩ => ⟨g, cap, cur, h1, Nat.le_trans hb h2, h3⟩⟩
def set5 (w : World) (b : Nat) (v0 v1 v2 v3 v4 : Value) : World := ((((w.setCell ⟨b, 0, none⟩ v0).setCell ⟨b, 1, none⟩ v1).setCell ⟨b, 2, none⟩ v2).setCell ⟨b, 3, none⟩ v3).setCell ⟨b, 4, none⟩ v4
theorem set5_at {w : World} {b : Nat} {x0 x1 x2 x3 x4 v0 v1 v2 v3 v4 : Value} (h0 : w.cell? ⟨b, 0, none⟩ = some x0) (h1 : w.cell? ⟨b, 1, none⟩ = some x1) (h2 : w.cell? ⟨b, 2, none⟩ = some x2) (h3 : w.cell? ⟨b, 3, none⟩ = some x3) (h4 : w.cell? ⟨b, 4, none⟩ = some x4) :
    (set5 w b v0 v1 v2 v3 v4).cell? ⟨b, 0, none⟩ = some v0 ∧ (set5 w b v0 v1 v2 v3 v4).cell? ⟨b, 1, none⟩ = some v1 ∧ (set5 w b v0 v1 v2 v3 v4).cell? ⟨b, 2, none⟩ = some v2 ∧ (set5 w b v0 v1 v2 v3 v4).cell? ⟨b, 3, none⟩ = some v3 ∧ (set5 w b v0 v1 v2 v3 v4).cell? ⟨b, 4, none⟩ = some v4 :=
  ⟨set_ne (by omega) (set_ne (by omega) (set_ne (by omega) (set_ne (by omega) (set_eq h0)))), set_ne (by omega) (set_ne (by omega) (set_ne (by omega) (set_eq (set_ne (by omega) h1)))), set_ne (by omega) (set_ne (by omega) (set_eq (set_ne (by omega) (set_ne (by omega) h2)))),
    set_ne (by omega) (set_eq (set_ne (by omega) (set_ne (by omega) (set_ne (by omega) h3)))), set_eq (set_ne (by omega) (set_ne (by omega) (set_ne (by omega) (set_ne (by omega) h4))))⟩
theorem set5_block {w : World} {b k : Nat} {v0 v1 v2 v3 v4 : Value} (h : k ≠ b) : (set5 w b v0 v1 v2 v3 v4).heap[k]? = w.heap[k]? := by
  unfold set5
  rw [Below.heap_setCell _ _ _ _ h, Below.heap_setCell _ _ _ _ h, Below.heap_setCell _ _ _ _ h, Below.heap_setCell _ _ _ _ h, Below.heap_setCell _ _ _ _ h]
theorem set5_below {B b : Nat} {w w' : World} {v0 v1 v2 v3 v4 : Value} (h : Below B w w') (hb : B ≤ b) : Below B w (set5 w' b v0 v1 v2 v3 v4) := ((((h.setCell hb _).setCell hb _).setCell hb _).setCell hb _).setCell hb _
/-- the copy of a claim that is being made: its block D, its kids' own row, its clauses' own row -/
structure ClmB (w : World) (D : Nat) (cv kv : Value) (c : Claim) (xs : List (List Int)) : Prop where
  c0 : w.cell? ⟨D, 0, none⟩ = some cv
  c1 : w.cell? ⟨D, 1, none⟩ = some (.int .i64 c.rule)
  c2 : w.cell? ⟨D, 2, none⟩ = some (.int .i64 c.lit)
  c3 : w.cell? ⟨D, 3, none⟩ = some kv
  c4 : w.cell? ⟨D, 4, none⟩ = some (.int .i64 c.count)
  fz : ∀ o, w.frozen? ⟨D, o, none⟩ = false
  kids : w.ownsRow (D + 1) 3 1 kv c.kids.length (c.kids.map (.int .i64))
  rows : ∃ us, w.ownsRow (D + 1) 40 1 cv xs.length us ∧ us.length = xs.length ∧ ∀ (j : Nat) u x, us[j]? = some u → xs[j]? = some x → Ints (fun b => (D + 1 ≤ b ∧ kv.ownBlock ≠ some b) ∧ cv.ownBlock ≠ some b) w u x
  apart : ∀ b, kv.ownBlock = some b → cv.ownBlock ≠ some b
theorem ClmB.below {w w' : World} {D : Nat} {cv kv : Value} {c : Claim} {xs : List (List Int)} (h : ClmB w D cv kv c xs) (hb : Below w.heap.size w w') : ClmB w' D cv kv c xs := by
  have hlt := block_lt h.c0
  obtain ⟨us, h1, h2, h3⟩ := h.rows
  exact ⟨below_c hb hlt h.c0, below_c hb hlt h.c1, below_c hb hlt h.c2, below_c hb hlt h.c3, below_c hb hlt h.c4, fun o => below_z hb hlt (h.fz o), own_below h.kids hb, ⟨us, own_below h1 hb, h2, fun j u x hu hx => (h3 j u x hu hx).below hb⟩, h.apart⟩
theorem ints_and {F : Nat → Prop} {w : World} {v : Value} {xs : List Int} (h : Ints F w v xs) : Ints (fun b => b < w.heap.size ∧ F b) w v xs := h.lt.mono fun b hb => ⟨hb.2, hb.1⟩
theorem ClmB.push {w w' : World} {D g cap n : Nat} {cv kv rv : Value} {c : Claim} {xs : List (List Int)} {x : List Int} {us : List Value} (h : ClmB w D cv kv c xs) (hn : n = xs.length)
    (h2 : us.length = xs.length) (h3 : ∀ (j : Nat) u x, us[j]? = some u → xs[j]? = some x → Ints (fun b => (D + 1 ≤ b ∧ kv.ownBlock ≠ some b) ∧ cv.ownBlock ≠ some b) w u x)
    (h1 : w.ownsRow (D + 1) 40 1 cv n us)
    (hr : Ints (fun b => (D + 1 ≤ b ∧ kv.ownBlock ≠ some b) ∧ cv.ownBlock ≠ some b) w rv x)
    (hown : w'.ownsRow (D + 1) 40 1 (.slice (some ⟨g, 0, none⟩) (n + 1) cap) (n + 1) (us ++ [rv])) (hg : w.grownBy w' cv.ownBlock) (hat : cv.ownBlock = some g ∨ w.heap.size ≤ g) :
    ClmB (w'.setCell ⟨D, 0, none⟩ (.slice (some ⟨g, 0, none⟩) (n + 1) cap)) D (.slice (some ⟨g, 0, none⟩) (n + 1) cap) kv c (xs ++ [x]) := by
  subst hn
  have hlt := block_lt h.c0
  have hne : some D ≠ cv.ownBlock := fun e => by have := (h1.lt D e.symm).1; omega
  have hgD : D + 1 ≤ g := (hown.lt g rfl).1
  have hb : ∀ b, b < w.heap.size → b ≠ D → cv.ownBlock ≠ some b → (w'.setCell ⟨D, 0, none⟩ (.slice (some ⟨g, 0, none⟩) (xs.length + 1) cap)).heap[b]? = w.heap[b]? := fun b hb hd hc =>
    (Below.heap_setCell _ _ _ _ (show b ≠ D from hd)).trans (hg.block b hb fun e => hc e.symm)
  have mv : ∀ u y, Ints (fun b => (D + 1 ≤ b ∧ kv.ownBlock ≠ some b) ∧ cv.ownBlock ≠ some b) w u y → Ints (fun b => (D + 1 ≤ b ∧ kv.ownBlock ≠ some b) ∧ (Value.slice (some ⟨g, 0, none⟩) (xs.length + 1) cap).ownBlock ≠ some b) (w'.setCell ⟨D, 0, none⟩ (.slice (some ⟨g, 0, none⟩) (xs.length + 1) cap)) u y := fun u y hu =>
    ((ints_and hu).move fun b hbb _ => hb b hbb.1 (by have := hbb.2.1.1; omega) hbb.2.2).mono fun b hbb => ⟨hbb.2.1, by
      simp only [Value.ownBlock]
      intro e
      injection e with e
      subst e
      rcases hat with h | h
      · exact hbb.2.2 h
      · have := hbb.1; omega⟩
  refine ⟨set_eq (grown_c2 hg hne h.c0), set_ne (by omega) (grown_c2 hg hne h.c1), set_ne (by omega) (grown_c2 hg hne h.c2), set_ne (by omega) (grown_c2 hg hne h.c3), set_ne (by omega) (grown_c2 hg hne h.c4), fun o => ?_, ?_, ⟨us ++ [rv], ?_, by simp [h2], fun j u y hu hy => ?_⟩, fun b hkb => ?_⟩
  · rw [World.frozen?_setCell]
    exact (World.frozen?_of_block (a := ⟨D, o, none⟩) (hg.block D hlt hne)).trans (h.fz o)
  · exact own_same h.kids fun b hkb => hb b (h.kids.lt b hkb).2 (by have := (h.kids.lt b hkb).1; omega) (h.apart b hkb)
  · rw [List.length_append]
    refine own_same hown fun b e => Below.heap_setCell _ _ _ _ ?_
    have : g = b := by simpa [Value.ownBlock] using e
    show b ≠ D
    omega
  · rcases Nat.lt_or_ge j us.length with hj | hj
    · rw [List.getElem?_append_left hj] at hu
      rw [List.getElem?_append_left (by omega)] at hy
      exact mv u y (h3 j u y hu hy)
    · rw [List.getElem?_append_right hj] at hu
      rw [List.getElem?_append_right (by omega)] at hy
      rw [h2] at hu
      rcases hk : j - xs.length with _ | k
      · rw [hk] at hu hy
        simp at hu hy
        subst hu hy
        exact mv _ _ hr
      · rw [hk] at hu
        simp at hu
  · simp only [Value.ownBlock]
    intro e
    injection e with e
    subst e
    rcases hat with h1 | h1
    · exact h.apart _ hkb h1
    · have := (h.kids.lt _ hkb).2
      omega
/-- what claim hands back -/
def ClmPost (W : World) (c : Claim) (e : Ending) (w' : World) : Prop :=
  ∃ cv kv, e = .returned (.agg #[cv, .int .i64 c.rule, .int .i64 c.lit, kv, .int .i64 c.count]) ∧ Clss (fun b => W.heap.size ≤ b ∧ kv.ownBlock ≠ some b) w' cv c.cls ∧ w'.ownsRow W.heap.size 3 1 kv c.kids.length (c.kids.map (.int .i64)) ∧ Below W.heap.size W w'

set_option maxRecDepth 100000 in
set_option maxHeartbeats 16000000 in
theorem tclaim_any (F : Nat → Prop) (r0 r3 : Value) (c : Claim) (w : World) (hc : ClaimV F w (r0, .int .i64 c.rule, .int .i64 c.lit, r3, .int .i64 c.count) c) (hsz : SzC c) :
    Calls Tryz.prog 15 #[.agg #[r0, .int .i64 c.rule, .int .i64 c.lit, r3, .int .i64 c.count]] w (ClmPost w c) := by
  obtain ⟨⟨hcl, _, _, hki, _⟩, hir, hil, hic⟩ := id hc
  have hcl : Clss F w r0 c.cls := hcl
  have hki : Ints F w r3 c.kids := hki
  obtain ⟨ca, cn, cc, rfl, HCN, _⟩ := hcl.form'
  obtain ⟨ka, kn, kc, rfl, HKN, _⟩ := hki.form'
  obtain ⟨s, hs⟩ : ∃ b, w.heap.size = b := ⟨_, rfl⟩
  obtain ⟨W1, hW1⟩ : ∃ W, (w.alloc (.cells #[.slice ca cn cc, .int .i64 c.rule, .int .i64 c.lit, .slice ka kn kc, .int .i64 c.count] 42)).alloc (.cells #[.slice none 0 0, .int .i64 0, .int .i64 0, .slice none 0 0, .int .i64 0] 42) = W := ⟨_, rfl⟩
  obtain ⟨W2, hW2⟩ : ∃ W, W1.alloc (.cells #[.slice ca cn cc, .int .i64 c.rule, .int .i64 c.lit, .slice ka kn kc, .int .i64 c.count] 42) = W := ⟨_, rfl⟩
  have hb1 : Below w.heap.size w W1 := by rw [← hW1]; exact ((Below.refl _ _).alloc (Nat.le_refl _) _).alloc (by simp) _
  have hs1 : W1.heap.size = s + 2 := by rw [← hW1]; simp; omega
  have hb2 : Below W1.heap.size W1 W2 := by rw [← hW2]; exact (Below.refl _ _).alloc (Nat.le_refl _) _
  have hr0 : W1.heap[s]? = some (.cells #[.slice ca cn cc, .int .i64 c.rule, .int .i64 c.lit, .slice ka kn kc, .int .i64 c.count] 42) := by rw [← hW1]; exact old_at _ _ _ (new_at' _ _ hs.symm)
  have hr1 : W1.heap[s + 1]? = some (.cells #[.slice none 0 0, .int .i64 0, .int .i64 0, .slice none 0 0, .int .i64 0] 42) := by rw [← hW1]; exact new_at' _ _ (by simp; omega)
  have hr2 : W2.heap[s + 2]? = some (.cells #[.slice ca cn cc, .int .i64 c.rule, .int .i64 c.lit, .slice ka kn kc, .int .i64 c.count] 42) := by rw [← hW2]; exact new_at' _ _ hs1.symm
  have hs2 : W2.heap.size = s + 3 := by rw [← hW2]; simp; omega
  have a0 : W1.cell? ⟨s, 0, none⟩ = some (.slice ca cn cc) := by rw [cell_of_row _ _ _ _ _ _ hr0]; rfl
  have a1 : W1.cell? ⟨s, 1, none⟩ = some (.int .i64 c.rule) := by rw [cell_of_row _ _ _ _ _ _ hr0]; rfl
  have a2 : W1.cell? ⟨s, 2, none⟩ = some (.int .i64 c.lit) := by rw [cell_of_row _ _ _ _ _ _ hr0]; rfl
  have a3 : W1.cell? ⟨s, 3, none⟩ = some (.slice ka kn kc) := by rw [cell_of_row _ _ _ _ _ _ hr0]; rfl
  have a4 : W1.cell? ⟨s, 4, none⟩ = some (.int .i64 c.count) := by rw [cell_of_row _ _ _ _ _ _ hr0]; rfl
  have b0 : W2.cell? ⟨s, 0, none⟩ = some (.slice ca cn cc) := below_c hb2 (by omega) (by rw [cell_of_row _ _ _ _ _ _ hr0]; rfl)
  have b3 : W2.cell? ⟨s, 3, none⟩ = some (.slice ka kn kc) := below_c hb2 (by omega) (by rw [cell_of_row _ _ _ _ _ _ hr0]; rfl)
  have e0 : W2.cell? ⟨s + 1, 0, none⟩ = some (.slice none 0 0) := below_c hb2 (by omega) (by rw [cell_of_row _ _ _ _ _ _ hr1]; rfl)
  have e1 : W2.cell? ⟨s + 1, 1, none⟩ = some (.int .i64 0) := below_c hb2 (by omega) (by rw [cell_of_row _ _ _ _ _ _ hr1]; rfl)
  have e2 : W2.cell? ⟨s + 1, 2, none⟩ = some (.int .i64 0) := below_c hb2 (by omega) (by rw [cell_of_row _ _ _ _ _ _ hr1]; rfl)
  have e3 : W2.cell? ⟨s + 1, 3, none⟩ = some (.slice none 0 0) := below_c hb2 (by omega) (by rw [cell_of_row _ _ _ _ _ _ hr1]; rfl)
  have e4 : W2.cell? ⟨s + 1, 4, none⟩ = some (.int .i64 0) := below_c hb2 (by omega) (by rw [cell_of_row _ _ _ _ _ _ hr1]; rfl)
  have ef : ∀ o, W2.frozen? ⟨s + 1, o, none⟩ = false := fun o => below_z hb2 (by omega) (by simp only [World.frozen?, hr1]; simp)
  have d0 : W2.cell? ⟨s + 2, 0, none⟩ = some (.slice ca cn cc) := by rw [cell_of_row _ _ _ _ _ _ hr2]; rfl
  have d1 : W2.cell? ⟨s + 2, 1, none⟩ = some (.int .i64 c.rule) := by rw [cell_of_row _ _ _ _ _ _ hr2]; rfl
  have d2 : W2.cell? ⟨s + 2, 2, none⟩ = some (.int .i64 c.lit) := by rw [cell_of_row _ _ _ _ _ _ hr2]; rfl
  have d3 : W2.cell? ⟨s + 2, 3, none⟩ = some (.slice ka kn kc) := by rw [cell_of_row _ _ _ _ _ _ hr2]; rfl
  have d4 : W2.cell? ⟨s + 2, 4, none⟩ = some (.int .i64 c.count) := by rw [cell_of_row _ _ _ _ _ _ hr2]; rfl
  have df : ∀ o, W2.frozen? ⟨s + 2, o, none⟩ = false := fun o => by simp only [World.frozen?, hr2]; simp
  have hbs : Below w.heap.size w W2 := hb1.trans (hb2.mono hb1.size)
  have HK := Lib.hid (clone_own _ _ c.kids W2 (hki.below hbs) (by have := hsz.2.2; omega))
  have HCLW : Hid (Clss (fun b => b < s) W2 (.slice ca cn cc) c.cls) := Lib.hid (by rw [← hs]; exact Clss.below (clss_lt hcl) hbs)
  have HB2 := Lib.hid hbs
  have HW1 := Lib.hid hW1
  have HW2 := Lib.hid hW2
  have HS := Lib.hid hs
  have HS1 := Lib.hid hs1
  have HS2 := Lib.hid hs2
  have HSZ := Lib.hid hsz
  have HEF := Lib.hid ef
  have HDF := Lib.hid df
  have HIN := Lib.hid (show (Tryz.prog.info? 40).map (fun i => (i.zero, i.size, i.bytes)) = some (some (.slice none 0 0), 1, 24) by kernel_rfl)
  clear hc hsz hcl hki hb1 hb2 hW1 hW2 hr0 hr1 hr2 hs ef df hbs hs1 hs2
  go_enter Tryz.func15, Tryz.ntmps15
  go_upto_region 1 with fail
  try rw [HW1.out, HS.out]
  go_upto_region 2 with fail
  try rw [HW2.out, HS1.out]
  clear a0 a1 a2 a3 a4
  go_wp2_with fail
  refine HK.out.mono ?_
  rintro e w3 ⟨kv, rfl, hkv, hb3⟩
  rw [HS2.out] at hkv
  have h3s : s + 3 ≤ w3.heap.size := by rw [← HS2.out]; exact hb3.size
  have HLT : Hid (s + 3 ≤ W2.heap.size) := Lib.hid (by rw [HS2.out]; exact Nat.le_refl _)
  have y0 := below_c hb3 (block_lt d0) d0
  have y1 := below_c hb3 (block_lt d0) d1
  have y2 := below_c hb3 (block_lt d0) d2
  have y3 := below_c hb3 (block_lt d0) d3
  have y4 := below_c hb3 (block_lt d0) d4
  have yf : ∀ o, w3.frozen? ⟨s + 2, o, none⟩ = false := fun o => below_z hb3 (block_lt d0) (HDF.out o)
  have g0 := below_c hb3 (block_lt e0) e0
  have g1 := below_c hb3 (block_lt e0) e1
  have g2 := below_c hb3 (block_lt e0) e2
  have g3 := below_c hb3 (block_lt e0) e3
  have g4 := below_c hb3 (block_lt e0) e4
  have x0 := below_c hb3 (block_lt b0) b0
  have gf : ∀ o, w3.frozen? ⟨s + 1, o, none⟩ = false := fun o => below_z hb3 (block_lt e0) (HEF.out o)
  obtain ⟨qa, qc, hqv⟩ := own_form hkv
  subst hqv
  obtain ⟨W4, hW4⟩ : ∃ W, (w3.setCell ⟨s + 2, 3, none⟩ (.slice qa c.kids.length qc)).setCell ⟨s + 2, 0, none⟩ (.slice none 0 0) = W := ⟨_, rfl⟩
  have hm4 : ∀ b, b ≠ s + 2 → W4.heap[b]? = w3.heap[b]? := fun b hb => by rw [← hW4]; exact (Below.heap_setCell _ _ _ _ hb).trans (Below.heap_setCell _ _ _ _ hb)
  have HC4 : Hid (ClmB W4 (s + 2) (.slice none 0 0) (.slice qa c.kids.length qc) c []) := Lib.hid (by
    rw [← hW4]
    exact ⟨set_eq (set_ne (by omega) y0), set_ne (by omega) (set_ne (by omega) y1), set_ne (by omega) (set_ne (by omega) y2), set_ne (by omega) (set_eq y3), set_ne (by omega) (set_ne (by omega) y4), fun o => by rw [World.frozen?_setCell, World.frozen?_setCell]; exact yf o,
      own_same hkv fun b e => (Below.heap_setCell _ _ _ _ (by have := (hkv.lt b e).1; show b ≠ s + 2; omega)).trans (Below.heap_setCell _ _ _ _ (by have := (hkv.lt b e).1; show b ≠ s + 2; omega)),
      ⟨[], World.ownsRow_nil _ _ _ _, rfl, by simp⟩, fun b e => by simp [Value.ownBlock]⟩)
  have HB4 : Hid (Below (s + 2) W2 W4) := Lib.hid (by
    have hb3' : Below (s + 2) W2 w3 := hb3.mono (by have := HLT.out; omega)
    rw [← hW4]
    exact (hb3'.setCell (Nat.le_refl _) _).setCell (Nat.le_refl _) _)
  have hs4 : s + 3 ≤ W4.heap.size := by rw [← hW4]; simpa using h3s
  have i0 : W4.cell? ⟨s + 1, 0, none⟩ = some (.slice none 0 0) := (World.cell?_of_block (hm4 (s + 1) (by omega))).trans g0
  have i1 : W4.cell? ⟨s + 1, 1, none⟩ = some (.int .i64 0) := (World.cell?_of_block (hm4 (s + 1) (by omega))).trans g1
  have i2 : W4.cell? ⟨s + 1, 2, none⟩ = some (.int .i64 0) := (World.cell?_of_block (hm4 (s + 1) (by omega))).trans g2
  have i3 : W4.cell? ⟨s + 1, 3, none⟩ = some (.slice none 0 0) := (World.cell?_of_block (hm4 (s + 1) (by omega))).trans g3
  have i4 : W4.cell? ⟨s + 1, 4, none⟩ = some (.int .i64 0) := (World.cell?_of_block (hm4 (s + 1) (by omega))).trans g4
  have HIF : Hid (∀ o, W4.frozen? ⟨s + 1, o, none⟩ = false) := Lib.hid fun o => (World.frozen?_of_block (a := ⟨s + 1, o, none⟩) (hm4 (s + 1) (by omega))).trans (gf o)
  have z0 : W4.cell? ⟨s, 0, none⟩ = some (.slice ca cn cc) := (World.cell?_of_block (hm4 s (by omega))).trans x0
  have HW4 := Lib.hid hW4
  have HYF := Lib.hid yf
  have yf3 := yf 3
  have yf0 := yf 0
  clear hkv hb3 hW4 hm4 HK g0 g1 g2 g3 g4 gf e0 e1 e2 e3 e4 d0 d1 d2 d3 d4 b0 b3 HEF HDF yf
  go_upto_region 4 with fail
  try rw [HW4.out]
  clear y0 y1 y2 y3 y4 x0 yf3 yf0 HYF HW4
  have HI0 : Hid (Below (s + 2) W4 W4) := Lib.hid (Below.refl _ _)
  go_wp2_with fail
  go_loopg [15] cn (fun gg u15 wx => ∃ (k pn : Nat) (oa : Option Addr) (oc : Nat) (xs : List (List Int)), k + gg = cn ∧ u15 = .int .i64 k ∧ Hid (pn = xs.length) ∧ pn ≤ k ∧ Hid (xs = c.cls.take k) ∧ Hid (Below (s + 2) W4 wx) ∧ Hid (ClmB wx (s + 2) (.slice oa pn oc) (.slice qa c.kids.length qc) c xs))
  case atStart => exact ⟨0, 0, none, 0, [], by omega, rfl, Lib.hid rfl, by omega, Lib.hid (by simp), HI0, HC4⟩
  case round =>
  clear HC4 HI0
  obtain ⟨k, pn, oa, oc, xs, hkg, rfl, HPN, hpk, HXS, HB, HC⟩ := hrel
  have hc4k : cn ≤ 4000 := by rw [HCN.out]; exact HSZ.out.1
  by_cases hk : k < cn
  case neg =>
    obtain rfl : k = cn := by omega
    have hdk : decide ((k : Int) < k) = false := by simp
    have hdk' : decide (k < k) = false := decide_eq_false (by omega)
    have hxs : xs = c.cls := by rw [HXS.out, List.take_of_length_le (by rw [← HCN.out]; exact Nat.le_refl _)]
    subst hxs
    have q0 := HC.out.c0
    have q1 := HC.out.c1
    have q2 := HC.out.c2
    have q3 := HC.out.c3
    have q4 := HC.out.c4
    have j0 := below_c HB.out (by omega) i0
    have j1 := below_c HB.out (by omega) i1
    have j2 := below_c HB.out (by omega) i2
    have j3 := below_c HB.out (by omega) i3
    have j4 := below_c HB.out (by omega) i4
    have jf : ∀ o, wr.frozen? ⟨s + 1, o, none⟩ = false := fun o => below_z HB.out (by omega) (HIF.out o)
    have jf0 := jf 0
    have jf1 := jf 1
    have jf2 := jf 2
    have jf3 := jf 3
    have jf4 := jf 4
    have HRES : Hid (ClmPost w c (.returned (.agg #[.slice oa pn oc, .int .i64 c.rule, .int .i64 c.lit, .slice qa c.kids.length qc, .int .i64 c.count])) (set5 wr (s + 1) (.slice oa pn oc) (.int .i64 c.rule) (.int .i64 c.lit) (.slice qa c.kids.length qc) (.int .i64 c.count))) := Lib.hid (by
      obtain ⟨us, h1, h2, h3⟩ := HC.out.rows
      have hm : ∀ b, b ≠ s + 1 → (set5 wr (s + 1) (.slice oa pn oc) (.int .i64 c.rule) (.int .i64 c.lit) (.slice qa c.kids.length qc) (.int .i64 c.count)).heap[b]? = wr.heap[b]? := fun b hb =>
        set5_block hb
      have hbw : Below s w wr := by
        have := HB2.out
        rw [HS.out] at this
        exact (this.trans (HB4.out.mono (by omega))).trans (HB.out.mono (by omega))
      refine ⟨_, _, rfl, ?_, ?_, ?_⟩
      · have hcl : Clss (fun b => s + 3 ≤ b ∧ (Value.slice qa c.kids.length qc).ownBlock ≠ some b) wr (.slice oa pn oc) c.cls := ⟨us, by
          have := ownsRow_sl1 h1 (by rw [← HCN.out]; omega)
          exact this.mono fun b hb => ⟨hb.1, fun e => HC.out.apart b e hb.2⟩, h2, fun j u x hu hx => (h3 j u x hu hx).mono fun b hb => hb.1⟩
        exact (Rows1.move (fun _ _ _ _ _ h hm => h.move hm) hcl fun b hb _ => hm b (by have := hb.1; omega)).mono (fun _ _ _ _ _ h hg => h.mono hg) fun b hb => ⟨by rw [HS.out]; have := hb.1; omega, hb.2⟩
      · rw [HS.out]
        have h5 := own_same HC.out.kids (w' := set5 wr (s + 1) (.slice oa pn oc) (.int .i64 c.rule) (.int .i64 c.lit) (.slice qa c.kids.length qc) (.int .i64 c.count)) fun b e => hm b (by have := (HC.out.kids.lt b e).1; omega)
        exact own_base h5 (by omega)
      · rw [HS.out]
        exact set5_below hbw (by omega))
    clear HB HC HPN HXS hpk jf i0 i1 i2 i3 i4 z0
    go_wp2_with fail
    have h5 := set5_at (v0 := .slice oa pn oc) (v1 := .int .i64 c.rule) (v2 := .int .i64 c.lit) (v3 := .slice qa c.kids.length qc) (v4 := .int .i64 c.count) j0 j1 j2 j3 j4
    unfold set5 at h5 HRES
    obtain ⟨v0, v1, v2, v3, v4⟩ := h5
    refine bodyPost_ret (v := .agg #[.slice oa pn oc, .int .i64 c.rule, .int .i64 c.lit, .slice qa c.kids.length qc, .int .i64 c.count]) (by simp [results, Tryz.results15, go_sem, v0, v1, v2, v3, v4]) rfl ?_
    exact HRES.out
  have hdk : decide ((k : Int) < cn) = true := by simp; omega
  have hdk' : decide (k < cn) = true := decide_eq_true hk
  have hk0 : (0 : Int) ≤ k := by omega
  have hkn : (k : Int) < cn := by omega
  have hclr : Clss (fun b => b < s) wr (.slice ca cn cc) c.cls := Rows1.move (fun _ _ _ _ _ h hm => h.move hm) (Rows1.move (fun _ _ _ _ _ h hm => h.move hm) HCLW.out fun b hb _ => HB4.out.block b (by omega)) fun b hb _ => HB.out.block b (by omega)
  obtain ⟨x, hx⟩ : ∃ x, c.cls[k]? = some x := ⟨_, List.getElem?_eq_getElem (by rw [← HCN.out]; exact hk)⟩
  obtain ⟨xb, xo, xv, rfl, _, hxb, hxc, hxi⟩ := hclr.at hx
  obtain ⟨xa, xn, xcp, rfl, HXN, _⟩ := hxi.form'
  have hxl := HSZ.out.2.1 x (List.mem_of_getElem? hx)
  have HXI := Lib.hid hxi
  have HXP : Hid (xs ++ [x] = c.cls.take (k + 1)) := Lib.hid (by rw [List.take_add_one, hx, HXS.out]; rfl)
  have HCR : Hid (∀ W, Below wr.heap.size wr W → Calls Tryz.prog 26 #[.slice xa xn xcp] W (OwnPost W x)) := Lib.hid fun W hW => clone_own _ _ x W (HXI.out.below hW) (by omega)
  have HDR : Hid (Below wr.heap.size wr wr.drew) := Lib.hid (Below.refl _ _).drew
  have k0 := HC.out.c0
  have hDl := block_lt k0
  have kf := HC.out.fz 0
  clear hclr hx hxi HXS
  go_upto_region 7 with fail
  refine wp_region_held_drew (S := fun _ => True) (by kernel_rfl) (by trivial) (fun hHeld => ?_)
  refine wpAnyH_take (i := 0) (v := ?_) rfl (by kernel_rfl) (by kernel_rfl) (by kernel_rfl) (fun _ _ _ h => h) (Or.inl ⟨by rfl, ?_⟩) (by assumption) ?_
  rotate_left
  · intro w hSw
    try dsimp only at hSw
    go_simp
    try with_reducible rfl
  try simp only [Act.put, List.getElem_toArray, List.getElem_cons_succ, List.getElem_cons_zero, List.setIfInBounds_toArray, List.set_cons_zero, List.set_cons_succ]
  refine wpAnyH_take (i := 2) (v := ?_) rfl (by kernel_rfl) (by kernel_rfl) (by kernel_rfl) (fun _ _ _ h => h) (Or.inl ⟨by rfl, ?_⟩) (by assumption) ?_
  rotate_left
  · intro w hSw
    try dsimp only at hSw
    go_simp
    try with_reducible rfl
  try simp only [Act.put, List.getElem_toArray, List.getElem_cons_succ, List.getElem_cons_zero, List.setIfInBounds_toArray, List.set_cons_zero, List.set_cons_succ]
  refine wpAnyH_ready (rs := [1, 3]) (by kernel_rfl) (by simp) ?_
  refine AllReadyH.cons rfl (fun K hK => ?_) (AllReadyH.cons rfl (fun K hK => ?_) AllReadyH.nil)
  · go_simp
    refine hK.out _ _ trivial (fun _ => ?_)
    clear hK K
    try simp only [Act.put, List.getElem_toArray, List.getElem_cons_succ, List.getElem_cons_zero, List.setIfInBounds_toArray, List.set_cons_zero, List.set_cons_succ]
    refine wpAnyH_ready (rs := [3]) (by kernel_rfl) (by simp) ?_
    refine AllReadyH.cons rfl (fun K hK => ?_) AllReadyH.nil
    go_simp
    go_at_call 26
    (with_reducible refine (HCR.out _ HDR.out).mono ?_)
    rintro e w8 ⟨nv, rfl, hnv, hb8⟩
    obtain ⟨na, nc, rfl⟩ := own_form hnv
    have HB8 : Hid (Below wr.heap.size wr w8) := Lib.hid (HDR.out.trans (hb8.mono HDR.out.size))
    have k0 := below_c HB8.out hDl k0
    have kf := below_z HB8.out hDl kf
    have HNV : Hid (w8.ownsRow wr.heap.size 3 1 (.slice na x.length nc) x.length (x.map (.int .i64))) := Lib.hid hnv
    clear hb8 hnv
    go_wp2_with fail
    refine hK.out _ _ trivial (fun _ => ?_)
    clear hK K
    try simp only [Act.put, List.getElem_toArray, List.getElem_cons_succ, List.getElem_cons_zero, List.setIfInBounds_toArray, List.set_cons_zero, List.set_cons_succ]
    refine wpAnyH_ready (rs := [4]) (by kernel_rfl) (by simp) ?_
    refine AllReadyH.cons rfl (fun K hK => ?_) AllReadyH.nil
    go_simp
    refine hK.out _ _ trivial (fun _ => ?_)
    clear hK K
    try simp only [Act.put, List.getElem_toArray, List.getElem_cons_succ, List.getElem_cons_zero, List.setIfInBounds_toArray, List.set_cons_zero, List.set_cons_succ]
    refine wpAnyH_ready (rs := [5]) (by kernel_rfl) (by simp) ?_
    refine AllReadyH.cons rfl (fun K hK => ?_) AllReadyH.nil
    obtain ⟨us, ho1, ho2, ho3⟩ := (HC.out.below HB8.out).rows
    rw [← HPN.out] at ho1
    obtain ⟨W8, hW8⟩ : ∃ W, w8.alloc (.cells #[.slice na x.length nc] 40) = W := ⟨_, rfl⟩
    have hb9 : Below w8.heap.size w8 W8 := by rw [← hW8]; exact (Below.refl _ _).alloc (Nat.le_refl _) _
    have HC8 := Lib.hid ((HC.out.below HB8.out).below hb9)
    have hsl : W8.cell? ⟨w8.heap.size, 0, none⟩ = some (.slice na x.length nc) := by rw [← hW8, cell_of_row _ _ _ _ _ _ (new_at _ _)]; rfl
    have hx8 : Ints (fun b => (s + 2 + 1 ≤ b ∧ (Value.slice qa c.kids.length qc).ownBlock ≠ some b) ∧ (Value.slice oa pn oc).ownBlock ≠ some b) W8 (.slice na x.length nc) x := by
      have h1 : Ints (fun b => (s + 2 + 1 ≤ b ∧ (Value.slice qa c.kids.length qc).ownBlock ≠ some b) ∧ (Value.slice oa pn oc).ownBlock ≠ some b) w8 (.slice na x.length nc) x := ⟨(ownsRow_sl1 HNV.out (by omega)).mono fun b hb => ⟨⟨by have := hb.1; omega, fun e => by have := (HC.out.kids.lt b e).2; have := hb.1; omega⟩, fun e => by obtain ⟨_, q1, _⟩ := HC.out.rows; have := (q1.lt b e).2; have := hb.1; omega⟩, HXI.out.2⟩
      exact h1.below hb9
    have ho1 := own_below ho1 hb9
    have HO3 : Hid (∀ (j : Nat) u y, us[j]? = some u → xs[j]? = some y → Ints (fun b => (s + 2 + 1 ≤ b ∧ (Value.slice qa c.kids.length qc).ownBlock ≠ some b) ∧ (Value.slice oa pn oc).ownBlock ≠ some b) W8 u y) := Lib.hid fun j u y hu hy => (ho3 j u y hu hy).below hb9
    have HO2 := Lib.hid ho2
    have HX8 := Lib.hid hx8
    have hbb : s + 2 + 1 ≤ W8.heap.size := by have := HB8.out.size; have := hb9.size; omega
    have HB9 : Hid (Below wr.heap.size wr W8) := Lib.hid (HB8.out.trans (hb9.mono HB8.out.size))
    have HO1 := Lib.hid ho1
    try rw [hW8]
    clear ho2 ho3 hx8 hb9 hW8
    refine step_push1 rfl _ _ 22 rfl 40 (.slice none 0 0) 24 Tryz.underlying22 HIN.out rfl (s + 2 + 1) (.slice oa pn oc) pn us w8.heap.size (.slice na x.length nc) rfl rfl hsl ho1 rfl (by omega) (by omega) hbb ?_
    intro g9 cap9 w9 hown9 hg9 hat9
    have hne9 : some (s + 2) ≠ (Value.slice oa pn oc).ownBlock := fun e => by have := (HO1.out.lt _ e.symm).1; omega
    have k0 := grown_c2 hg9 hne9 HC8.out.c0
    have kf : w9.frozen? ⟨s + 2, 0, none⟩ = false := (World.frozen?_of_block (a := ⟨s + 2, 0, none⟩) (hg9.block (s + 2) (block_lt HC8.out.c0) hne9)).trans (HC8.out.fz 0)
    have HC9 : Hid (ClmB (w9.setCell ⟨s + 2, 0, none⟩ (.slice (some ⟨g9, 0, none⟩) (pn + 1) cap9)) (s + 2) (.slice (some ⟨g9, 0, none⟩) (pn + 1) cap9) (.slice qa c.kids.length qc) c (xs ++ [x])) := Lib.hid (HC8.out.push HPN.out HO2.out HO3.out HO1.out HX8.out hown9 hg9 hat9)
    have HB10 : Hid (Below (s + 2) W4 (w9.setCell ⟨s + 2, 0, none⟩ (.slice (some ⟨g9, 0, none⟩) (pn + 1) cap9))) := Lib.hid (((HB.out.trans (HB9.out.mono (by have := HB.out.size; omega))).grown hg9 (by have := HB9.out.size; omega) (fun b e => by have := (HO1.out.lt b e).1; omega)).setCell (Nat.le_refl _) _)
    clear hown9 hg9 hat9 ho1
    refine hK.out _ _ trivial (fun _ => ?_)
    clear hK K
    try simp only [Act.put, List.getElem_toArray, List.getElem_cons_succ, List.getElem_cons_zero, List.setIfInBounds_toArray, List.set_cons_zero, List.set_cons_succ]
    refine wpAnyH_take (i := 6) (v := ?_) rfl (by kernel_rfl) (by kernel_rfl) (by kernel_rfl) (fun _ _ _ h => h) (Or.inl ⟨by rfl, ?_⟩) (by assumption) ?_
    rotate_left
    · intro w hSw
      try dsimp only at hSw
      go_simp
      try with_reducible rfl
    try simp only [Act.put, List.getElem_toArray, List.getElem_cons_succ, List.getElem_cons_zero, List.setIfInBounds_toArray, List.set_cons_zero, List.set_cons_succ]
    refine wpAnyH_ready (rs := [7]) (by kernel_rfl) (by simp) ?_
    refine AllReadyH.cons rfl (fun K hK => ?_) AllReadyH.nil
    go_simp
    refine hK.out _ _ trivial (fun _ => ?_)
    clear hK K
    try simp only [Act.put, List.getElem_toArray, List.getElem_cons_succ, List.getElem_cons_zero, List.setIfInBounds_toArray, List.set_cons_zero, List.set_cons_succ]
    refine wpAnyH_done (by kernel_rfl) ?_ _
    go_wp2_with fail
    go_roundg (gk - 1)
    case measure => omega
    case rel => exact ⟨k + 1, _, _, _, _, by omega, by go_num, Lib.hid (by rw [HPN.out]; simp), by omega, HXP, HB10, HC9⟩
  · go_simp
    go_at_call 26
    (with_reducible refine (HCR.out _ HDR.out).mono ?_)
    rintro e w8 ⟨nv, rfl, hnv, hb8⟩
    obtain ⟨na, nc, rfl⟩ := own_form hnv
    have HB8 : Hid (Below wr.heap.size wr w8) := Lib.hid (HDR.out.trans (hb8.mono HDR.out.size))
    have k0 := below_c HB8.out hDl k0
    have kf := below_z HB8.out hDl kf
    have HNV : Hid (w8.ownsRow wr.heap.size 3 1 (.slice na x.length nc) x.length (x.map (.int .i64))) := Lib.hid hnv
    clear hb8 hnv
    go_wp2_with fail
    refine hK.out _ _ trivial (fun _ => ?_)
    clear hK K
    try simp only [Act.put, List.getElem_toArray, List.getElem_cons_succ, List.getElem_cons_zero, List.setIfInBounds_toArray, List.set_cons_zero, List.set_cons_succ]
    refine wpAnyH_ready (rs := [1, 4]) (by kernel_rfl) (by simp) ?_
    refine AllReadyH.cons rfl (fun K hK => ?_) (AllReadyH.cons rfl (fun K hK => ?_) AllReadyH.nil)
    · go_simp
      refine hK.out _ _ trivial (fun _ => ?_)
      clear hK K
      try simp only [Act.put, List.getElem_toArray, List.getElem_cons_succ, List.getElem_cons_zero, List.setIfInBounds_toArray, List.set_cons_zero, List.set_cons_succ]
      refine wpAnyH_ready (rs := [4]) (by kernel_rfl) (by simp) ?_
      refine AllReadyH.cons rfl (fun K hK => ?_) AllReadyH.nil
      go_simp
      refine hK.out _ _ trivial (fun _ => ?_)
      clear hK K
      try simp only [Act.put, List.getElem_toArray, List.getElem_cons_succ, List.getElem_cons_zero, List.setIfInBounds_toArray, List.set_cons_zero, List.set_cons_succ]
      refine wpAnyH_ready (rs := [5]) (by kernel_rfl) (by simp) ?_
      refine AllReadyH.cons rfl (fun K hK => ?_) AllReadyH.nil
      obtain ⟨us, ho1, ho2, ho3⟩ := (HC.out.below HB8.out).rows
      rw [← HPN.out] at ho1
      obtain ⟨W8, hW8⟩ : ∃ W, w8.alloc (.cells #[.slice na x.length nc] 40) = W := ⟨_, rfl⟩
      have hb9 : Below w8.heap.size w8 W8 := by rw [← hW8]; exact (Below.refl _ _).alloc (Nat.le_refl _) _
      have HC8 := Lib.hid ((HC.out.below HB8.out).below hb9)
      have hsl : W8.cell? ⟨w8.heap.size, 0, none⟩ = some (.slice na x.length nc) := by rw [← hW8, cell_of_row _ _ _ _ _ _ (new_at _ _)]; rfl
      have hx8 : Ints (fun b => (s + 2 + 1 ≤ b ∧ (Value.slice qa c.kids.length qc).ownBlock ≠ some b) ∧ (Value.slice oa pn oc).ownBlock ≠ some b) W8 (.slice na x.length nc) x := by
        have h1 : Ints (fun b => (s + 2 + 1 ≤ b ∧ (Value.slice qa c.kids.length qc).ownBlock ≠ some b) ∧ (Value.slice oa pn oc).ownBlock ≠ some b) w8 (.slice na x.length nc) x := ⟨(ownsRow_sl1 HNV.out (by omega)).mono fun b hb => ⟨⟨by have := hb.1; omega, fun e => by have := (HC.out.kids.lt b e).2; have := hb.1; omega⟩, fun e => by obtain ⟨_, q1, _⟩ := HC.out.rows; have := (q1.lt b e).2; have := hb.1; omega⟩, HXI.out.2⟩
        exact h1.below hb9
      have ho1 := own_below ho1 hb9
      have HO3 : Hid (∀ (j : Nat) u y, us[j]? = some u → xs[j]? = some y → Ints (fun b => (s + 2 + 1 ≤ b ∧ (Value.slice qa c.kids.length qc).ownBlock ≠ some b) ∧ (Value.slice oa pn oc).ownBlock ≠ some b) W8 u y) := Lib.hid fun j u y hu hy => (ho3 j u y hu hy).below hb9
      have HO2 := Lib.hid ho2
      have HX8 := Lib.hid hx8
      have hbb : s + 2 + 1 ≤ W8.heap.size := by have := HB8.out.size; have := hb9.size; omega
      have HB9 : Hid (Below wr.heap.size wr W8) := Lib.hid (HB8.out.trans (hb9.mono HB8.out.size))
      have HO1 := Lib.hid ho1
      try rw [hW8]
      clear ho2 ho3 hx8 hb9 hW8
      refine step_push1 rfl _ _ 22 rfl 40 (.slice none 0 0) 24 Tryz.underlying22 HIN.out rfl (s + 2 + 1) (.slice oa pn oc) pn us w8.heap.size (.slice na x.length nc) rfl rfl hsl ho1 rfl (by omega) (by omega) hbb ?_
      intro g9 cap9 w9 hown9 hg9 hat9
      have hne9 : some (s + 2) ≠ (Value.slice oa pn oc).ownBlock := fun e => by have := (HO1.out.lt _ e.symm).1; omega
      have k0 := grown_c2 hg9 hne9 HC8.out.c0
      have kf : w9.frozen? ⟨s + 2, 0, none⟩ = false := (World.frozen?_of_block (a := ⟨s + 2, 0, none⟩) (hg9.block (s + 2) (block_lt HC8.out.c0) hne9)).trans (HC8.out.fz 0)
      have HC9 : Hid (ClmB (w9.setCell ⟨s + 2, 0, none⟩ (.slice (some ⟨g9, 0, none⟩) (pn + 1) cap9)) (s + 2) (.slice (some ⟨g9, 0, none⟩) (pn + 1) cap9) (.slice qa c.kids.length qc) c (xs ++ [x])) := Lib.hid (HC8.out.push HPN.out HO2.out HO3.out HO1.out HX8.out hown9 hg9 hat9)
      have HB10 : Hid (Below (s + 2) W4 (w9.setCell ⟨s + 2, 0, none⟩ (.slice (some ⟨g9, 0, none⟩) (pn + 1) cap9))) := Lib.hid (((HB.out.trans (HB9.out.mono (by have := HB.out.size; omega))).grown hg9 (by have := HB9.out.size; omega) (fun b e => by have := (HO1.out.lt b e).1; omega)).setCell (Nat.le_refl _) _)
      clear hown9 hg9 hat9 ho1
      refine hK.out _ _ trivial (fun _ => ?_)
      clear hK K
      try simp only [Act.put, List.getElem_toArray, List.getElem_cons_succ, List.getElem_cons_zero, List.setIfInBounds_toArray, List.set_cons_zero, List.set_cons_succ]
      refine wpAnyH_take (i := 6) (v := ?_) rfl (by kernel_rfl) (by kernel_rfl) (by kernel_rfl) (fun _ _ _ h => h) (Or.inl ⟨by rfl, ?_⟩) (by assumption) ?_
      rotate_left
      · intro w hSw
        try dsimp only at hSw
        go_simp
        try with_reducible rfl
      try simp only [Act.put, List.getElem_toArray, List.getElem_cons_succ, List.getElem_cons_zero, List.setIfInBounds_toArray, List.set_cons_zero, List.set_cons_succ]
      refine wpAnyH_ready (rs := [7]) (by kernel_rfl) (by simp) ?_
      refine AllReadyH.cons rfl (fun K hK => ?_) AllReadyH.nil
      go_simp
      refine hK.out _ _ trivial (fun _ => ?_)
      clear hK K
      try simp only [Act.put, List.getElem_toArray, List.getElem_cons_succ, List.getElem_cons_zero, List.setIfInBounds_toArray, List.set_cons_zero, List.set_cons_succ]
      refine wpAnyH_done (by kernel_rfl) ?_ _
      go_wp2_with fail
      go_roundg (gk - 1)
      case measure => omega
      case rel => exact ⟨k + 1, _, _, _, _, by omega, by go_num, Lib.hid (by rw [HPN.out]; simp), by omega, HXP, HB10, HC9⟩
    · go_simp
      refine hK.out _ _ trivial (fun _ => ?_)
      clear hK K
      try simp only [Act.put, List.getElem_toArray, List.getElem_cons_succ, List.getElem_cons_zero, List.setIfInBounds_toArray, List.set_cons_zero, List.set_cons_succ]
      refine wpAnyH_ready (rs := [1]) (by kernel_rfl) (by simp) ?_
      refine AllReadyH.cons rfl (fun K hK => ?_) AllReadyH.nil
      have ka0 := cell_alloc (.cells #[.slice na x.length nc] 40) k0
      go_simp
      refine hK.out _ _ trivial (fun _ => ?_)
      clear hK K
      try simp only [Act.put, List.getElem_toArray, List.getElem_cons_succ, List.getElem_cons_zero, List.setIfInBounds_toArray, List.set_cons_zero, List.set_cons_succ]
      refine wpAnyH_ready (rs := [5]) (by kernel_rfl) (by simp) ?_
      refine AllReadyH.cons rfl (fun K hK => ?_) AllReadyH.nil
      obtain ⟨us, ho1, ho2, ho3⟩ := (HC.out.below HB8.out).rows
      rw [← HPN.out] at ho1
      obtain ⟨W8, hW8⟩ : ∃ W, w8.alloc (.cells #[.slice na x.length nc] 40) = W := ⟨_, rfl⟩
      have hb9 : Below w8.heap.size w8 W8 := by rw [← hW8]; exact (Below.refl _ _).alloc (Nat.le_refl _) _
      have HC8 := Lib.hid ((HC.out.below HB8.out).below hb9)
      have hsl : W8.cell? ⟨w8.heap.size, 0, none⟩ = some (.slice na x.length nc) := by rw [← hW8, cell_of_row _ _ _ _ _ _ (new_at _ _)]; rfl
      have hx8 : Ints (fun b => (s + 2 + 1 ≤ b ∧ (Value.slice qa c.kids.length qc).ownBlock ≠ some b) ∧ (Value.slice oa pn oc).ownBlock ≠ some b) W8 (.slice na x.length nc) x := by
        have h1 : Ints (fun b => (s + 2 + 1 ≤ b ∧ (Value.slice qa c.kids.length qc).ownBlock ≠ some b) ∧ (Value.slice oa pn oc).ownBlock ≠ some b) w8 (.slice na x.length nc) x := ⟨(ownsRow_sl1 HNV.out (by omega)).mono fun b hb => ⟨⟨by have := hb.1; omega, fun e => by have := (HC.out.kids.lt b e).2; have := hb.1; omega⟩, fun e => by obtain ⟨_, q1, _⟩ := HC.out.rows; have := (q1.lt b e).2; have := hb.1; omega⟩, HXI.out.2⟩
        exact h1.below hb9
      have ho1 := own_below ho1 hb9
      have HO3 : Hid (∀ (j : Nat) u y, us[j]? = some u → xs[j]? = some y → Ints (fun b => (s + 2 + 1 ≤ b ∧ (Value.slice qa c.kids.length qc).ownBlock ≠ some b) ∧ (Value.slice oa pn oc).ownBlock ≠ some b) W8 u y) := Lib.hid fun j u y hu hy => (ho3 j u y hu hy).below hb9
      have HO2 := Lib.hid ho2
      have HX8 := Lib.hid hx8
      have hbb : s + 2 + 1 ≤ W8.heap.size := by have := HB8.out.size; have := hb9.size; omega
      have HB9 : Hid (Below wr.heap.size wr W8) := Lib.hid (HB8.out.trans (hb9.mono HB8.out.size))
      have HO1 := Lib.hid ho1
      try rw [hW8]
      clear ho2 ho3 hx8 hb9 hW8
      refine step_push1 rfl _ _ 22 rfl 40 (.slice none 0 0) 24 Tryz.underlying22 HIN.out rfl (s + 2 + 1) (.slice oa pn oc) pn us w8.heap.size (.slice na x.length nc) rfl rfl hsl ho1 rfl (by omega) (by omega) hbb ?_
      intro g9 cap9 w9 hown9 hg9 hat9
      have hne9 : some (s + 2) ≠ (Value.slice oa pn oc).ownBlock := fun e => by have := (HO1.out.lt _ e.symm).1; omega
      have k0 := grown_c2 hg9 hne9 HC8.out.c0
      have kf : w9.frozen? ⟨s + 2, 0, none⟩ = false := (World.frozen?_of_block (a := ⟨s + 2, 0, none⟩) (hg9.block (s + 2) (block_lt HC8.out.c0) hne9)).trans (HC8.out.fz 0)
      have HC9 : Hid (ClmB (w9.setCell ⟨s + 2, 0, none⟩ (.slice (some ⟨g9, 0, none⟩) (pn + 1) cap9)) (s + 2) (.slice (some ⟨g9, 0, none⟩) (pn + 1) cap9) (.slice qa c.kids.length qc) c (xs ++ [x])) := Lib.hid (HC8.out.push HPN.out HO2.out HO3.out HO1.out HX8.out hown9 hg9 hat9)
      have HB10 : Hid (Below (s + 2) W4 (w9.setCell ⟨s + 2, 0, none⟩ (.slice (some ⟨g9, 0, none⟩) (pn + 1) cap9))) := Lib.hid (((HB.out.trans (HB9.out.mono (by have := HB.out.size; omega))).grown hg9 (by have := HB9.out.size; omega) (fun b e => by have := (HO1.out.lt b e).1; omega)).setCell (Nat.le_refl _) _)
      clear hown9 hg9 hat9 ho1
      refine hK.out _ _ trivial (fun _ => ?_)
      clear hK K
      try simp only [Act.put, List.getElem_toArray, List.getElem_cons_succ, List.getElem_cons_zero, List.setIfInBounds_toArray, List.set_cons_zero, List.set_cons_succ]
      refine wpAnyH_take (i := 6) (v := ?_) rfl (by kernel_rfl) (by kernel_rfl) (by kernel_rfl) (fun _ _ _ h => h) (Or.inl ⟨by rfl, ?_⟩) (by assumption) ?_
      rotate_left
      · intro w hSw
        try dsimp only at hSw
        go_simp
        try with_reducible rfl
      try simp only [Act.put, List.getElem_toArray, List.getElem_cons_succ, List.getElem_cons_zero, List.setIfInBounds_toArray, List.set_cons_zero, List.set_cons_succ]
      refine wpAnyH_ready (rs := [7]) (by kernel_rfl) (by simp) ?_
      refine AllReadyH.cons rfl (fun K hK => ?_) AllReadyH.nil
      go_simp
      refine hK.out _ _ trivial (fun _ => ?_)
      clear hK K
      try simp only [Act.put, List.getElem_toArray, List.getElem_cons_succ, List.getElem_cons_zero, List.setIfInBounds_toArray, List.set_cons_zero, List.set_cons_succ]
      refine wpAnyH_done (by kernel_rfl) ?_ _
      go_wp2_with fail
      go_roundg (gk - 1)
      case measure => omega
      case rel => exact ⟨k + 1, _, _, _, _, by omega, by go_num, Lib.hid (by rw [HPN.out]; simp), by omega, HXP, HB10, HC9⟩
end Go.Proofs.YtpikkkiepafelaaGreat
