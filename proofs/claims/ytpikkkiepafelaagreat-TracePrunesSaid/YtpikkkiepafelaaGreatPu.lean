/- (Trace seat) Walk: Prune, of the package trace. No condition but the sizes. -/
import Derived.Test.YtpikkkiepafelaaGreatPt
import Derived.RegionTactic
import Derived.ChangeAlike
namespace Go.Proofs.YtpikkkiepafelaaGreat
open Go.ChangeShapes Go.WideShapes Go.ChangeAt Go.RowKit
set_option linter.unusedVariables false
set_option linter.unusedSimpArgs false

theorem made_intsP (n : Nat) : (madeCells (Value.cells (.int .i64 0)) (n * 1)).toList = (List.replicate n (0 : Int)).map (.int .i64) := by
  apply List.ext_getElem?
  intro i
  by_cases h : i < n <;> simp [madeCells, Value.cells, h, Nat.mod_one]
/-- the rows that pruning keeps: the marks (block g), the new names (block gN), the trace that is written (block T) -/
structure PrnS (w : World) (s T g gN n : Nat) (v : Value) (ms : List Bool) (nm : List Int) (xs : List Claim) : Prop where
  marks : w.ownsRow (s + 2) 4 1 (.slice (some ⟨g, 0, none⟩) n n) n (ms.map .bool)
  nums : w.ownsRow (s + 2) 3 1 (.slice (some ⟨gN, 0, none⟩) n n) n (nm.map (.int .i64))
  out : TrP w s T v xs
  lt : s + 2 ≤ g ∧ g < gN ∧ gN < T
theorem PrnS.below {w w' : World} {s T g gN n : Nat} {v : Value} {ms : List Bool} {nm : List Int} {xs : List Claim} (h : PrnS w s T g gN n v ms nm xs) (hb : Below w.heap.size w w') : PrnS w' s T g gN n v ms nm xs :=
  ⟨own_below h.marks hb, own_below h.nums hb, h.out.below (by have := h.lt; omega) hb, h.lt⟩
theorem PrnS.setN {w : World} {s T g gN n k : Nat} {v : Value} {ms : List Bool} {nm : List Int} {xs : List Claim} (h : PrnS w s T g gN n v ms nm xs) (hk : k < n) (y : Int) : PrnS (w.setCell ⟨gN, k, none⟩ (.int .i64 y)) s T g gN n v ms (nm.set k y) xs := by
  have hlt := h.lt
  refine ⟨own_same h.marks fun b e => Below.heap_setCell _ _ _ _ (by have e' : g = b := (by simpa [Value.ownBlock] using e); show b ≠ gN; omega), ?_, h.out.same (by omega) fun b _ hb => Below.heap_setCell _ _ _ _ (by show b ≠ gN; omega), hlt⟩
  obtain ⟨_, _, _, _, _, _, h6⟩ := own_at (Value.int .i64) h.nums hk
  exact h6 y
theorem PrnS.push {w w7 : World} {s T g gN n g7 cap on : Nat} {v r0 r1 r2 r3 r4 : Value} {ms : List Bool} {nm : List Int} {ts : List Claim} {c : Claim} {us : List Row5} (h : PrnS w s T g gN n v ms nm ts) (hn : on = ts.length)
    (h1 : w.ownsRow (T + 1) 42 5 v on (cells5 us)) (h2 : us.length = ts.length) (h3 : ∀ (j : Nat) u c, us[j]? = some u → ts[j]? = some c → ClaimV (fun b => (b < s ∨ T + 1 ≤ b) ∧ v.ownBlock ≠ some b) w u c) (hr : ClaimV (fun b => (b < s ∨ T + 1 ≤ b) ∧ v.ownBlock ≠ some b) w (r0, r1, r2, r3, r4) c)
    (hown : w7.ownsRow (T + 1) 42 5 (.slice (some ⟨g7, 0, none⟩) (on + 1) cap) (on + 1) (cells5 us ++ [r0, r1, r2, r3, r4])) (hg : w.grownBy w7 v.ownBlock) (hat : v.ownBlock = some g7 ∨ w.heap.size ≤ g7) :
    PrnS (w7.setCell ⟨T, 0, none⟩ (.slice (some ⟨g7, 0, none⟩) (on + 1) cap)) s T g gN n (.slice (some ⟨g7, 0, none⟩) (on + 1) cap) ms nm (ts ++ [c]) := by
  have hlt := h.lt
  have hb : ∀ b, b < w.heap.size → b < T → (w7.setCell ⟨T, 0, none⟩ (.slice (some ⟨g7, 0, none⟩) (on + 1) cap)).heap[b]? = w.heap[b]? := fun b hb hT =>
    (Below.heap_setCell _ _ _ _ (show b ≠ T by omega)).trans (hg.block b hb fun e => by have := (h1.lt b e.symm).1; omega)
  refine ⟨own_same h.marks fun b e => ?_, own_same h.nums fun b e => ?_, h.out.push (by omega) hn h1 h2 h3 hr hown hg hat, hlt⟩
  · have e' : g = b := by simpa [Value.ownBlock] using e
    exact hb b (h.marks.lt b e).2 (by omega)
  · have e' : gN = b := by simpa [Value.ownBlock] using e
    exact hb b (h.nums.lt b e).2 (by omega)
/-- the claim in hand: the block D; its kids' own row; its clauses lie elsewhere -/
structure DClm (F : Nat → Prop) (w : World) (B D : Nat) (dv ev : Value) (c : Claim) (ys : List Int) : Prop where
  c0 : w.cell? ⟨D, 0, none⟩ = some dv
  c1 : w.cell? ⟨D, 1, none⟩ = some (.int .i64 c.rule)
  c2 : w.cell? ⟨D, 2, none⟩ = some (.int .i64 c.lit)
  c3 : w.cell? ⟨D, 3, none⟩ = some ev
  c4 : w.cell? ⟨D, 4, none⟩ = some (.int .i64 c.count)
  cls : Clss (fun b => F b ∧ ev.ownBlock ≠ some b) w dv c.cls
  kids : w.ownsRow B 3 1 ev ys.length (ys.map (.int .i64))
  apart : ev.ownBlock ≠ some D
theorem DClm.below {F : Nat → Prop} {w w' : World} {B D : Nat} {dv ev : Value} {c : Claim} {ys : List Int} (h : DClm F w B D dv ev c ys) (hb : Below w.heap.size w w') : DClm F w' B D dv ev c ys := by
  have hl := block_lt h.c0
  exact ⟨below_c hb hl h.c0, below_c hb hl h.c1, below_c hb hl h.c2, below_c hb hl h.c3, below_c hb hl h.c4, Clss.below h.cls hb, own_below h.kids hb, h.apart⟩
theorem DClm.set {F : Nat → Prop} {w : World} {B D kb n cap j : Nat} {dv : Value} {c : Claim} {ys : List Int} (h : DClm F w B D dv (.slice (some ⟨kb, 0, none⟩) n cap) c ys) (hn : n = ys.length) (hj : j < n) (y : Int) :
    DClm F (w.setCell ⟨kb, j, none⟩ (.int .i64 y)) B D dv (.slice (some ⟨kb, 0, none⟩) n cap) c (ys.set j y) := by
  subst hn
  have hne : kb ≠ D := fun e => h.apart (by rw [e]; rfl)
  obtain ⟨_, _, _, _, _, _, h6⟩ := own_at (Value.int .i64) h.kids hj
  refine ⟨set_ne (by omega) h.c0, set_ne (by omega) h.c1, set_ne (by omega) h.c2, set_ne (by omega) h.c3, set_ne (by omega) h.c4, Rows1.move (fun _ _ _ _ _ h hm => h.move hm) h.cls fun b hb _ => Below.heap_setCell _ _ _ _ (fun e => hb.2 (by rw [e]; rfl)), ?_, h.apart⟩
  rw [List.length_set]
  exact h6 y
theorem ren_step {f : Int → Int} {ks : List Int} {j : Nat} {x : Int} (h : ks[j]? = some x) : ((ks.take j).map f ++ ks.drop j).set j (f x) = (ks.take (j + 1)).map f ++ ks.drop (j + 1) := by
  obtain ⟨hj, hx⟩ := List.getElem?_eq_some_iff.1 h
  rw [List.set_append]
  have hl : ((ks.take j).map f).length = j := by simp; omega
  rw [hl, if_neg (by omega), Nat.sub_self, List.drop_eq_getElem_cons hj, List.set_cons_zero, List.take_add_one, h]
  simp
theorem bad_any {c : Claim} {k : Nat} : badAt k c = c.kids.any fun x => decide (x < 0) || decide ((k : Int) ≤ x) := rfl

set_option maxRecDepth 100000 in
set_option maxHeartbeats 32000000 in
theorem prune_any (tv : Value) (ts : List Claim) (w : World) (hx : Claims (fun _ => True) w tv ts) (hsz : ∀ c ∈ ts, SzC c) (hl : ts.length ≤ 4000) :
    Calls Tryz.prog 7 #[.agg #[tv]] w (TrcPost w (prnM ts)) := by
  obtain ⟨ta, tn, tc, rfl, HTN, htn⟩ := hx.form
  obtain ⟨s, hs⟩ : ∃ b, w.heap.size = b := ⟨_, rfl⟩
  obtain ⟨W1, hW1⟩ : ∃ W, (w.alloc (.cells #[.slice ta tn tc] 27)).alloc (.cells #[.slice none 0 0] 27) = W := ⟨_, rfl⟩
  have hb1 : Below w.heap.size w W1 := by rw [← hW1]; exact ((Below.refl _ _).alloc (Nat.le_refl _) _).alloc (by simp) _
  have hs1 : W1.heap.size = s + 2 := by rw [← hW1]; simp; omega
  have hr0 : W1.heap[s]? = some (.cells #[.slice ta tn tc] 27) := by rw [← hW1]; exact old_at _ _ _ (new_at' _ _ hs.symm)
  have hr1 : W1.heap[s + 1]? = some (.cells #[.slice none 0 0] 27) := by rw [← hW1]; exact new_at' _ _ (by simp; omega)
  have t0 : W1.cell? ⟨s, 0, none⟩ = some (.slice ta tn tc) := by rw [cell_of_row _ _ _ _ _ _ hr0]; rfl
  have e0 : W1.cell? ⟨s + 1, 0, none⟩ = some (.slice none 0 0) := by rw [cell_of_row _ _ _ _ _ _ hr1]; rfl
  have HEF : Hid (∀ o, W1.frozen? ⟨s + 1, o, none⟩ = false) := Lib.hid fun o => by simp only [World.frozen?, hr1]; simp
  have HX : Hid (Claims (fun b => b < s) W1 (.slice ta tn tc) ts) := Lib.hid (by rw [← hs]; exact hx.lt'.below hb1)
  have HB1 := Lib.hid hb1
  have HW1 := Lib.hid hW1
  have HS := Lib.hid hs
  have HS1 := Lib.hid hs1
  have HSZ := Lib.hid hsz
  have hn4 : tn ≤ 4000 := by rw [HTN.out]; exact hl
  have HCP : Hid (∀ W, Below W1.heap.size W1 W → Calls Tryz.prog 14 #[.agg #[.slice ta tn tc]] W (CpyPost W ts)) := Lib.hid fun W hW => copied_any _ ts W ((hx.below hb1).below hW) hsz hl
  obtain ⟨O, hO⟩ : ∃ O, okGo ts 0 = O := ⟨_, rfl⟩
  have HOK := Lib.hid hO
  have HO0 : Hid (okGo (ts.drop 0) 0 = O) := Lib.hid hO
  have HB0 : Hid (Below (s + 2) W1 W1) := Lib.hid (Below.refl _ _)
  have hlt0 : s + 2 ≤ W1.heap.size := by omega
  clear hx hsz hl hb1 hs1 hr0 hr1 hW1 hs hO
  go_enter Tryz.func7, Tryz.ntmps7
  go_upto_region 1 with fail
  try rw [HW1.out, HS.out]
  go_wp2_with fail
  go_loopg [25] tn (fun gg u25 wx => ∃ k : Nat, k + gg = tn ∧ u25 = .int .i64 k ∧ Hid (Below (s + 2) W1 wx) ∧ Hid (okGo (ts.drop k) k = O))
  case atStart => exact ⟨0, by omega, rfl, HB0, HO0⟩
  case round =>
  clear HO0 HB0
  obtain ⟨k, hkg, rfl, HB, HO⟩ := hrel
  have hwz := HB.out.size
  have HXR : Hid (Claims (fun b => b < s) wr (.slice ta tn tc) ts) := Lib.hid (HX.out.move fun b hb _ => HB.out.block b (by omega))
  by_cases hk : k < tn
  · have hdk : decide ((k : Int) < tn) = true := by simp; omega
    have hdk' : decide (k < tn) = true := decide_eq_true hk
    have hk0 : (0 : Int) ≤ k := by omega
    have hkn : (k : Int) < tn := by omega
    obtain ⟨c, hc⟩ : ∃ c, ts[k]? = some c := ⟨_, List.getElem?_eq_getElem (by rw [← HTN.out]; exact hk)⟩
    obtain ⟨xb, xo, xcv, xkv, rfl, _, hxb, m0, m1, m2, m3, m4, hcv⟩ := HXR.out.at hc
    have hxc : Clss (fun b => b < s) wr xcv c.cls := hcv.1.1
    have hxk : Ints (fun b => b < s) wr xkv c.kids := hcv.1.2.2.2.1
    obtain ⟨xa, xn, xc, rfl, _, _⟩ := hxc.form'
    obtain ⟨ya, yn, yc, rfl, HYN, _⟩ := hxk.form'
    obtain ⟨L, hL⟩ : ∃ g, wr.heap.size = g := ⟨_, rfl⟩
    obtain ⟨W2, hW2⟩ : ∃ W, wr.alloc (.cells #[.slice xa xn xc, .int .i64 c.rule, .int .i64 c.lit, .slice ya yn yc, .int .i64 c.count] 42) = W := ⟨_, rfl⟩
    have hb2 : Below wr.heap.size wr W2 := by rw [← hW2]; exact (Below.refl _ _).alloc (Nat.le_refl _) _
    have hr : W2.heap[L]? = some (.cells #[.slice xa xn xc, .int .i64 c.rule, .int .i64 c.lit, .slice ya yn yc, .int .i64 c.count] 42) := by rw [← hW2]; exact new_at' _ _ hL.symm
    have l3 : W2.cell? ⟨L, 3, none⟩ = some (.slice ya yn yc) := by rw [cell_of_row _ _ _ _ _ _ hr]; rfl
    have HB2 : Hid (Below (s + 2) W1 W2) := Lib.hid (HB.out.trans (hb2.mono (by omega)))
    have HXK := Lib.hid (hxk.below hb2)
    obtain ⟨B, hB⟩ : ∃ B, badAt k c = B := ⟨_, rfl⟩
    have HBD : Hid (((c.kids.drop 0).any fun x => decide (x < 0) || decide ((k : Int) ≤ x)) = B) := Lib.hid hB
    have HON : Hid (O = if B = true then false else okGo (ts.drop (k + 1)) (k + 1)) := Lib.hid (by rw [← HO.out, List.drop_eq_getElem_cons (by rw [← HTN.out]; exact hk), okGo, (List.getElem?_eq_some_iff.1 hc).2, hB])
    have HL := Lib.hid hL
    have HW2 := Lib.hid hW2
    obtain ⟨GK, hGK⟩ : ∃ G, G = gk := ⟨_, rfl⟩
    subst hGK
    clear hc hcv hxc hxk hb2 hr hL hW2 hB HO HB
    go_upto_region 5 with fail
    try rw [HW2.out, HL.out]
    clear HW2 m0 m1 m2 m3 m4
    go_wp2_with fail
    go_loopg [33] yn (fun gg u33 wx => ∃ j : Nat, j + gg = yn ∧ u33 = .int .i64 j ∧ wx = W2 ∧ Hid (((c.kids.drop j).any fun x => decide (x < 0) || decide ((k : Int) ≤ x)) = B))
    case atStart => exact ⟨0, by omega, rfl, rfl, HBD⟩
    case round =>
    clear HBD
    obtain ⟨j, hjg, rfl, hww, HBJ⟩ := hrel
    subst hww
    by_cases hj : j < yn
    case neg =>
      obtain rfl : yn = j := by omega
      have hdj : decide ((yn : Int) < yn) = false := by simp
      have hdj' : decide (yn < yn) = false := decide_eq_false (by omega)
      have hbf : B = false := by rw [← HBJ.out, List.drop_eq_nil_of_le (by rw [HYN.out]; exact Nat.le_refl _)]; rfl
      have HON2 : Hid (okGo (ts.drop (k + 1)) (k + 1) = O) := Lib.hid (by rw [HON.out, if_neg (by rw [hbf]; simp)])
      clear HBJ HON hbf
      go_wp2_with fail
      go_roundg (GK - 1)
      case measure => omega
      case rel => exact ⟨k + 1, by omega, by go_num, HB2, HON2⟩
    obtain ⟨x, hxj⟩ : ∃ x, c.kids[j]? = some x := ⟨_, List.getElem?_eq_getElem (by rw [← HYN.out]; exact hj)⟩
    obtain ⟨zb, zo, rfl, _, hzb, hzc, hx64⟩ := HXK.out.at hxj
    have hdj : decide ((j : Int) < yn) = true := by simp; omega
    have hdj' : decide (j < yn) = true := decide_eq_true hj
    have hj0 : (0 : Int) ≤ j := by omega
    have hjn : (j : Int) < yn := by omega
    have HDJ : Hid (c.kids.drop j = x :: c.kids.drop (j + 1)) := Lib.hid (by rw [List.drop_eq_getElem_cons (List.getElem?_eq_some_iff.1 hxj).1, (List.getElem?_eq_some_iff.1 hxj).2])
    clear hxj
    have cp0 := below_c HB2.out (by omega) e0
    have cpt := below_c HB2.out (by omega) t0
    have cpf : wr.frozen? ⟨s + 1, 0, none⟩ = false := below_z HB2.out (by omega) (HEF.out 0)
    by_cases hbx : x < 0 ∨ (k : Int) ≤ x
    case neg =>
      have q1 : decide (x < 0) = false := decide_eq_false (by omega)
      have q2 : decide ((k : Int) ≤ x) = false := decide_eq_false (by omega)
      have HBJ2 : Hid (((c.kids.drop (j + 1)).any fun x => decide (x < 0) || decide ((k : Int) ≤ x)) = B) := Lib.hid (by rw [← HBJ.out, HDJ.out, List.any_cons, q1, q2]; rfl)
      clear HBJ HDJ hbx
      go_wp2_with fail
      go_roundg (gk - 1)
      case measure => omega
      case rel => exact ⟨j + 1, by omega, by go_num, rfl, HBJ2⟩
    have HOF : Hid (O = false) := Lib.hid (by
      have hbt : B = true := by
        rw [← HBJ.out, HDJ.out, List.any_cons]
        rcases hbx with h | h
        · rw [decide_eq_true h]; rfl
        · rw [decide_eq_true h]; simp
      rw [HON.out, if_pos hbt])
    have HCW : Hid (Calls Tryz.prog 14 #[.agg #[.slice (some ⟨xb, xo, none⟩) tn tc]] wr (CpyPost wr ts)) := Lib.hid (HCP.out _ (by rw [HS1.out]; exact HB2.out))
    by_cases hx0 : x < 0
    · have q1 : decide (x < 0) = true := decide_eq_true hx0
      clear HBJ HDJ hbx
      go_wp2_with fail
      refine HCW.out.mono ?_
      rintro e w5 ⟨v, rfl, hv, hb5⟩
      obtain ⟨va, vn, vc, rfl, _, _⟩ := hv.form
      have HV := Lib.hid hv
      have HBX := Lib.hid (HB2.out.trans (hb5.mono (by have := HB2.out.size; omega)))
      have r0 := below_c hb5 (block_lt cp0) cp0
      have rf := below_z hb5 (block_lt cp0) cpf
      clear hv hb5 HCW cp0 cpf cpt
      go_wp2_with fail
      refine bodyPost_ret (v := .agg #[.slice va vn vc]) (by simp [results, Tryz.results7, go_sem, set_eq r0]) rfl ?_
      have he : prnM ts = ts := by unfold prnM; rw [if_pos (by rw [HOK.out, HOF.out])]
      rw [he]
      exact ⟨_, rfl, (HV.out.move fun b hb _ => Below.heap_setCell _ _ _ _ (by show b ≠ s + 1; have hz := HB2.out.size; have hz2 : wr.heap.size ≤ b := hb; omega)).mono fun _ _ => trivial, (HB1.out.trans (HBX.out.mono (by rw [HS.out]; omega))).setCell (by rw [HS.out]; exact Nat.le_succ s) _⟩
    · have q1 : decide (x < 0) = false := decide_eq_false hx0
      have q2 : decide ((k : Int) ≤ x) = true := decide_eq_true (by omega)
      clear HBJ HDJ hbx hx0
      go_wp2_with fail
      refine HCW.out.mono ?_
      rintro e w5 ⟨v, rfl, hv, hb5⟩
      obtain ⟨va, vn, vc, rfl, _, _⟩ := hv.form
      have HV := Lib.hid hv
      have HBX := Lib.hid (HB2.out.trans (hb5.mono (by have := HB2.out.size; omega)))
      have r0 := below_c hb5 (block_lt cp0) cp0
      have rf := below_z hb5 (block_lt cp0) cpf
      clear hv hb5 HCW cp0 cpf cpt
      go_wp2_with fail
      refine bodyPost_ret (v := .agg #[.slice va vn vc]) (by simp [results, Tryz.results7, go_sem, set_eq r0]) rfl ?_
      have he : prnM ts = ts := by unfold prnM; rw [if_pos (by rw [HOK.out, HOF.out])]
      rw [he]
      exact ⟨_, rfl, (HV.out.move fun b hb _ => Below.heap_setCell _ _ _ _ (by show b ≠ s + 1; have hz := HB2.out.size; have hz2 : wr.heap.size ≤ b := hb; omega)).mono fun _ _ => trivial, (HB1.out.trans (HBX.out.mono (by rw [HS.out]; omega))).setCell (by rw [HS.out]; exact Nat.le_succ s) _⟩
  obtain rfl : tn = k := by omega
  have hdk : decide ((tn : Int) < tn) = false := by simp
  have hdk' : decide (tn < tn) = false := decide_eq_false (by omega)
  have hot : O = true := by rw [← HO.out, List.drop_eq_nil_of_le (by rw [HTN.out]; exact Nat.le_refl _)]; rfl
  subst hot
  have HKD : Hid (∀ j, j < ts.length → ∀ x ∈ (ts.getD j clNil).kids, 0 ≤ x ∧ x < (j : Int)) := Lib.hid (marks_ok HOK.out).kids
  obtain ⟨M, hM⟩ : ∃ M, marksM ts = M := ⟨_, rfl⟩
  have HML : Hid (M.length = ts.length) := Lib.hid (by rw [← hM]; exact (marks_ok HOK.out).len)
  obtain ⟨R, hR⟩ : ∃ R, prnM ts = R := ⟨_, rfl⟩
  have HR : Hid (renGo (ts.drop 0) (M.drop 0) (List.replicate ts.length 0) 0 0 = R) := Lib.hid (by rw [← hR, ← hM]; unfold prnM; rw [if_neg (by rw [HOK.out]; simp)]; rfl)
  have HM0 : Hid (∀ m, m = tn → markDn ts m ((List.replicate tn false).set (tn - 1) true) = M) := Lib.hid fun m e => by rw [e, ← hM, HTN.out]; rfl
  have HPR := Lib.hid hR
  obtain ⟨g, hg⟩ : ∃ g, wr.heap.size = g := ⟨_, rfl⟩
  have hsg : s + 2 ≤ g := by omega
  have hinfo : (Tryz.prog.info? 4).map (fun i => (i.zero, i.size, i.bytes)) = some (some (.bool false), 1, 1) := by kernel_rfl
  obtain ⟨i0, g1, g2, g3, g4⟩ := info_parts hinfo
  have G1 := Lib.hid g1
  have G2 := Lib.hid g2
  have G3 := Lib.hid g3
  have G4 := Lib.hid g4
  have HG := Lib.hid hg
  clear hinfo g1 g2 g3 g4 hM hR hg HO HXR
  go_upto_region 13 with (at_make; refine wpList_make_full _ rfl _ _ 44 rfl (s + 2) 4 i0 (.bool false) 1 Tryz.underlying44 G1.out G2.out G3.out .i64 .i64 _ _ tn rfl rfl (by simp) (by simp) (by rw [G4.out]; omega) (by unfold maxLen; omega) (by omega) ?_; intro w2 hown2 hg2; have HB2 := Lib.hid (HB.out.grown hg2 (by omega) (by intro k hk; cases hk)); have HO2 : Hid (w2.ownsRow (s + 2) 4 1 (.slice (some ⟨wr.heap.size, 0, none⟩) tn tn) tn ((List.replicate tn false).map .bool)) := Lib.hid (by rw [made_bools] at hown2; exact hown2); clear hown2 hg2)
  rw [HG.out] at HO2
  try rw [HG.out]
  have hw1 : wrap64 ((tn : Int) - 1) = (tn : Int) - 1 := IntWalk.wrap64_in _ ⟨by omega, by omega⟩
  have hw1' : IntKind.i64.wrap ((tn : Int) - 1) = (tn : Int) - 1 := IntWalk.i64_in _ ⟨by omega, by omega⟩
  clear HB G1 G2 G3 G4 i0
  go_wp2_with fail
  go_loopg [9] tn (fun gg u9 wx => ∃ (m : Nat) (i : Int) (ms : List Bool), Hid (m = gg) ∧ u9 = .int .i64 i ∧ Hid (i = (m : Int) - 1) ∧ m ≤ tn ∧ Hid (wx.ownsRow (s + 2) 4 1 (.slice (some ⟨g, 0, none⟩) tn tn) tn (ms.map .bool)) ∧ Hid (Below (s + 2) W1 wx) ∧ Hid (m = tn → markDn ts m (ms.set (tn - 1) true) = M) ∧ Hid (m < tn → markDn ts m ms = M))
  case atStart => exact ⟨tn, _, _, Lib.hid rfl, rfl, Lib.hid rfl, Nat.le_refl _, HO2, HB2, Lib.hid (HM0.out tn), Lib.hid fun h => absurd h (Nat.lt_irrefl _)⟩
  case round =>
  clear HO2 HB2 HM0
  obtain ⟨m, i, ms, HMG, rfl, HI, hmt, HOW, HB, HM0, HM1⟩ := hrel
  have hwz := HB.out.size
  have HXR : Hid (Claims (fun b => b < s) wr (.slice ta tn tc) ts) := Lib.hid (HX.out.move fun b hb _ => HB.out.block b (by omega))
  by_cases hm : m = 0
  case neg =>
    obtain ⟨p, rfl⟩ : ∃ p, m = p + 1 := ⟨m - 1, by omega⟩
    have hip : i = (p : Int) := by have := HI.out; omega
    subst hip
    have hp : p < tn := by omega
    have hp0 : (0 : Int) ≤ p := by omega
    have hd0 : decide ((0 : Int) ≤ p) = true := decide_eq_true hp0
    have hptn : (p : Int) < tn := by omega
    have hwp : wrap64 ((p : Int) - 1) = (p : Int) - 1 := IntWalk.wrap64_in _ ⟨by omega, by omega⟩
    have hwp' : IntKind.i64.wrap ((p : Int) - 1) = (p : Int) - 1 := IntWalk.i64_in _ ⟨by omega, by omega⟩
    obtain ⟨c, hc⟩ : ∃ c, ts[p]? = some c := ⟨_, List.getElem?_eq_getElem (by rw [← HTN.out]; exact hp)⟩
    have hcg : ts.getD p clNil = c := by rw [List.getD_eq_getElem?_getD, hc]; rfl
    have HKP : Hid (∀ x ∈ c.kids, 0 ≤ x ∧ x < (p : Int)) := Lib.hid (by have := HKD.out p (by rw [← HTN.out]; exact hp); rw [hcg] at this; exact this)
    have HMS : Hid (∀ ms : List Bool, markDn ts (p + 1) ms = markDn ts p (if ms.getD p false = true then setAll ms c.kids else ms)) := Lib.hid fun ms => by rw [markDn, hcg]
    obtain ⟨xb, xo, xcv, xkv, rfl, _, hxb, m0, m1, m2, m3, m4, hcv⟩ := HXR.out.at hc
    have hxk : Ints (fun b => b < s) wr xkv c.kids := hcv.1.2.2.2.1
    obtain ⟨ya, yn, yc, rfl, HYN, _⟩ := hxk.form'
    obtain ⟨X, hX, oc, of, og1, og2, oset⟩ := own_at Value.bool HOW.out hp
    have HXG : Hid (ms.getD p false = X) := Lib.hid (by rw [List.getD_eq_getElem?_getD, hX]; rfl)
    have hml : ms.length = tn := by simpa using HOW.out.1
    have HXK := Lib.hid hxk
    have ct0 := below_c HB.out (by omega) t0
    obtain ⟨GK, hGK⟩ : ∃ G, G = gk := ⟨_, rfl⟩
    subst hGK
    clear hc hcg hcv hxk hX m0 m1 m2 m4
    by_cases hlast : p + 1 = tn
    · have hel : ((p : Int) == (tn : Int) - 1) = true := by simp; omega
      have HMR : Hid (markDn ts p (setAll (ms.set p true) c.kids) = M) := Lib.hid (by
        have h := HM0.out hlast
        rw [HMS.out, show tn - 1 = p by omega, getD_set (by omega), if_pos rfl, if_pos rfl] at h
        exact h)
      obtain ⟨W3, hW3⟩ : ∃ W, wr.setCell ⟨g, p, none⟩ (.bool true) = W := ⟨_, rfl⟩
      have ht3 : W3.cell? ⟨g, p, none⟩ = some (.bool true) := by rw [← hW3]; exact set_eq oc
      have hb3 : Below (s + 2) wr W3 := by rw [← hW3]; exact (Below.refl _ _).setCell hsg _
      have HO3 : Hid (W3.ownsRow (s + 2) 4 1 (.slice (some ⟨g, 0, none⟩) tn tn) tn ((ms.set p true).map .bool)) := Lib.hid (by rw [← hW3]; exact oset true)
      have HB3 : Hid (Below (s + 2) W1 W3) := Lib.hid (HB.out.trans hb3)
      have ct3 := below_c hb3 (by omega) ct0
      have m3 := below_c hb3 (by omega) m3
      have HXK := Lib.hid (HXK.out.move fun b hb _ => hb3.block b (by omega))
      have HW3 := Lib.hid hW3
      clear hW3 hb3 HM0 HM1 HMS oset hlast HXG HOW
      go_upto_region 18 with fail
      try rw [HW3.out]
      clear oc of HW3 ct0
      go_wp2_with fail
      go_loopg [74] yn (fun gg u74 wx => ∃ (j : Nat) (ns : List Bool), j + gg = yn ∧ u74 = .int .i64 j ∧ Hid (wx.ownsRow (s + 2) 4 1 (.slice (some ⟨g, 0, none⟩) tn tn) tn (ns.map .bool)) ∧ Hid (Below (s + 2) W1 wx) ∧ Hid (Below (s + 2) W3 wx) ∧ Hid (setAll ns (c.kids.drop j) = setAll (ms.set p true) c.kids))
      case atStart => exact ⟨0, _, by omega, rfl, HO3, HB3, Lib.hid (Below.refl _ _), Lib.hid rfl⟩
      case round =>
      clear HO3 HB3
      obtain ⟨j, ns, hjg, rfl, HOJ, HBJ, HBK, HSJ⟩ := hrel
      by_cases hj : j < yn
      case neg =>
        obtain rfl : yn = j := by omega
        have hdj : decide ((yn : Int) < yn) = false := by simp
        have hdj' : decide (yn < yn) = false := decide_eq_false (by omega)
        have hns : ns = setAll (ms.set p true) c.kids := by
          have h := HSJ.out
          rw [List.drop_eq_nil_of_le (by rw [HYN.out]; exact Nat.le_refl _)] at h
          exact h
        have HMR2 : Hid (p < tn → markDn ts p ns = M) := Lib.hid fun _ => by rw [hns]; exact HMR.out
        have HMT : Hid (p = tn → markDn ts p (ns.set (tn - 1) true) = M) := Lib.hid fun h => by omega
        clear HMR HSJ hns
        go_wp2_with fail
        go_roundg (GK - 1)
        case measure => have := HMG.out; omega
        case rel => exact ⟨p, _, ns, Lib.hid (by have := HMG.out; omega), rfl, Lib.hid rfl, by omega, HOJ, HBJ, HMT, HMR2⟩
      have hdj : decide ((j : Int) < yn) = true := by simp; omega
      have hdj' : decide (j < yn) = true := decide_eq_true hj
      have hj0 : (0 : Int) ≤ j := by omega
      have hjn : (j : Int) < yn := by omega
      obtain ⟨x, hxj⟩ : ∃ x, c.kids[j]? = some x := ⟨_, List.getElem?_eq_getElem (by rw [← HYN.out]; exact hj)⟩
      obtain ⟨hx0, hxp⟩ := HKP.out x (List.mem_of_getElem? hxj)
      obtain ⟨q, rfl⟩ : ∃ q : Nat, x = q := ⟨x.toNat, by omega⟩
      obtain ⟨zb, zo, rfl, _, hzb, hzc, hx64⟩ := (HXK.out.move fun b hb _ => HBK.out.block b (by omega)).at hxj
      have hq : q < tn := by omega
      have hqn : (q : Int) < tn := by omega
      obtain ⟨Y, hY, oc2, of2, _, _, oset2⟩ := own_at Value.bool HOJ.out hq
      have HOJ2 : Hid ((wr.setCell ⟨g, q, none⟩ (.bool true)).ownsRow (s + 2) 4 1 (.slice (some ⟨g, 0, none⟩) tn tn) tn ((ns.set q true).map .bool)) := Lib.hid (oset2 true)
      have HBJ2 : Hid (Below (s + 2) W1 (wr.setCell ⟨g, q, none⟩ (.bool true))) := Lib.hid (HBJ.out.setCell hsg _)
      have HBK2 : Hid (Below (s + 2) W3 (wr.setCell ⟨g, q, none⟩ (.bool true))) := Lib.hid (HBK.out.setCell hsg _)
      have HSJ2 : Hid (setAll (ns.set q true) (c.kids.drop (j + 1)) = setAll (ms.set p true) c.kids) := Lib.hid (by
        have h := HSJ.out
        rw [List.drop_eq_getElem_cons (List.getElem?_eq_some_iff.1 hxj).1, (List.getElem?_eq_some_iff.1 hxj).2] at h
        exact h)
      clear hxj hY oset2 HOJ HBJ HBK HSJ hx64
      go_wp2_with fail
      go_roundg (gk - 1)
      case measure => omega
      case rel => exact ⟨j + 1, _, by omega, by go_num, HOJ2, HBJ2, HBK2, HSJ2⟩
    · have hel : ((p : Int) == (tn : Int) - 1) = false := by rw [beq_eq_false_iff_ne]; omega
      have HMR0 : Hid (markDn ts p (if X = true then setAll ms c.kids else ms) = M) := Lib.hid (by
        have h := HM1.out (by omega)
        rw [HMS.out, HXG.out] at h
        exact h)
      rcases bool2 X with rfl | rfl
      · have HMR : Hid (markDn ts p (setAll ms c.kids) = M) := Lib.hid (by have := HMR0.out; rw [if_pos rfl] at this; exact this)
        obtain ⟨W3, hW3⟩ : ∃ W, wr = W := ⟨_, rfl⟩
        have ht3 : W3.cell? ⟨g, p, none⟩ = some (.bool true) := by rw [← hW3]; exact oc
        have HO3 : Hid (W3.ownsRow (s + 2) 4 1 (.slice (some ⟨g, 0, none⟩) tn tn) tn (ms.map .bool)) := Lib.hid (by rw [← hW3]; exact HOW.out)
        have HB3 : Hid (Below (s + 2) W1 W3) := Lib.hid (by rw [← hW3]; exact HB.out)
        rw [hW3] at ct0 m3 HXK ⊢
        have ct3 := ct0
        clear hW3 HM0 HM1 HMS oset hlast HXG HOW HMR0 oc of ct0
        go_wp2_with fail
        go_loopg [74] yn (fun gg u74 wx => ∃ (j : Nat) (ns : List Bool), j + gg = yn ∧ u74 = .int .i64 j ∧ Hid (wx.ownsRow (s + 2) 4 1 (.slice (some ⟨g, 0, none⟩) tn tn) tn (ns.map .bool)) ∧ Hid (Below (s + 2) W1 wx) ∧ Hid (Below (s + 2) W3 wx) ∧ Hid (setAll ns (c.kids.drop j) = setAll (ms) c.kids))
        case atStart => exact ⟨0, _, by omega, rfl, HO3, HB3, Lib.hid (Below.refl _ _), Lib.hid rfl⟩
        case round =>
        clear HO3 HB3
        obtain ⟨j, ns, hjg, rfl, HOJ, HBJ, HBK, HSJ⟩ := hrel
        by_cases hj : j < yn
        case neg =>
          obtain rfl : yn = j := by omega
          have hdj : decide ((yn : Int) < yn) = false := by simp
          have hdj' : decide (yn < yn) = false := decide_eq_false (by omega)
          have hns : ns = setAll (ms) c.kids := by
            have h := HSJ.out
            rw [List.drop_eq_nil_of_le (by rw [HYN.out]; exact Nat.le_refl _)] at h
            exact h
          have HMR2 : Hid (p < tn → markDn ts p ns = M) := Lib.hid fun _ => by rw [hns]; exact HMR.out
          have HMT : Hid (p = tn → markDn ts p (ns.set (tn - 1) true) = M) := Lib.hid fun h => by omega
          clear HMR HSJ hns
          go_wp2_with fail
          go_roundg (GK - 1)
          case measure => have := HMG.out; omega
          case rel => exact ⟨p, _, ns, Lib.hid (by have := HMG.out; omega), rfl, Lib.hid rfl, by omega, HOJ, HBJ, HMT, HMR2⟩
        have hdj : decide ((j : Int) < yn) = true := by simp; omega
        have hdj' : decide (j < yn) = true := decide_eq_true hj
        have hj0 : (0 : Int) ≤ j := by omega
        have hjn : (j : Int) < yn := by omega
        obtain ⟨x, hxj⟩ : ∃ x, c.kids[j]? = some x := ⟨_, List.getElem?_eq_getElem (by rw [← HYN.out]; exact hj)⟩
        obtain ⟨hx0, hxp⟩ := HKP.out x (List.mem_of_getElem? hxj)
        obtain ⟨q, rfl⟩ : ∃ q : Nat, x = q := ⟨x.toNat, by omega⟩
        obtain ⟨zb, zo, rfl, _, hzb, hzc, hx64⟩ := (HXK.out.move fun b hb _ => HBK.out.block b (by omega)).at hxj
        have hq : q < tn := by omega
        have hqn : (q : Int) < tn := by omega
        obtain ⟨Y, hY, oc2, of2, _, _, oset2⟩ := own_at Value.bool HOJ.out hq
        have HOJ2 : Hid ((wr.setCell ⟨g, q, none⟩ (.bool true)).ownsRow (s + 2) 4 1 (.slice (some ⟨g, 0, none⟩) tn tn) tn ((ns.set q true).map .bool)) := Lib.hid (oset2 true)
        have HBJ2 : Hid (Below (s + 2) W1 (wr.setCell ⟨g, q, none⟩ (.bool true))) := Lib.hid (HBJ.out.setCell hsg _)
        have HBK2 : Hid (Below (s + 2) W3 (wr.setCell ⟨g, q, none⟩ (.bool true))) := Lib.hid (HBK.out.setCell hsg _)
        have HSJ2 : Hid (setAll (ns.set q true) (c.kids.drop (j + 1)) = setAll (ms) c.kids) := Lib.hid (by
          have h := HSJ.out
          rw [List.drop_eq_getElem_cons (List.getElem?_eq_some_iff.1 hxj).1, (List.getElem?_eq_some_iff.1 hxj).2] at h
          exact h)
        clear hxj hY oset2 HOJ HBJ HBK HSJ hx64
        go_wp2_with fail
        go_roundg (gk - 1)
        case measure => omega
        case rel => exact ⟨j + 1, _, by omega, by go_num, HOJ2, HBJ2, HBK2, HSJ2⟩
      · have HMR : Hid (p < tn → markDn ts p ms = M) := Lib.hid fun _ => by have := HMR0.out; rw [if_neg (by simp)] at this; exact this
        have HMT : Hid (p = tn → markDn ts p (ms.set (tn - 1) true) = M) := Lib.hid fun h => by omega
        clear HM0 HM1 HMS oset hlast HXG HMR0
        go_wp2_with fail
        go_roundg (GK - 1)
        case measure => have := HMG.out; omega
        case rel => exact ⟨p, _, ms, Lib.hid (by have := HMG.out; omega), rfl, Lib.hid rfl, by omega, HOW, HB, HMT, HMR⟩
  subst hm
  have him : i = -1 := by have := HI.out; omega
  subst him
  have hd0 : decide ((0 : Int) ≤ -1) = false := by decide
  have hml : ms.length = tn := by simpa using HOW.out.1
  have hmM : ms = M := by
    by_cases h0 : tn = 0
    · have e1 : ms = [] := List.eq_nil_of_length_eq_zero (by rw [hml]; exact h0)
      have e2 : M = [] := List.eq_nil_of_length_eq_zero (by rw [HML.out, ← HTN.out]; exact h0)
      rw [e1, e2]
    · exact HM1.out (by omega)
  subst hmM
  have HML2 : Hid (ms.length = tn) := Lib.hid hml
  obtain ⟨gN, hgN⟩ : ∃ g, wr.heap.size = g := ⟨_, rfl⟩
  have hgl : g < gN := by rw [← hgN]; exact (HOW.out.lt g rfl).2
  have hinfo : (Tryz.prog.info? 3).map (fun i => (i.zero, i.size, i.bytes)) = some (some (.int .i64 0), 1, 8) := by kernel_rfl
  obtain ⟨i0, g1, g2, g3, g4⟩ := info_parts hinfo
  have G1 := Lib.hid g1
  have G2 := Lib.hid g2
  have G3 := Lib.hid g3
  have G4 := Lib.hid g4
  have HGN := Lib.hid hgN
  clear hinfo g1 g2 g3 g4 hgN HM0 HM1 hml HXR
  go_upto_region 25 with (at_make; refine wpList_make_full _ rfl _ _ 40 rfl (s + 2) 3 i0 (.int .i64 0) 1 Tryz.underlying40 G1.out G2.out G3.out .i64 .i64 _ _ tn rfl rfl (by simp) (by simp) (by rw [G4.out]; omega) (by unfold maxLen; omega) (by omega) ?_; intro w3 hown3 hg3; have hb3 : Below wr.heap.size wr w3 := (Below.refl _ _).grown hg3 (Nat.le_refl _) (by intro k hk; cases hk); have HB3 := Lib.hid (HB.out.trans (hb3.mono (by omega))); have HOW3 := Lib.hid (own_below HOW.out hb3); have HO3 : Hid (w3.ownsRow (s + 2) 3 1 (.slice (some ⟨wr.heap.size, 0, none⟩) tn tn) tn ((List.replicate tn (0 : Int)).map (.int .i64))) := Lib.hid (by rw [made_intsP] at hown3; exact hown3); clear hown3 hg3 hb3)
  rw [HGN.out] at HO3
  try rw [HGN.out]
  clear HB HOW G1 G2 G3 G4 i0
  obtain ⟨T, hT⟩ : ∃ g, w3.heap.size = g := ⟨_, rfl⟩
  have hNT : gN < T := by rw [← hT]; exact (HO3.out.lt gN rfl).2
  obtain ⟨W4, hW4⟩ : ∃ W, w3.alloc (.cells #[.slice none 0 0] 27) = W := ⟨_, rfl⟩
  have hb4 : Below w3.heap.size w3 W4 := by rw [← hW4]; exact (Below.refl _ _).alloc (Nat.le_refl _) _
  have hr4 : W4.heap[T]? = some (.cells #[.slice none 0 0] 27) := by rw [← hW4]; exact new_at' _ _ hT.symm
  have HS4 : Hid (PrnS W4 s T g gN tn (.slice none 0 0) ms (List.replicate tn 0) []) := Lib.hid ⟨own_below HOW3.out hb4, own_below HO3.out hb4, ⟨by rw [cell_of_row _ _ _ _ _ _ hr4]; rfl, fun o => by simp only [World.frozen?, hr4]; simp, [], World.ownsRow_nil _ _ _ _, rfl, by simp⟩, hsg, hgl, hNT⟩
  have HB4 : Hid (Below (s + 2) W1 W4) := Lib.hid (HB3.out.trans (hb4.mono (by omega)))
  have HR0 : Hid ([] ++ renGo (ts.drop 0) (ms.drop 0) (List.replicate tn 0) 0 0 = R) := Lib.hid (by rw [List.nil_append, HTN.out]; exact HR.out)
  have HT := Lib.hid hT
  have HW4 := Lib.hid hW4
  have HI5 := Lib.hid (show (Tryz.prog.info? 42).map (fun i => (i.zero, i.size, i.bytes)) = some (some (.agg #[.slice none 0 0, .int .i64 0, .int .i64 0, .slice none 0 0, .int .i64 0]), 5, 72) by kernel_rfl)
  have ct4 := below_c HB4.out (by omega) t0
  clear hT hW4 hb4 hr4 HO3 HOW3 HB3 HR
  go_upto_region 26 with fail
  try rw [HW4.out, HT.out]
  go_wp2_with fail
  clear HW4 ct4
  go_loopg [87] tn (fun gg u87 wx => ∃ (k : Nat) (nm : List Int) (xs : List Claim) (on : Nat) (oa : Option Addr) (oc : Nat), k + gg = tn ∧ u87 = .int .i64 k ∧ Hid (on = xs.length) ∧ on ≤ k ∧ Hid (xs ++ renGo (ts.drop k) (ms.drop k) nm k on = R) ∧ Hid (PrnS wx s T g gN tn (.slice oa on oc) ms nm xs) ∧ Hid (Below (s + 2) W1 wx) ∧ Hid (∀ x ∈ nm, I64 x))
  case atStart => exact ⟨0, _, [], 0, none, 0, by omega, rfl, Lib.hid rfl, by omega, HR0, HS4, HB4, Lib.hid fun x hx => by rw [List.mem_replicate] at hx; rw [hx.2]; unfold I64; omega⟩
  case round =>
  clear HR0 HS4 HB4
  obtain ⟨k, nm, xs, on, oa, oc, hkg, rfl, HON, hok, HRK, HST, HB, HNM⟩ := hrel
  have hwz := HB.out.size
  by_cases hk : k < tn
  case neg =>
    obtain rfl : k = tn := by omega
    have hdk : decide ((k : Int) < k) = false := by simp
    have hdk' : decide (k < k) = false := decide_eq_false (by omega)
    have hxs : xs = R := by
      have h := HRK.out
      rw [List.drop_eq_nil_of_le (by rw [HTN.out]; exact Nat.le_refl _)] at h
      rw [renGo] at h
      · simpa using h
      · intro c r m mr h1; cases h1
    subst hxs
    have q0 := HST.out.out.1
    have j0 := below_c HB.out (by omega) e0
    have jf0 : wr.frozen? ⟨s + 1, 0, none⟩ = false := below_z HB.out (by omega) (HEF.out 0)
    have HRES : Hid (TrcPost w xs (.returned (.agg #[.slice oa on oc])) (wr.setCell ⟨s + 1, 0, none⟩ (.slice oa on oc))) := Lib.hid (by
      refine ⟨_, rfl, ?_, ?_⟩
      · have hlt := HST.out.lt
        exact ((HST.out.out.claims (by rw [← HON.out]; omega)).move fun b hb _ => Below.heap_setCell _ _ _ _ (by show b ≠ s + 1; omega)).mono fun _ _ => trivial
      · have := HB1.out.trans (HB.out.mono (by rw [HS.out]; omega))
        exact this.setCell (by rw [HS.out]; exact Nat.le_succ s) _)
    clear HB HST HRK HON hok
    go_wp2_with fail
    refine bodyPost_ret (v := .agg #[.slice oa on oc]) (by simp [results, Tryz.results7, go_sem, set_eq j0]) rfl ?_
    rw [HPR.out]
    exact HRES.out
  have hdk : decide ((k : Int) < tn) = true := by simp; omega
  have hdk' : decide (k < tn) = true := decide_eq_true hk
  have hk0 : (0 : Int) ≤ k := by omega
  have hkn : (k : Int) < tn := by omega
  have HXR : Hid (Claims (fun b => b < s) wr (.slice ta tn tc) ts) := Lib.hid (HX.out.move fun b hb _ => HB.out.block b (by omega))
  obtain ⟨c, hc⟩ : ∃ c, ts[k]? = some c := ⟨_, List.getElem?_eq_getElem (by rw [← HTN.out]; exact hk)⟩
  have hcg : ts.getD k clNil = c := by rw [List.getD_eq_getElem?_getD, hc]; rfl
  have HKP : Hid (∀ x ∈ c.kids, 0 ≤ x ∧ x < (k : Int)) := Lib.hid (by have := HKD.out k (by rw [← HTN.out]; exact hk); rw [hcg] at this; exact this)
  obtain ⟨xb, xo, xcv, xkv, rfl, _, hxb, m0, m1, m2, m3, m4, hcv⟩ := HXR.out.at hc
  have hxc : Clss (fun b => b < s) wr xcv c.cls := hcv.1.1
  have hxk : Ints (fun b => b < s) wr xkv c.kids := hcv.1.2.2.2.1
  obtain ⟨xa, xn, xc, rfl, _, _⟩ := hxc.form'
  obtain ⟨ya, yn, yc, rfl, HYN, _⟩ := hxk.form'
  obtain ⟨mk, hmk, oc1, of1, og1, og2, _⟩ := own_at Value.bool HST.out.marks hk
  obtain ⟨L, hL⟩ : ∃ g, wr.heap.size = g := ⟨_, rfl⟩
  obtain ⟨W2, hW2⟩ : ∃ W, wr.alloc (.cells #[.slice xa xn xc, .int .i64 c.rule, .int .i64 c.lit, .slice ya yn yc, .int .i64 c.count] 42) = W := ⟨_, rfl⟩
  have hb2 : Below wr.heap.size wr W2 := by rw [← hW2]; exact (Below.refl _ _).alloc (Nat.le_refl _) _
  have hr : W2.heap[L]? = some (.cells #[.slice xa xn xc, .int .i64 c.rule, .int .i64 c.lit, .slice ya yn yc, .int .i64 c.count] 42) := by rw [← hW2]; exact new_at' _ _ hL.symm
  have l0 : W2.cell? ⟨L, 0, none⟩ = some (.slice xa xn xc) := by rw [cell_of_row _ _ _ _ _ _ hr]; rfl
  have l1 : W2.cell? ⟨L, 1, none⟩ = some (.int .i64 c.rule) := by rw [cell_of_row _ _ _ _ _ _ hr]; rfl
  have l2 : W2.cell? ⟨L, 2, none⟩ = some (.int .i64 c.lit) := by rw [cell_of_row _ _ _ _ _ _ hr]; rfl
  have l3 : W2.cell? ⟨L, 3, none⟩ = some (.slice ya yn yc) := by rw [cell_of_row _ _ _ _ _ _ hr]; rfl
  have l4 : W2.cell? ⟨L, 4, none⟩ = some (.int .i64 c.count) := by rw [cell_of_row _ _ _ _ _ _ hr]; rfl
  have hs2 : W2.heap.size = L + 1 := by rw [← hW2]; simp; omega
  have HST2 := Lib.hid (HST.out.below hb2)
  have HB2 : Hid (Below (s + 2) W1 W2) := Lib.hid (HB.out.trans (hb2.mono (by omega)))
  have HCV := Lib.hid (hcv.below hb2)
  have HXK := Lib.hid (hxk.below hb2)
  have oc2 := below_c hb2 og2 oc1
  have HRK2 : Hid (xs ++ (if mk = true then renC (nm.set k (on : Int)) c :: renGo (ts.drop (k + 1)) (ms.drop (k + 1)) (nm.set k on) (k + 1) (on + 1) else renGo (ts.drop (k + 1)) (ms.drop (k + 1)) nm (k + 1) on) = R) := Lib.hid (by
    have h := HRK.out
    rw [List.drop_eq_getElem_cons (by rw [← HTN.out]; exact hk), List.drop_eq_getElem_cons (l := ms) (by rw [HML2.out]; exact hk), (List.getElem?_eq_some_iff.1 hc).2, (List.getElem?_eq_some_iff.1 hmk).2, renGo] at h
    exact h)
  have HSC := Lib.hid (HSZ.out c (List.mem_of_getElem? hc))
  have HL := Lib.hid hL
  have HW2 := Lib.hid hW2
  have hTL : T < L := by rw [← hL]; exact block_lt HST.out.out.1
  have htl := HST.out.lt
  obtain ⟨GK, hGK⟩ : ∃ G, G = gk := ⟨_, rfl⟩
  subst hGK
  clear hc hcg hcv hxc hxk hmk oc1 of1 hb2 hr hL hW2 HXR HRK HST HB
  go_upto_region 29 with fail
  try rw [HW2.out, HL.out]
  clear HW2 m0 m1 m2 m3 m4
  rcases bool2 mk with rfl | rfl
  rotate_left
  · have HRK3 : Hid (xs ++ renGo (ts.drop (k + 1)) (ms.drop (k + 1)) nm (k + 1) on = R) := Lib.hid (by have h := HRK2.out; rw [if_neg (by simp)] at h; exact h)
    clear HRK2
    go_wp2_with fail
    go_roundg (GK - 1)
    case measure => omega
    case rel => exact ⟨k + 1, nm, xs, on, oa, oc, by omega, by go_num, HON, by omega, HRK3, HST2, HB2, HNM⟩
  have HRK3 : Hid ((xs ++ [renC (nm.set k (on : Int)) c]) ++ renGo (ts.drop (k + 1)) (ms.drop (k + 1)) (nm.set k on) (k + 1) (on + 1) = R) := Lib.hid (by have h := HRK2.out; rw [if_pos rfl] at h; rw [List.append_assoc]; exact h)
  obtain ⟨_, _, nc, nf, _, nl, _⟩ := own_at (Value.int .i64) HST2.out.nums hk
  have HNM2 : Hid (∀ x ∈ nm.set k (on : Int), I64 x) := Lib.hid fun x hx => by
    rcases List.mem_or_eq_of_mem_set hx with h | h
    · exact HNM.out x h
    · rw [h]; unfold I64; omega
  have HNI : Hid (∀ j : Nat, I64 ((nm.set k (on : Int)).getD j 0)) := Lib.hid fun j => by
    rw [List.getD_eq_getElem?_getD]
    rcases hq : (nm.set k (on : Int))[j]? with _ | y
    · show I64 0; unfold I64; omega
    · exact HNM2.out y (List.mem_of_getElem? hq)
  have tc0 := HST2.out.out.1
  obtain ⟨W3, hW3⟩ : ∃ W, W2.setCell ⟨gN, k, none⟩ (.int .i64 on) = W := ⟨_, rfl⟩
  have HST3 : Hid (PrnS W3 s T g gN tn (.slice oa on oc) ms (nm.set k on) xs) := Lib.hid (by rw [← hW3]; exact HST2.out.setN hk on)
  have hb3 : Below (s + 2) W2 W3 := by rw [← hW3]; exact (Below.refl _ _).setCell (by omega) _
  have HB3 : Hid (Below (s + 2) W1 W3) := Lib.hid (HB2.out.trans hb3)
  have hm3 : ∀ b, b ≠ gN → W3.heap[b]? = W2.heap[b]? := fun b hb => by rw [← hW3]; exact Below.heap_setCell _ _ _ _ hb
  have n0 : W3.cell? ⟨L, 0, none⟩ = some (.slice xa xn xc) := (World.cell?_of_block (hm3 L (by omega))).trans l0
  have n1 : W3.cell? ⟨L, 1, none⟩ = some (.int .i64 c.rule) := (World.cell?_of_block (hm3 L (by omega))).trans l1
  have n2 : W3.cell? ⟨L, 2, none⟩ = some (.int .i64 c.lit) := (World.cell?_of_block (hm3 L (by omega))).trans l2
  have n3 : W3.cell? ⟨L, 3, none⟩ = some (.slice ya yn yc) := (World.cell?_of_block (hm3 L (by omega))).trans l3
  have n4 : W3.cell? ⟨L, 4, none⟩ = some (.int .i64 c.count) := (World.cell?_of_block (hm3 L (by omega))).trans l4
  have hs3 : W3.heap.size = L + 1 := by rw [← hW3]; simpa using hs2
  have hcv3 : ClaimV (fun b => b < s) W3 (.slice xa xn xc, .int .i64 c.rule, .int .i64 c.lit, .slice ya yn yc, .int .i64 c.count) c := HCV.out.move fun b hb _ => hm3 b (by omega)
  have HTC := Lib.hid (tclaim_any _ _ _ c W3 hcv3 HSC.out)
  have HXK3 : Hid (Ints (fun b => b < s) W3 (.slice ya yn yc) c.kids) := Lib.hid hcv3.1.2.2.2.1
  have HIC := Lib.hid hcv3.2
  have HW3 := Lib.hid hW3
  clear hcv3 hm3 hb3 hW3 HB2 HCV HXK HRK2 HST2 l0 l1 l2 l4
  go_upto_region 31 with fail
  try rw [HW3.out]
  clear HW3 nc nf tc0 l3 oc2
  go_wp2_with fail
  refine HTC.out.mono ?_
  rintro e w4 ⟨dv, ev, rfl, hdc, hek, hb4⟩
  obtain ⟨da, dn, dc, rfl, _, _⟩ := hdc.form'
  obtain ⟨ea, ec, rfl⟩ := own_form hek
  rw [← HYN.out] at hdc hek ⊢
  have r3 := below_c hb4 (by omega) n3
  obtain ⟨D, hD⟩ : ∃ g, w4.heap.size = g := ⟨_, rfl⟩
  obtain ⟨W5, hW5⟩ : ∃ W, w4.alloc (.cells #[.slice da dn dc, .int .i64 c.rule, .int .i64 c.lit, .slice ea yn ec, .int .i64 c.count] 42) = W := ⟨_, rfl⟩
  have hb5 : Below w4.heap.size w4 W5 := by rw [← hW5]; exact (Below.refl _ _).alloc (Nat.le_refl _) _
  have hr5 : W5.heap[D]? = some (.cells #[.slice da dn dc, .int .i64 c.rule, .int .i64 c.lit, .slice ea yn ec, .int .i64 c.count] 42) := by rw [← hW5]; exact new_at' _ _ hD.symm
  have hb45 : Below W3.heap.size W3 W5 := hb4.trans (hb5.mono hb4.size)
  have HD5 : Hid (DClm (fun b => L + 1 ≤ b) W5 (L + 1) D (.slice da dn dc) (.slice ea yn ec) c c.kids) := Lib.hid (by
    have h1 : Clss (fun b => L + 1 ≤ b ∧ (Value.slice ea yn ec).ownBlock ≠ some b) w4 (.slice da dn dc) c.cls := by rw [hs3] at hdc; exact hdc
    have h2 := hek
    rw [hs3] at h2
    exact ⟨by rw [cell_of_row _ _ _ _ _ _ hr5]; rfl, by rw [cell_of_row _ _ _ _ _ _ hr5]; rfl, by rw [cell_of_row _ _ _ _ _ _ hr5]; rfl, by rw [cell_of_row _ _ _ _ _ _ hr5]; rfl, by rw [cell_of_row _ _ _ _ _ _ hr5]; rfl, Clss.below h1 hb5, by rw [← HYN.out]; exact own_below h2 hb5, fun e => by have := (h2.lt D e).2; omega⟩)
  have HF5 : Hid (Below (L + 1) W3 W5) := Lib.hid (by rw [← hs3]; exact hb45)
  have HB5 : Hid (Below (s + 2) W1 W5) := Lib.hid (HB3.out.trans (hb45.mono (by omega)))
  have s3 : W5.cell? ⟨L, 3, none⟩ = some (.slice ya yn yc) := below_c hb45 (by omega) n3
  have HYS : Hid (c.kids = (c.kids.take 0).map (fun x : Int => (nm.set k (on : Int)).getD x.toNat 0) ++ c.kids.drop 0) := Lib.hid (by simp)
  have HW5 := Lib.hid hW5
  have HDD := Lib.hid hD
  have HS3 := Lib.hid hs3
  clear hdc hek hb4 hb5 hr5 hb45 hW5 hD hs3 hs2 HTC n0 n1 n2 n3 n4
  go_upto_region 32 with fail
  try rw [HW5.out, HDD.out]
  clear HW5 r3
  go_wp2_with fail
  go_loopg [108] yn (fun gg u108 wx => ∃ (j : Nat) (ys : List Int), j + gg = yn ∧ u108 = .int .i64 j ∧ Hid (ys = (c.kids.take j).map (fun x : Int => (nm.set k (on : Int)).getD x.toNat 0) ++ c.kids.drop j) ∧ Hid (DClm (fun b => L + 1 ≤ b) wx (L + 1) D (.slice da dn dc) (.slice ea yn ec) c ys) ∧ Hid (Below (L + 1) W3 wx) ∧ Hid (Below (s + 2) W1 wx))
  case atStart => exact ⟨0, _, by omega, rfl, HYS, HD5, HF5, HB5⟩
  case round =>
  clear HD5 HF5 HB5 HYS s3
  obtain ⟨j, ys, hjg, rfl, HYS, HDC, HF, HB⟩ := hrel
  have hyl : ys.length = yn := by
    rw [HYS.out, List.length_append, List.length_map, List.length_take, List.length_drop, ← HYN.out]
    omega
  have HYL := Lib.hid hyl
  have d0 := HDC.out.c0
  have d1 := HDC.out.c1
  have d2 := HDC.out.c2
  have d3 := HDC.out.c3
  have d4 := HDC.out.c4
  have HSTX : Hid (PrnS wr s T g gN tn (.slice oa on oc) ms (nm.set k on) xs) := Lib.hid (HST3.out.below (by rw [HS3.out]; exact HF.out))
  clear hyl
  by_cases hj : j < yn
  · have hdj : decide ((j : Int) < yn) = true := by simp; omega
    have hdj' : decide (j < yn) = true := decide_eq_true hj
    have hj0 : (0 : Int) ≤ j := by omega
    have hjn : (j : Int) < yn := by omega
    obtain ⟨x, hxj⟩ : ∃ x, c.kids[j]? = some x := ⟨_, List.getElem?_eq_getElem (by rw [← HYN.out]; exact hj)⟩
    obtain ⟨hx0, hxp⟩ := HKP.out x (List.mem_of_getElem? hxj)
    obtain ⟨q, rfl⟩ : ∃ q : Nat, x = q := ⟨x.toNat, by omega⟩
    obtain ⟨zb, zo, rfl, _, hzb, hzc, hx64⟩ := (HXK3.out.move fun b hb _ => HF.out.block b (by omega)).at hxj
    have hq : q < tn := by omega
    have hqn : (q : Int) < tn := by omega
    have hq0 : (0 : Int) ≤ q := by omega
    obtain ⟨y, hy, nc2, nf2, _, nl2, _⟩ := own_at (Value.int .i64) HSTX.out.nums hq
    obtain ⟨kb, rfl⟩ : ∃ kb, ea = some ⟨kb, 0, none⟩ := by
      rcases HDC.out.kids.2 with ⟨e, h0⟩ | ⟨g, cap, cur, e, _⟩
      · rw [HYL.out] at h0; omega
      · injection e with e1 e2 e3
        exact ⟨g, e1⟩
    have hkk := HDC.out.kids
    rw [HYL.out] at hkk
    obtain ⟨y0, hy0, kc, kf, kl, ku, _⟩ := own_at (Value.int .i64) hkk hj
    have hyv : (nm.set k (on : Int)).getD (q : Int).toNat 0 = y := by rw [List.getD_eq_getElem?_getD, Int.toNat_natCast, hy]; rfl
    have HYS2 : Hid (ys.set j y = (c.kids.take (j + 1)).map (fun x : Int => (nm.set k (on : Int)).getD x.toNat 0) ++ c.kids.drop (j + 1)) := Lib.hid (by
      rw [HYS.out, ← hyv]
      exact ren_step (f := fun x : Int => (nm.set k (on : Int)).getD x.toNat 0) hxj)
    have HDC2 : Hid (DClm (fun b => L + 1 ≤ b) (wr.setCell ⟨kb, j, none⟩ (.int .i64 y)).drew (L + 1) D (.slice da dn dc) (.slice (some ⟨kb, 0, none⟩) yn ec) c (ys.set j y)) := Lib.hid ((HDC.out.set HYL.out.symm hj y).below (Below.refl _ _).drew)
    have HF2 : Hid (Below (L + 1) W3 (wr.setCell ⟨kb, j, none⟩ (.int .i64 y)).drew) := Lib.hid (HF.out.setCell kl _).drew
    have HB2 : Hid (Below (s + 2) W1 (wr.setCell ⟨kb, j, none⟩ (.int .i64 y)).drew) := Lib.hid (HB.out.setCell (show s + 2 ≤ kb by omega) _).drew
    clear hxj hy hy0 hkk hyv HYS HDC HF HB HSTX hx64
    go_upto_region 35 with fail
    go_region
    all_goals (try rw [World.setCell_drew])
    all_goals go_wp2_with fail
    all_goals go_roundg (gk - 1)
    case measure => omega
    case rel => exact ⟨j + 1, _, by omega, by go_num, HYS2, HDC2, HF2, HB2⟩
  obtain rfl : yn = j := by omega
  have hdj : decide ((yn : Int) < yn) = false := by simp
  have hdj' : decide (yn < yn) = false := decide_eq_false (by omega)
  have HYR : Hid (ys = (renC (nm.set k (on : Int)) c).kids) := Lib.hid (by
    rw [HYS.out, List.take_of_length_le (by rw [HYN.out]; exact Nat.le_refl _), List.drop_eq_nil_of_le (by rw [HYN.out]; exact Nat.le_refl _), List.append_nil]
    rfl)
  have HRV : Hid (ClaimV (fun b => (b < s ∨ T + 1 ≤ b) ∧ (Value.slice oa on oc).ownBlock ≠ some b) wr (.slice da dn dc, .int .i64 c.rule, .int .i64 c.lit, .slice ea yn ec, .int .i64 c.count) (renC (nm.set k (on : Int)) c)) := Lib.hid (by
    obtain ⟨_, _, us', ho', _⟩ := HST3.out.out
    have hlo : ∀ b, (Value.slice oa on oc).ownBlock = some b → b < L + 1 := fun b e => by have := (ho'.lt b e).2; rw [HS3.out] at this; exact this
    refine ⟨⟨Rows1.mono (fun _ _ _ _ _ h hg => h.mono hg) HDC.out.cls fun b hb => ⟨.inr (by have := hb.1; omega), fun e => by have := hlo b e; have := hb.1; omega⟩, rfl, rfl, ⟨?_, ?_⟩, rfl⟩, HIC.out⟩
    · show Sl1 _ wr (.slice ea yn ec) ((renC (nm.set k (on : Int)) c).kids.map (.int .i64))
      rw [← HYR.out]
      have h := ownsRow_sl1 HDC.out.kids (by rw [HYL.out]; have := HSC.out.2.2; rw [HYN.out]; omega)
      exact h.mono fun b hb => ⟨.inr (by have := hb.1; omega), fun e => by have := hlo b e; have := hb.1; omega⟩
    · intro x hx
      obtain ⟨y, _, rfl⟩ := List.mem_map.1 hx
      exact HNI.out _)
  obtain ⟨tc0, tf, us5, ho1, ho2, ho3⟩ := HSTX.out.out
  rw [← HON.out] at ho1
  have hown := ho1
  have tf0 := tf 0
  have hTs := block_lt tc0
  have HNE : Hid (some T ≠ (Value.slice oa on oc).ownBlock) := Lib.hid fun e => by have := (ho1.lt T e.symm).1; omega
  have HOL : Hid (∀ b, (Value.slice oa on oc).ownBlock = some b → T + 1 ≤ b) := Lib.hid fun b e => (ho1.lt b e).1
  have HO1 := Lib.hid ho1
  have HO2 := Lib.hid ho2
  have HO3 := Lib.hid ho3
  clear ho1 ho2 ho3 tf HDC HF HYS HYR HYL
  go_upto_region 37 with fail
  go_wp2_with (at_builtin; go_loud (refine wpList_push5t rfl _ _ 25 rfl 42 (.agg #[.slice none 0 0, .int .i64 0, .int .i64 0, .slice none 0 0, .int .i64 0]) 72 Tryz.underlying25 HI5.out rfl (T + 1) (.slice oa on oc) on (cells5 us5) wr (.slice da dn dc) (.int .i64 c.rule) (.int .i64 c.lit) (.slice ea yn ec) (.int .i64 c.count) rfl rfl hown rfl rfl rfl rfl rfl (by omega) (by omega) hTs ?_); intro g7 cap7 w7 hown7 hg7 hs7 hgb hgl7 hat; have ef : w7.frozen? ⟨T, 0, none⟩ = false := (World.frozen?_of_block (a := ⟨T, 0, none⟩) (hg7.block T hTs HNE.out)).trans tf0; have e2 := grown_c2 hg7 HNE.out tc0; have HB7 : Hid (Below (s + 2) W1 w7) := Lib.hid (HB.out.grown hg7 (by omega) (fun b hb => by have := HOL.out b hb; omega)); have HS7 : Hid (PrnS (w7.setCell ⟨T, 0, none⟩ (.slice (some ⟨g7, 0, none⟩) (on + 1) cap7)) s T g gN tn (.slice (some ⟨g7, 0, none⟩) (on + 1) cap7) ms (nm.set k on) (xs ++ [renC (nm.set k (on : Int)) c])) := Lib.hid (HSTX.out.push HON.out HO1.out HO2.out HO3.out HRV.out hown7 hg7 hat); clear hown7 hg7 hat hown hgb hgl7 hs7)
  have HB8 : Hid (Below (s + 2) W1 (w7.setCell ⟨T, 0, none⟩ (.slice (some ⟨g7, 0, none⟩) (on + 1) cap7))) := Lib.hid (HB7.out.setCell (show s + 2 ≤ T by omega) _)
  go_roundg (GK - 1)
  case measure => omega
  case rel => exact ⟨k + 1, _, _, _, _, _, by omega, by go_num, Lib.hid (by rw [HON.out]; simp), by omega, HRK3, HS7, HB8, HNM2⟩
end Go.Proofs.YtpikkkiepafelaaGreat

