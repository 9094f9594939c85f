/- (Trace seat) Walk: pruned, of the statements. No condition but the sizes. -/
import Derived.Test.YtpikkkiepafelaaGreatPu
namespace Go.Proofs.YtpikkkiepafelaaGreat
open Go.ChangeShapes Go.WideShapes Go.ChangeAt Go.RowKit
set_option linter.unusedVariables false
set_option linter.unusedSimpArgs false

theorem DClm.push {F : Nat → Prop} {w w' : World} {B D g cap n : Nat} {dv ev : Value} {c : Claim} {ys : List Int} {y : Int} (h : DClm F w B D dv ev c ys) (hn : n = ys.length) (hF : ∀ b, F b → b ≠ D)
    (hown : w'.ownsRow B 3 1 (.slice (some ⟨g, 0, none⟩) (n + 1) cap) (n + 1) (ys.map (.int .i64) ++ [.int .i64 y])) (hg : w.grownBy w' ev.ownBlock) (hat : ev.ownBlock = some g ∨ w.heap.size ≤ g) :
    DClm F (w'.setCell ⟨D, 3, none⟩ (.slice (some ⟨g, 0, none⟩) (n + 1) cap)) B D dv (.slice (some ⟨g, 0, none⟩) (n + 1) cap) c (ys ++ [y]) := by
  subst hn
  have hl := block_lt h.c0
  have hne : some D ≠ ev.ownBlock := fun e => h.apart e.symm
  have hgD : g ≠ D := fun e => by
    subst e
    rcases hat with h1 | h1
    · exact h.apart h1
    · omega
  refine ⟨set_ne (by omega) (grown_c2 hg hne h.c0), set_ne (by omega) (grown_c2 hg hne h.c1), set_ne (by omega) (grown_c2 hg hne h.c2), set_eq (grown_c2 hg hne h.c3), set_ne (by omega) (grown_c2 hg hne h.c4), ?_, ?_, fun e => hgD (by simpa [Value.ownBlock] using e)⟩
  · have h1 : Clss (fun b => b < w.heap.size ∧ (F b ∧ ev.ownBlock ≠ some b)) w dv c.cls := by
      obtain ⟨us, h1, h2, h3⟩ := h.cls
      exact ⟨us, h1.lt.mono fun b hb => ⟨hb.2, hb.1⟩, h2, fun j u x hu hx => ((h3 j u x hu hx).lt).mono fun b hb => ⟨hb.2, hb.1⟩⟩
    refine Rows1.mono (fun _ _ _ _ _ h hg => h.mono hg) (Rows1.move (fun _ _ _ _ _ h hm => h.move hm) h1 fun b hb hlt => ?_) fun b hb => ⟨hb.2.1, ?_⟩
    · exact (Below.heap_setCell _ _ _ _ (show b ≠ D from hF b hb.2.1)).trans (hg.block b hb.1 fun e => hb.2.2 e.symm)
    · simp only [Value.ownBlock]
      intro e
      injection e with e
      subst e
      rcases hat with h1 | h1
      · exact hb.2.2 h1
      · have := hb.1; omega
  · rw [List.length_append, List.map_append]
    exact own_same hown fun b e => Below.heap_setCell _ _ _ _ (by have e' : g = b := (by simpa [Value.ownBlock] using e); show b ≠ D; omega)

set_option maxRecDepth 100000 in
set_option maxHeartbeats 32000000 in
theorem pruned_any (tv : Value) (ts : List Claim) (w : World) (hx : Claims (fun _ => True) w tv ts) (hsz : ∀ c ∈ ts, SzC c) (hl : ts.length ≤ 4000) :
    Calls Tryz.prog 9 #[.agg #[tv]] w (TrcPost w (prnM ts)) := by
  obtain ⟨ta, tn, tc, rfl, HTN, htn⟩ := hx.form
  obtain ⟨s, hs⟩ : ∃ b, w.heap.size = b := ⟨_, rfl⟩
  obtain ⟨W1, hW1⟩ : ∃ W, (w.alloc (.cells #[.slice ta tn tc] 27)).alloc (.cells #[.slice none 0 0] 27) = W := ⟨_, rfl⟩
  have hb1 : Below w.heap.size w W1 := by rw [← hW1]; exact ((Below.refl _ _).alloc (Nat.le_refl _) _).alloc (by simp) _
  have hs1 : W1.heap.size = s + 2 := by rw [← hW1]; simp; omega
  have hr0 : W1.heap[s]? = some (.cells #[.slice ta tn tc] 27) := by rw [← hW1]; exact old_at _ _ _ (new_at' _ _ hs.symm)
  have hr1 : W1.heap[s + 1]? = some (.cells #[.slice none 0 0] 27) := by rw [← hW1]; exact new_at' _ _ (by simp; omega)
  have t0 : W1.cell? ⟨s, 0, none⟩ = some (.slice ta tn tc) := by rw [cell_of_row _ _ _ _ _ _ hr0]; rfl
  have e0 : W1.cell? ⟨s + 1, 0, none⟩ = some (.slice none 0 0) := by rw [cell_of_row _ _ _ _ _ _ hr1]; rfl
  have HEF : Hid (∀ o, W1.frozen? ⟨s + 1, o, none⟩ = false) := Lib.hid fun o => by simp only [World.frozen?, hr1]; simp
  have HX : Hid (Claims (fun b => b < s) W1 (.slice ta tn tc) ts) := Lib.hid (by rw [← hs]; exact hx.lt'.below hb1)
  have HB1 := Lib.hid hb1
  have HW1 := Lib.hid hW1
  have HS := Lib.hid hs
  have HS1 := Lib.hid hs1
  have HSZ := Lib.hid hsz
  have hn4 : tn ≤ 4000 := by rw [HTN.out]; exact hl
  obtain ⟨O, hO⟩ : ∃ O, okGo ts 0 = O := ⟨_, rfl⟩
  have HOK := Lib.hid hO
  have HO0 : Hid (okGo (ts.drop 0) 0 = O) := Lib.hid hO
  have HB0 : Hid (Below (s + 2) W1 W1) := Lib.hid (Below.refl _ _)
  have hlt0 : s + 2 ≤ W1.heap.size := by omega
  clear hx hsz hl hb1 hs1 hr0 hr1 hW1 hs hO
  go_enter Tryz.func9, Tryz.ntmps9
  go_upto_region 1 with fail
  try rw [HW1.out, HS.out]
  go_wp2_with fail
  go_loopg [25] tn (fun gg u25 wx => ∃ k : Nat, k + gg = tn ∧ u25 = .int .i64 k ∧ Hid (Below (s + 2) W1 wx) ∧ Hid (okGo (ts.drop k) k = O))
  case atStart => exact ⟨0, by omega, rfl, HB0, HO0⟩
  case round =>
  clear HO0 HB0
  obtain ⟨k, hkg, rfl, HB, HO⟩ := hrel
  have hwz := HB.out.size
  have HXR : Hid (Claims (fun b => b < s) wr (.slice ta tn tc) ts) := Lib.hid (HX.out.move fun b hb _ => HB.out.block b (by omega))
  by_cases hk : k < tn
  · have hdk : decide ((k : Int) < tn) = true := by simp; omega
    have hdk' : decide (k < tn) = true := decide_eq_true hk
    have hk0 : (0 : Int) ≤ k := by omega
    have hkn : (k : Int) < tn := by omega
    obtain ⟨c, hc⟩ : ∃ c, ts[k]? = some c := ⟨_, List.getElem?_eq_getElem (by rw [← HTN.out]; exact hk)⟩
    obtain ⟨xb, xo, xcv, xkv, rfl, _, hxb, m0, m1, m2, m3, m4, hcv⟩ := HXR.out.at hc
    have hxc : Clss (fun b => b < s) wr xcv c.cls := hcv.1.1
    have hxk : Ints (fun b => b < s) wr xkv c.kids := hcv.1.2.2.2.1
    obtain ⟨xa, xn, xc, rfl, _, _⟩ := hxc.form'
    obtain ⟨ya, yn, yc, rfl, HYN, _⟩ := hxk.form'
    obtain ⟨L, hL⟩ : ∃ g, wr.heap.size = g := ⟨_, rfl⟩
    obtain ⟨W2, hW2⟩ : ∃ W, wr.alloc (.cells #[.slice xa xn xc, .int .i64 c.rule, .int .i64 c.lit, .slice ya yn yc, .int .i64 c.count] 42) = W := ⟨_, rfl⟩
    have hb2 : Below wr.heap.size wr W2 := by rw [← hW2]; exact (Below.refl _ _).alloc (Nat.le_refl _) _
    have hr : W2.heap[L]? = some (.cells #[.slice xa xn xc, .int .i64 c.rule, .int .i64 c.lit, .slice ya yn yc, .int .i64 c.count] 42) := by rw [← hW2]; exact new_at' _ _ hL.symm
    have l3 : W2.cell? ⟨L, 3, none⟩ = some (.slice ya yn yc) := by rw [cell_of_row _ _ _ _ _ _ hr]; rfl
    have HB2 : Hid (Below (s + 2) W1 W2) := Lib.hid (HB.out.trans (hb2.mono (by omega)))
    have HXK := Lib.hid (hxk.below hb2)
    obtain ⟨B, hB⟩ : ∃ B, badAt k c = B := ⟨_, rfl⟩
    have HBD : Hid (((c.kids.drop 0).any fun x => decide (x < 0) || decide ((k : Int) ≤ x)) = B) := Lib.hid hB
    have HON : Hid (O = if B = true then false else okGo (ts.drop (k + 1)) (k + 1)) := Lib.hid (by rw [← HO.out, List.drop_eq_getElem_cons (by rw [← HTN.out]; exact hk), okGo, (List.getElem?_eq_some_iff.1 hc).2, hB])
    have HL := Lib.hid hL
    have HW2 := Lib.hid hW2
    obtain ⟨GK, hGK⟩ : ∃ G, G = gk := ⟨_, rfl⟩
    subst hGK
    clear hc hcv hxc hxk hb2 hr hL hW2 hB HO HB
    go_upto_region 5 with fail
    try rw [HW2.out, HL.out]
    clear HW2 m0 m1 m2 m3 m4
    go_wp2_with fail
    go_loopg [33] yn (fun gg u33 wx => ∃ j : Nat, j + gg = yn ∧ u33 = .int .i64 j ∧ wx = W2 ∧ Hid (((c.kids.drop j).any fun x => decide (x < 0) || decide ((k : Int) ≤ x)) = B))
    case atStart => exact ⟨0, by omega, rfl, rfl, HBD⟩
    case round =>
    clear HBD
    obtain ⟨j, hjg, rfl, hww, HBJ⟩ := hrel
    subst hww
    by_cases hj : j < yn
    case neg =>
      obtain rfl : yn = j := by omega
      have hdj : decide ((yn : Int) < yn) = false := by simp
      have hdj' : decide (yn < yn) = false := decide_eq_false (by omega)
      have hbf : B = false := by rw [← HBJ.out, List.drop_eq_nil_of_le (by rw [HYN.out]; exact Nat.le_refl _)]; rfl
      have HON2 : Hid (okGo (ts.drop (k + 1)) (k + 1) = O) := Lib.hid (by rw [HON.out, if_neg (by rw [hbf]; simp)])
      clear HBJ HON hbf
      go_wp2_with fail
      go_roundg (GK - 1)
      case measure => omega
      case rel => exact ⟨k + 1, by omega, by go_num, HB2, HON2⟩
    obtain ⟨x, hxj⟩ : ∃ x, c.kids[j]? = some x := ⟨_, List.getElem?_eq_getElem (by rw [← HYN.out]; exact hj)⟩
    obtain ⟨zb, zo, rfl, _, hzb, hzc, hx64⟩ := HXK.out.at hxj
    have hdj : decide ((j : Int) < yn) = true := by simp; omega
    have hdj' : decide (j < yn) = true := decide_eq_true hj
    have hj0 : (0 : Int) ≤ j := by omega
    have hjn : (j : Int) < yn := by omega
    have HDJ : Hid (c.kids.drop j = x :: c.kids.drop (j + 1)) := Lib.hid (by rw [List.drop_eq_getElem_cons (List.getElem?_eq_some_iff.1 hxj).1, (List.getElem?_eq_some_iff.1 hxj).2])
    clear hxj
    have cp0 := below_c HB2.out (by omega) e0
    have cpt := below_c HB2.out (by omega) t0
    have cpf : wr.frozen? ⟨s + 1, 0, none⟩ = false := below_z HB2.out (by omega) (HEF.out 0)
    by_cases hbx : x < 0 ∨ (k : Int) ≤ x
    case neg =>
      have q1 : decide (x < 0) = false := decide_eq_false (by omega)
      have q2 : decide ((k : Int) ≤ x) = false := decide_eq_false (by omega)
      have HBJ2 : Hid (((c.kids.drop (j + 1)).any fun x => decide (x < 0) || decide ((k : Int) ≤ x)) = B) := Lib.hid (by rw [← HBJ.out, HDJ.out, List.any_cons, q1, q2]; rfl)
      clear HBJ HDJ hbx
      go_wp2_with fail
      go_roundg (gk - 1)
      case measure => omega
      case rel => exact ⟨j + 1, by omega, by go_num, rfl, HBJ2⟩
    have HOF : Hid (O = false) := Lib.hid (by
      have hbt : B = true := by
        rw [← HBJ.out, HDJ.out, List.any_cons]
        rcases hbx with h | h
        · rw [decide_eq_true h]; rfl
        · rw [decide_eq_true h]; simp
      rw [HON.out, if_pos hbt])
    by_cases hx0 : x < 0
    · have q1 : decide (x < 0) = true := decide_eq_true hx0
      clear HBJ HDJ hbx
      go_wp2_with fail
      refine bodyPost_ret (v := .agg #[.slice (some ⟨xb, xo, none⟩) tn tc]) (by simp [results, Tryz.results9, go_sem, set_eq cp0]) rfl ?_
      have he : prnM ts = ts := by unfold prnM; rw [if_pos (by rw [HOK.out, HOF.out])]
      rw [he]
      exact ⟨_, rfl, ((HX.out.move fun b hb _ => HB2.out.block b (by omega)).move fun b hb _ => Below.heap_setCell _ _ _ _ (by show b ≠ s + 1; omega)).mono fun _ _ => trivial, (HB1.out.trans (HB2.out.mono (by rw [HS.out]; omega))).setCell (by rw [HS.out]; exact Nat.le_succ s) _⟩
    · have q1 : decide (x < 0) = false := decide_eq_false hx0
      have q2 : decide ((k : Int) ≤ x) = true := decide_eq_true (by omega)
      clear HBJ HDJ hbx hx0
      go_wp2_with fail
      refine bodyPost_ret (v := .agg #[.slice (some ⟨xb, xo, none⟩) tn tc]) (by simp [results, Tryz.results9, go_sem, set_eq cp0]) rfl ?_
      have he : prnM ts = ts := by unfold prnM; rw [if_pos (by rw [HOK.out, HOF.out])]
      rw [he]
      exact ⟨_, rfl, ((HX.out.move fun b hb _ => HB2.out.block b (by omega)).move fun b hb _ => Below.heap_setCell _ _ _ _ (by show b ≠ s + 1; omega)).mono fun _ _ => trivial, (HB1.out.trans (HB2.out.mono (by rw [HS.out]; omega))).setCell (by rw [HS.out]; exact Nat.le_succ s) _⟩
  obtain rfl : tn = k := by omega
  have hdk : decide ((tn : Int) < tn) = false := by simp
  have hdk' : decide (tn < tn) = false := decide_eq_false (by omega)
  have hot : O = true := by rw [← HO.out, List.drop_eq_nil_of_le (by rw [HTN.out]; exact Nat.le_refl _)]; rfl
  subst hot
  have HKD : Hid (∀ j, j < ts.length → ∀ x ∈ (ts.getD j clNil).kids, 0 ≤ x ∧ x < (j : Int)) := Lib.hid (marks_ok HOK.out).kids
  obtain ⟨M, hM⟩ : ∃ M, marksM ts = M := ⟨_, rfl⟩
  have HML : Hid (M.length = ts.length) := Lib.hid (by rw [← hM]; exact (marks_ok HOK.out).len)
  obtain ⟨R, hR⟩ : ∃ R, prnM ts = R := ⟨_, rfl⟩
  have HR : Hid (renGo (ts.drop 0) (M.drop 0) (List.replicate ts.length 0) 0 0 = R) := Lib.hid (by rw [← hR, ← hM]; unfold prnM; rw [if_neg (by rw [HOK.out]; simp)]; rfl)
  have HM0 : Hid (markDn ts tn ((List.replicate tn false).set (tn - 1) true) = M) := Lib.hid (by rw [← hM, HTN.out]; rfl)
  have HPR := Lib.hid hR
  have cp0 := below_c HB.out (by omega) e0
  have cpt := below_c HB.out (by omega) t0
  have cpf : wr.frozen? ⟨s + 1, 0, none⟩ = false := below_z HB.out (by omega) (HEF.out 0)
  by_cases h0 : tn = 0
  · have ez : ((tn : Int) == 0) = true := by simp; exact h0
    have HE : Hid (prnM ts = ts) := Lib.hid (by
      have : ts = [] := List.eq_nil_of_length_eq_zero (by rw [← HTN.out]; exact h0)
      subst this
      rfl)
    clear h0 hM hR HM0
    go_wp2_with fail
    refine bodyPost_ret (v := .agg #[.slice ta tn tc]) (by simp [results, Tryz.results9, go_sem, set_eq cp0]) rfl ?_
    rw [HE.out]
    exact ⟨_, rfl, ((HX.out.move fun b hb _ => HB.out.block b (by omega)).move fun b hb _ => Below.heap_setCell _ _ _ _ (by show b ≠ s + 1; omega)).mono fun _ _ => trivial, (HB1.out.trans (HB.out.mono (by rw [HS.out]; omega))).setCell (by rw [HS.out]; exact Nat.le_succ s) _⟩
  have ez : ((tn : Int) == 0) = false := by rw [beq_eq_false_iff_ne]; omega
  obtain ⟨N, hN⟩ : ∃ N, tn = N + 1 := ⟨tn - 1, by omega⟩
  have HN := Lib.hid hN
  have hN0 : (0 : Int) ≤ N := by omega
  have hNt : (N : Int) < tn := by omega
  have hNt' : N < tn := by omega
  have hw1 : wrap64 ((tn : Int) - 1) = (N : Int) := (IntWalk.wrap64_in _ ⟨by omega, by omega⟩).trans (by omega)
  have hw1' : IntKind.i64.wrap ((tn : Int) - 1) = (N : Int) := (IntWalk.i64_in _ ⟨by omega, by omega⟩).trans (by omega)
  obtain ⟨g, hg⟩ : ∃ g, wr.heap.size = g := ⟨_, rfl⟩
  have hsg : s + 2 ≤ g := by omega
  have hinfo : (Tryz.prog.info? 4).map (fun i => (i.zero, i.size, i.bytes)) = some (some (.bool false), 1, 1) := by kernel_rfl
  obtain ⟨i0, g1, g2, g3, g4⟩ := info_parts hinfo
  have G1 := Lib.hid g1
  have G2 := Lib.hid g2
  have G3 := Lib.hid g3
  have G4 := Lib.hid g4
  have HG := Lib.hid hg
  clear hinfo g1 g2 g3 g4 hM hR hg HO HXR cp0 cpt cpf hN h0
  go_upto_region 15 with (at_make; refine wpList_make_full _ rfl _ _ 44 rfl (s + 2) 4 i0 (.bool false) 1 Tryz.underlying44 G1.out G2.out G3.out .i64 .i64 _ _ tn rfl rfl (by simp) (by simp) (by rw [G4.out]; omega) (by unfold maxLen; omega) (by omega) ?_; intro w2 hown2 hg2; have HB2 := Lib.hid (HB.out.grown hg2 (by omega) (by intro k hk; cases hk)); have HO2 : Hid (w2.ownsRow (s + 2) 4 1 (.slice (some ⟨wr.heap.size, 0, none⟩) tn tn) tn ((List.replicate tn false).map .bool)) := Lib.hid (by rw [made_bools] at hown2; exact hown2); clear hown2 hg2)
  rw [HG.out] at HO2
  try rw [HG.out]
  obtain ⟨X0, _, ob0, of0, _, _, oset0⟩ := own_at Value.bool HO2.out hNt'
  obtain ⟨W3, hW3⟩ : ∃ W, w2.setCell ⟨g, N, none⟩ (.bool true) = W := ⟨_, rfl⟩
  have HO2b : Hid (W3.ownsRow (s + 2) 4 1 (.slice (some ⟨g, 0, none⟩) tn tn) tn (((List.replicate tn false).set (tn - 1) true).map .bool)) := Lib.hid (by rw [← hW3, show tn - 1 = N by have := HN.out; omega]; exact oset0 true)
  have HB2b : Hid (Below (s + 2) W1 W3) := Lib.hid (by rw [← hW3]; exact HB2.out.setCell hsg _)
  have HW3 := Lib.hid hW3
  clear oset0 hW3 HO2 HB2
  go_upto_region 16 with fail
  try rw [HW3.out]
  clear ob0 of0 HW3
  clear HB G1 G2 G3 G4 i0
  go_wp2_with fail
  go_loopg [9] tn (fun gg u9 wx => ∃ (m : Nat) (i : Int) (ms : List Bool), Hid (m = gg) ∧ u9 = .int .i64 i ∧ Hid (i = (m : Int) - 1) ∧ m ≤ tn ∧ Hid (wx.ownsRow (s + 2) 4 1 (.slice (some ⟨g, 0, none⟩) tn tn) tn (ms.map .bool)) ∧ Hid (Below (s + 2) W1 wx) ∧ Hid (markDn ts m ms = M))
  case atStart => exact ⟨tn, _, _, Lib.hid rfl, rfl, Lib.hid (by have := HN.out; omega), Nat.le_refl _, HO2b, HB2b, HM0⟩
  case round =>
  clear HO2b HB2b HM0 hw1 hw1'
  obtain ⟨m, i, ms, HMG, rfl, HI, hmt, HOW, HB, HM0⟩ := hrel
  have hwz := HB.out.size
  have HXR : Hid (Claims (fun b => b < s) wr (.slice ta tn tc) ts) := Lib.hid (HX.out.move fun b hb _ => HB.out.block b (by omega))
  by_cases hm : m = 0
  case neg =>
    obtain ⟨p, rfl⟩ : ∃ p, m = p + 1 := ⟨m - 1, by omega⟩
    have hip : i = (p : Int) := by have := HI.out; omega
    subst hip
    have hp : p < tn := by omega
    have hp0 : (0 : Int) ≤ p := by omega
    have hd0 : decide ((0 : Int) ≤ p) = true := decide_eq_true hp0
    have hptn : (p : Int) < tn := by omega
    have hwp : wrap64 ((p : Int) - 1) = (p : Int) - 1 := IntWalk.wrap64_in _ ⟨by omega, by omega⟩
    have hwp' : IntKind.i64.wrap ((p : Int) - 1) = (p : Int) - 1 := IntWalk.i64_in _ ⟨by omega, by omega⟩
    obtain ⟨c, hc⟩ : ∃ c, ts[p]? = some c := ⟨_, List.getElem?_eq_getElem (by rw [← HTN.out]; exact hp)⟩
    have hcg : ts.getD p clNil = c := by rw [List.getD_eq_getElem?_getD, hc]; rfl
    have HKP : Hid (∀ x ∈ c.kids, 0 ≤ x ∧ x < (p : Int)) := Lib.hid (by have := HKD.out p (by rw [← HTN.out]; exact hp); rw [hcg] at this; exact this)
    have HMS : Hid (∀ ms : List Bool, markDn ts (p + 1) ms = markDn ts p (if ms.getD p false = true then setAll ms c.kids else ms)) := Lib.hid fun ms => by rw [markDn, hcg]
    obtain ⟨xb, xo, xcv, xkv, rfl, _, hxb, m0, m1, m2, m3, m4, hcv⟩ := HXR.out.at hc
    have hxk : Ints (fun b => b < s) wr xkv c.kids := hcv.1.2.2.2.1
    obtain ⟨ya, yn, yc, rfl, HYN, _⟩ := hxk.form'
    obtain ⟨X, hX, oc, of, og1, og2, oset⟩ := own_at Value.bool HOW.out hp
    have HXG : Hid (ms.getD p false = X) := Lib.hid (by rw [List.getD_eq_getElem?_getD, hX]; rfl)
    have hml : ms.length = tn := by simpa using HOW.out.1
    have HXK := Lib.hid hxk
    have ct0 := below_c HB.out (by omega) t0
    obtain ⟨GK, hGK⟩ : ∃ G, G = gk := ⟨_, rfl⟩
    subst hGK
    clear hc hcg hcv hxk hX m0 m1 m2 m4
    have HMR0 : Hid (markDn ts p (if X = true then setAll ms c.kids else ms) = M) := Lib.hid (by
      have h := HM0.out
      rw [HMS.out, HXG.out] at h
      exact h)
    rcases bool2 X with rfl | rfl
    · have HMR : Hid (markDn ts p (setAll ms c.kids) = M) := Lib.hid (by have := HMR0.out; rw [if_pos rfl] at this; exact this)
      obtain ⟨W3, hW3⟩ : ∃ W, wr = W := ⟨_, rfl⟩
      have HO3 : Hid (W3.ownsRow (s + 2) 4 1 (.slice (some ⟨g, 0, none⟩) tn tn) tn (ms.map .bool)) := Lib.hid (by rw [← hW3]; exact HOW.out)
      have HB3 : Hid (Below (s + 2) W1 W3) := Lib.hid (by rw [← hW3]; exact HB.out)
      rw [hW3] at ct0 m3 HXK oc ⊢
      clear hW3 HM0 HMS oset HXG HOW HMR0 of
      go_wp2_with fail
      go_loopg [73] yn (fun gg u73 wx => ∃ (j : Nat) (ns : List Bool), j + gg = yn ∧ u73 = .int .i64 j ∧ Hid (wx.ownsRow (s + 2) 4 1 (.slice (some ⟨g, 0, none⟩) tn tn) tn (ns.map .bool)) ∧ Hid (Below (s + 2) W1 wx) ∧ Hid (Below (s + 2) W3 wx) ∧ Hid (setAll ns (c.kids.drop j) = setAll (ms) c.kids))
      case atStart => exact ⟨0, _, by omega, rfl, HO3, HB3, Lib.hid (Below.refl _ _), Lib.hid rfl⟩
      case round =>
      clear HO3 HB3
      obtain ⟨j, ns, hjg, rfl, HOJ, HBJ, HBK, HSJ⟩ := hrel
      by_cases hj : j < yn
      case neg =>
        obtain rfl : yn = j := by omega
        have hdj : decide ((yn : Int) < yn) = false := by simp
        have hdj' : decide (yn < yn) = false := decide_eq_false (by omega)
        have hns : ns = setAll (ms) c.kids := by
          have h := HSJ.out
          rw [List.drop_eq_nil_of_le (by rw [HYN.out]; exact Nat.le_refl _)] at h
          exact h
        have HMR2 : Hid (markDn ts p ns = M) := Lib.hid (by rw [hns]; exact HMR.out)
        clear HMR HSJ hns
        go_wp2_with fail
        go_roundg (GK - 1)
        case measure => have := HMG.out; omega
        case rel => exact ⟨p, _, ns, Lib.hid (by have := HMG.out; omega), rfl, Lib.hid rfl, by omega, HOJ, HBJ, HMR2⟩
      have hdj : decide ((j : Int) < yn) = true := by simp; omega
      have hdj' : decide (j < yn) = true := decide_eq_true hj
      have hj0 : (0 : Int) ≤ j := by omega
      have hjn : (j : Int) < yn := by omega
      obtain ⟨x, hxj⟩ : ∃ x, c.kids[j]? = some x := ⟨_, List.getElem?_eq_getElem (by rw [← HYN.out]; exact hj)⟩
      obtain ⟨hx0, hxp⟩ := HKP.out x (List.mem_of_getElem? hxj)
      obtain ⟨q, rfl⟩ : ∃ q : Nat, x = q := ⟨x.toNat, by omega⟩
      obtain ⟨zb, zo, rfl, _, hzb, hzc, hx64⟩ := (HXK.out.move fun b hb _ => HBK.out.block b (by omega)).at hxj
      have hq : q < tn := by omega
      have hqn : (q : Int) < tn := by omega
      obtain ⟨Y, hY, oc2, of2, _, _, oset2⟩ := own_at Value.bool HOJ.out hq
      have HOJ2 : Hid ((wr.setCell ⟨g, q, none⟩ (.bool true)).ownsRow (s + 2) 4 1 (.slice (some ⟨g, 0, none⟩) tn tn) tn ((ns.set q true).map .bool)) := Lib.hid (oset2 true)
      have HBJ2 : Hid (Below (s + 2) W1 (wr.setCell ⟨g, q, none⟩ (.bool true))) := Lib.hid (HBJ.out.setCell hsg _)
      have HBK2 : Hid (Below (s + 2) W3 (wr.setCell ⟨g, q, none⟩ (.bool true))) := Lib.hid (HBK.out.setCell hsg _)
      have HSJ2 : Hid (setAll (ns.set q true) (c.kids.drop (j + 1)) = setAll (ms) c.kids) := Lib.hid (by
        have h := HSJ.out
        rw [List.drop_eq_getElem_cons (List.getElem?_eq_some_iff.1 hxj).1, (List.getElem?_eq_some_iff.1 hxj).2] at h
        exact h)
      clear hxj hY oset2 HOJ HBJ HBK HSJ hx64
      go_wp2_with fail
      go_roundg (gk - 1)
      case measure => omega
      case rel => exact ⟨j + 1, _, by omega, by go_num, HOJ2, HBJ2, HBK2, HSJ2⟩
    · have HMR : Hid (markDn ts p ms = M) := Lib.hid (by have := HMR0.out; rw [if_neg (by simp)] at this; exact this)
      clear HM0 HMS oset HXG HMR0
      go_wp2_with fail
      go_roundg (GK - 1)
      case measure => have := HMG.out; omega
      case rel => exact ⟨p, _, ms, Lib.hid (by have := HMG.out; omega), rfl, Lib.hid rfl, by omega, HOW, HB, HMR⟩
  subst hm
  have him : i = -1 := by have := HI.out; omega
  subst him
  have hd0 : decide ((0 : Int) ≤ -1) = false := by decide
  have hml : ms.length = tn := by simpa using HOW.out.1
  have hmM : ms = M := HM0.out
  subst hmM
  have HML2 : Hid (ms.length = tn) := Lib.hid hml
  obtain ⟨gN, hgN⟩ : ∃ g, wr.heap.size = g := ⟨_, rfl⟩
  have hgl : g < gN := by rw [← hgN]; exact (HOW.out.lt g rfl).2
  have hinfo : (Tryz.prog.info? 3).map (fun i => (i.zero, i.size, i.bytes)) = some (some (.int .i64 0), 1, 8) := by kernel_rfl
  obtain ⟨i0, g1, g2, g3, g4⟩ := info_parts hinfo
  have G1 := Lib.hid g1
  have G2 := Lib.hid g2
  have G3 := Lib.hid g3
  have G4 := Lib.hid g4
  have HGN := Lib.hid hgN
  clear hinfo g1 g2 g3 g4 hgN HM0 hml HXR
  go_upto_region 26 with (at_make; refine wpList_make_full _ rfl _ _ 40 rfl (s + 2) 3 i0 (.int .i64 0) 1 Tryz.underlying40 G1.out G2.out G3.out .i64 .i64 _ _ tn rfl rfl (by simp) (by simp) (by rw [G4.out]; omega) (by unfold maxLen; omega) (by omega) ?_; intro w3 hown3 hg3; have hb3 : Below wr.heap.size wr w3 := (Below.refl _ _).grown hg3 (Nat.le_refl _) (by intro k hk; cases hk); have HB3 := Lib.hid (HB.out.trans (hb3.mono (by omega))); have HOW3 := Lib.hid (own_below HOW.out hb3); have HO3 : Hid (w3.ownsRow (s + 2) 3 1 (.slice (some ⟨wr.heap.size, 0, none⟩) tn tn) tn ((List.replicate tn (0 : Int)).map (.int .i64))) := Lib.hid (by rw [made_intsP] at hown3; exact hown3); clear hown3 hg3 hb3)
  rw [HGN.out] at HO3
  try rw [HGN.out]
  clear HB HOW G1 G2 G3 G4 i0
  obtain ⟨T, hT⟩ : ∃ g, w3.heap.size = g := ⟨_, rfl⟩
  have hNT : gN < T := by rw [← hT]; exact (HO3.out.lt gN rfl).2
  obtain ⟨W4, hW4⟩ : ∃ W, w3.alloc (.cells #[.slice none 0 0] 27) = W := ⟨_, rfl⟩
  have hb4 : Below w3.heap.size w3 W4 := by rw [← hW4]; exact (Below.refl _ _).alloc (Nat.le_refl _) _
  have hr4 : W4.heap[T]? = some (.cells #[.slice none 0 0] 27) := by rw [← hW4]; exact new_at' _ _ hT.symm
  have HS4 : Hid (PrnS W4 s T g gN tn (.slice none 0 0) ms (List.replicate tn 0) []) := Lib.hid ⟨own_below HOW3.out hb4, own_below HO3.out hb4, ⟨by rw [cell_of_row _ _ _ _ _ _ hr4]; rfl, fun o => by simp only [World.frozen?, hr4]; simp, [], World.ownsRow_nil _ _ _ _, rfl, by simp⟩, hsg, hgl, hNT⟩
  have HB4 : Hid (Below (s + 2) W1 W4) := Lib.hid (HB3.out.trans (hb4.mono (by omega)))
  have HR0 : Hid ([] ++ renGo (ts.drop 0) (ms.drop 0) (List.replicate tn 0) 0 0 = R) := Lib.hid (by rw [List.nil_append, HTN.out]; exact HR.out)
  have HT := Lib.hid hT
  have HW4 := Lib.hid hW4
  have HI5 := Lib.hid (show (Tryz.prog.info? 42).map (fun i => (i.zero, i.size, i.bytes)) = some (some (.agg #[.slice none 0 0, .int .i64 0, .int .i64 0, .slice none 0 0, .int .i64 0]), 5, 72) by kernel_rfl)
  have ct4 := below_c HB4.out (by omega) t0
  clear hT hW4 hb4 hr4 HO3 HOW3 HB3 HR
  go_upto_region 27 with fail
  try rw [HW4.out, HT.out]
  go_wp2_with fail
  clear HW4 ct4
  go_loopg [86] tn (fun gg u86 wx => ∃ (k : Nat) (nm : List Int) (xs : List Claim) (on : Nat) (oa : Option Addr) (oc : Nat), k + gg = tn ∧ u86 = .int .i64 k ∧ Hid (on = xs.length) ∧ on ≤ k ∧ Hid (xs ++ renGo (ts.drop k) (ms.drop k) nm k on = R) ∧ Hid (PrnS wx s T g gN tn (.slice oa on oc) ms nm xs) ∧ Hid (Below (s + 2) W1 wx) ∧ Hid (∀ x ∈ nm, I64 x))
  case atStart => exact ⟨0, _, [], 0, none, 0, by omega, rfl, Lib.hid rfl, by omega, HR0, HS4, HB4, Lib.hid fun x hx => by rw [List.mem_replicate] at hx; rw [hx.2]; unfold I64; omega⟩
  case round =>
  clear HR0 HS4 HB4
  obtain ⟨k, nm, xs, on, oa, oc, hkg, rfl, HON, hok, HRK, HST, HB, HNM⟩ := hrel
  have hwz := HB.out.size
  by_cases hk : k < tn
  case neg =>
    obtain rfl : k = tn := by omega
    have hdk : decide ((k : Int) < k) = false := by simp
    have hdk' : decide (k < k) = false := decide_eq_false (by omega)
    have hxs : xs = R := by
      have h := HRK.out
      rw [List.drop_eq_nil_of_le (by rw [HTN.out]; exact Nat.le_refl _)] at h
      rw [renGo] at h
      · simpa using h
      · intro c r m mr h1; cases h1
    subst hxs
    have q0 := HST.out.out.1
    have j0 := below_c HB.out (by omega) e0
    have jf0 : wr.frozen? ⟨s + 1, 0, none⟩ = false := below_z HB.out (by omega) (HEF.out 0)
    have HRES : Hid (TrcPost w xs (.returned (.agg #[.slice oa on oc])) (wr.setCell ⟨s + 1, 0, none⟩ (.slice oa on oc))) := Lib.hid (by
      refine ⟨_, rfl, ?_, ?_⟩
      · have hlt := HST.out.lt
        exact ((HST.out.out.claims (by rw [← HON.out]; omega)).move fun b hb _ => Below.heap_setCell _ _ _ _ (by show b ≠ s + 1; omega)).mono fun _ _ => trivial
      · have := HB1.out.trans (HB.out.mono (by rw [HS.out]; omega))
        exact this.setCell (by rw [HS.out]; exact Nat.le_succ s) _)
    clear HB HST HRK HON hok
    go_wp2_with fail
    refine bodyPost_ret (v := .agg #[.slice oa on oc]) (by simp [results, Tryz.results9, go_sem, set_eq j0]) rfl ?_
    rw [HPR.out]
    exact HRES.out
  have hdk : decide ((k : Int) < tn) = true := by simp; omega
  have hdk' : decide (k < tn) = true := decide_eq_true hk
  have hk0 : (0 : Int) ≤ k := by omega
  have hkn : (k : Int) < tn := by omega
  have HXR : Hid (Claims (fun b => b < s) wr (.slice ta tn tc) ts) := Lib.hid (HX.out.move fun b hb _ => HB.out.block b (by omega))
  obtain ⟨c, hc⟩ : ∃ c, ts[k]? = some c := ⟨_, List.getElem?_eq_getElem (by rw [← HTN.out]; exact hk)⟩
  have hcg : ts.getD k clNil = c := by rw [List.getD_eq_getElem?_getD, hc]; rfl
  have HKP : Hid (∀ x ∈ c.kids, 0 ≤ x ∧ x < (k : Int)) := Lib.hid (by have := HKD.out k (by rw [← HTN.out]; exact hk); rw [hcg] at this; exact this)
  obtain ⟨xb, xo, xcv, xkv, rfl, _, hxb, m0, m1, m2, m3, m4, hcv⟩ := HXR.out.at hc
  have hxc : Clss (fun b => b < s) wr xcv c.cls := hcv.1.1
  have hxk : Ints (fun b => b < s) wr xkv c.kids := hcv.1.2.2.2.1
  obtain ⟨xa, xn, xc, rfl, _, _⟩ := hxc.form'
  obtain ⟨ya, yn, yc, rfl, HYN, _⟩ := hxk.form'
  obtain ⟨mk, hmk, oc1, of1, og1, og2, _⟩ := own_at Value.bool HST.out.marks hk
  obtain ⟨L, hL⟩ : ∃ g, wr.heap.size = g := ⟨_, rfl⟩
  obtain ⟨W2, hW2⟩ : ∃ W, wr.alloc (.cells #[.slice xa xn xc, .int .i64 c.rule, .int .i64 c.lit, .slice ya yn yc, .int .i64 c.count] 42) = W := ⟨_, rfl⟩
  have hb2 : Below wr.heap.size wr W2 := by rw [← hW2]; exact (Below.refl _ _).alloc (Nat.le_refl _) _
  have hr : W2.heap[L]? = some (.cells #[.slice xa xn xc, .int .i64 c.rule, .int .i64 c.lit, .slice ya yn yc, .int .i64 c.count] 42) := by rw [← hW2]; exact new_at' _ _ hL.symm
  have l0 : W2.cell? ⟨L, 0, none⟩ = some (.slice xa xn xc) := by rw [cell_of_row _ _ _ _ _ _ hr]; rfl
  have l1 : W2.cell? ⟨L, 1, none⟩ = some (.int .i64 c.rule) := by rw [cell_of_row _ _ _ _ _ _ hr]; rfl
  have l2 : W2.cell? ⟨L, 2, none⟩ = some (.int .i64 c.lit) := by rw [cell_of_row _ _ _ _ _ _ hr]; rfl
  have l3 : W2.cell? ⟨L, 3, none⟩ = some (.slice ya yn yc) := by rw [cell_of_row _ _ _ _ _ _ hr]; rfl
  have l4 : W2.cell? ⟨L, 4, none⟩ = some (.int .i64 c.count) := by rw [cell_of_row _ _ _ _ _ _ hr]; rfl
  have hs2 : W2.heap.size = L + 1 := by rw [← hW2]; simp; omega
  have HST2 := Lib.hid (HST.out.below hb2)
  have HB2 : Hid (Below (s + 2) W1 W2) := Lib.hid (HB.out.trans (hb2.mono (by omega)))
  have HCV := Lib.hid (hcv.below hb2)
  have HXK := Lib.hid (hxk.below hb2)
  have oc2 := below_c hb2 og2 oc1
  have HRK2 : Hid (xs ++ (if mk = true then renC (nm.set k (on : Int)) c :: renGo (ts.drop (k + 1)) (ms.drop (k + 1)) (nm.set k on) (k + 1) (on + 1) else renGo (ts.drop (k + 1)) (ms.drop (k + 1)) nm (k + 1) on) = R) := Lib.hid (by
    have h := HRK.out
    rw [List.drop_eq_getElem_cons (by rw [← HTN.out]; exact hk), List.drop_eq_getElem_cons (l := ms) (by rw [HML2.out]; exact hk), (List.getElem?_eq_some_iff.1 hc).2, (List.getElem?_eq_some_iff.1 hmk).2, renGo] at h
    exact h)
  have HSC := Lib.hid (HSZ.out c (List.mem_of_getElem? hc))
  have HL := Lib.hid hL
  have HW2 := Lib.hid hW2
  have hTL : T < L := by rw [← hL]; exact block_lt HST.out.out.1
  have htl := HST.out.lt
  obtain ⟨GK, hGK⟩ : ∃ G, G = gk := ⟨_, rfl⟩
  subst hGK
  clear hc hcg hcv hxc hxk hmk oc1 of1 hb2 hr hL hW2 HXR HRK HST HB
  go_upto_region 30 with fail
  try rw [HW2.out, HL.out]
  clear HW2 m0 m1 m2 m3 m4
  rcases bool2 mk with rfl | rfl
  rotate_left
  · have HRK3 : Hid (xs ++ renGo (ts.drop (k + 1)) (ms.drop (k + 1)) nm (k + 1) on = R) := Lib.hid (by have h := HRK2.out; rw [if_neg (by simp)] at h; exact h)
    clear HRK2
    go_wp2_with fail
    go_roundg (GK - 1)
    case measure => omega
    case rel => exact ⟨k + 1, nm, xs, on, oa, oc, by omega, by go_num, HON, by omega, HRK3, HST2, HB2, HNM⟩
  have HRK3 : Hid ((xs ++ [renC (nm.set k (on : Int)) c]) ++ renGo (ts.drop (k + 1)) (ms.drop (k + 1)) (nm.set k on) (k + 1) (on + 1) = R) := Lib.hid (by have h := HRK2.out; rw [if_pos rfl] at h; rw [List.append_assoc]; exact h)
  obtain ⟨_, _, nc, nf, _, nl, _⟩ := own_at (Value.int .i64) HST2.out.nums hk
  have HNM2 : Hid (∀ x ∈ nm.set k (on : Int), I64 x) := Lib.hid fun x hx => by
    rcases List.mem_or_eq_of_mem_set hx with h | h
    · exact HNM.out x h
    · rw [h]; unfold I64; omega
  have HNI : Hid (∀ j : Nat, I64 ((nm.set k (on : Int)).getD j 0)) := Lib.hid fun j => by
    rw [List.getD_eq_getElem?_getD]
    rcases hq : (nm.set k (on : Int))[j]? with _ | y
    · show I64 0; unfold I64; omega
    · exact HNM2.out y (List.mem_of_getElem? hq)
  have tc0 := HST2.out.out.1
  obtain ⟨W3, hW3⟩ : ∃ W, W2.setCell ⟨gN, k, none⟩ (.int .i64 on) = W := ⟨_, rfl⟩
  have HST3 : Hid (PrnS W3 s T g gN tn (.slice oa on oc) ms (nm.set k on) xs) := Lib.hid (by rw [← hW3]; exact HST2.out.setN hk on)
  have hb3 : Below (s + 2) W2 W3 := by rw [← hW3]; exact (Below.refl _ _).setCell (by omega) _
  have HB3 : Hid (Below (s + 2) W1 W3) := Lib.hid (HB2.out.trans hb3)
  have hm3 : ∀ b, b ≠ gN → W3.heap[b]? = W2.heap[b]? := fun b hb => by rw [← hW3]; exact Below.heap_setCell _ _ _ _ hb
  have n0 : W3.cell? ⟨L, 0, none⟩ = some (.slice xa xn xc) := (World.cell?_of_block (hm3 L (by omega))).trans l0
  have n1 : W3.cell? ⟨L, 1, none⟩ = some (.int .i64 c.rule) := (World.cell?_of_block (hm3 L (by omega))).trans l1
  have n2 : W3.cell? ⟨L, 2, none⟩ = some (.int .i64 c.lit) := (World.cell?_of_block (hm3 L (by omega))).trans l2
  have n3 : W3.cell? ⟨L, 3, none⟩ = some (.slice ya yn yc) := (World.cell?_of_block (hm3 L (by omega))).trans l3
  have n4 : W3.cell? ⟨L, 4, none⟩ = some (.int .i64 c.count) := (World.cell?_of_block (hm3 L (by omega))).trans l4
  have hs3 : W3.heap.size = L + 1 := by rw [← hW3]; simpa using hs2
  have hcv3 : ClaimV (fun b => b < s) W3 (.slice xa xn xc, .int .i64 c.rule, .int .i64 c.lit, .slice ya yn yc, .int .i64 c.count) c := HCV.out.move fun b hb _ => hm3 b (by omega)
  have HXK3 : Hid (Ints (fun b => b < s) W3 (.slice ya yn yc) c.kids) := Lib.hid hcv3.1.2.2.2.1
  have HIC := Lib.hid hcv3.2
  have HXC3 : Hid (Clss (fun b => b < s) W3 (.slice xa xn xc) c.cls) := Lib.hid hcv3.1.1
  have HW3 := Lib.hid hW3
  clear hcv3 hm3 hb3 hW3 HB2 HCV HXK HRK2 HST2 l0 l1 l2 l4
  go_upto_region 32 with fail
  try rw [HW3.out]
  clear HW3 nc nf tc0 l3 oc2
  obtain ⟨D, hD⟩ : ∃ g, W3.heap.size = g := ⟨_, rfl⟩
  have hDL : D = L + 1 := by rw [← hD]; exact hs3
  obtain ⟨W5, hW5⟩ : ∃ W, W3.alloc (.cells #[.slice xa xn xc, .int .i64 c.rule, .int .i64 c.lit, .slice none 0 0, .int .i64 c.count] 42) = W := ⟨_, rfl⟩
  have hb5 : Below W3.heap.size W3 W5 := by rw [← hW5]; exact (Below.refl _ _).alloc (Nat.le_refl _) _
  have hr5 : W5.heap[D]? = some (.cells #[.slice xa xn xc, .int .i64 c.rule, .int .i64 c.lit, .slice none 0 0, .int .i64 c.count] 42) := by rw [← hW5]; exact new_at' _ _ hD.symm
  have HD5 : Hid (DClm (fun b => b < s) W5 (D + 1) D (.slice xa xn xc) (.slice none 0 0) c []) := Lib.hid (by
    exact ⟨by rw [cell_of_row _ _ _ _ _ _ hr5]; rfl, by rw [cell_of_row _ _ _ _ _ _ hr5]; rfl, by rw [cell_of_row _ _ _ _ _ _ hr5]; rfl, by rw [cell_of_row _ _ _ _ _ _ hr5]; rfl, by rw [cell_of_row _ _ _ _ _ _ hr5]; rfl, Rows1.mono (fun _ _ _ _ _ h hg => h.mono hg) (Clss.below HXC3.out hb5) fun b hb => ⟨hb, by simp [Value.ownBlock]⟩, World.ownsRow_nil _ _ _ _, by simp [Value.ownBlock]⟩)
  have HFZ : Hid (∀ o, W5.frozen? ⟨D, o, none⟩ = false) := Lib.hid fun o => by simp only [World.frozen?, hr5]; simp
  have HF5 : Hid (Below D W3 W5) := Lib.hid (by rw [← hD]; exact hb5)
  have HB5 : Hid (Below (s + 2) W1 W5) := Lib.hid (HB3.out.trans (hb5.mono (by omega)))
  have s3 : W5.cell? ⟨L, 3, none⟩ = some (.slice ya yn yc) := below_c hb5 (by omega) n3
  have HW5 := Lib.hid hW5
  have HDD := Lib.hid hD
  have HDL := Lib.hid hDL
  have hLD : L < D := by omega
  have HS3 := Lib.hid hs3
  have HIN := Lib.hid (show (Tryz.prog.info? 3).map (fun i => (i.zero, i.size, i.bytes)) = some (some (.int .i64 0), 1, 8) by kernel_rfl)
  clear hb5 hr5 hW5 hD hs3 hs2 hDL
  go_upto_region 33 with fail
  try rw [HW5.out, HDD.out]
  clear HW5 n0 n1 n2 n3 n4
  go_wp2_with fail
  go_loopg [114] yn (fun gg u114 wx => ∃ (j pn : Nat) (ka : Option Addr) (kc : Nat) (ys : List Int), j + gg = yn ∧ u114 = .int .i64 j ∧ Hid (pn = ys.length) ∧ pn ≤ j ∧ Hid (ys = (c.kids.take j).map (fun x : Int => (nm.set k (on : Int)).getD x.toNat 0)) ∧ Hid (DClm (fun b => b < s) wx (D + 1) D (.slice xa xn xc) (.slice ka pn kc) c ys) ∧ Hid (∀ o, wx.frozen? ⟨D, o, none⟩ = false) ∧ Hid (Below D W3 wx) ∧ Hid (Below (s + 2) W1 wx))
  case atStart => exact ⟨0, 0, none, 0, [], by omega, rfl, Lib.hid rfl, by omega, Lib.hid (by simp), HD5, HFZ, HF5, HB5⟩
  case round =>
  clear HD5 HF5 HB5 HFZ s3
  obtain ⟨j, pn, ka, kc, ys, hjg, rfl, HPN, hpj, HYS, HDC, HFZ, HF, HB⟩ := hrel
  have hyn4 : yn ≤ 4000 := by rw [HYN.out]; exact HSC.out.2.2
  have d0 := HDC.out.c0
  have d1 := HDC.out.c1
  have d2 := HDC.out.c2
  have d3 := HDC.out.c3
  have d4 := HDC.out.c4
  have df := HFZ.out 3
  have hDw := block_lt d0
  have HSTX : Hid (PrnS wr s T g gN tn (.slice oa on oc) ms (nm.set k on) xs) := Lib.hid (HST3.out.below (by rw [HS3.out, ← HDL.out]; exact HF.out))
  by_cases hj : j < yn
  · have hdj : decide ((j : Int) < yn) = true := by simp; omega
    have hdj' : decide (j < yn) = true := decide_eq_true hj
    have hj0 : (0 : Int) ≤ j := by omega
    have hjn : (j : Int) < yn := by omega
    obtain ⟨x, hxj⟩ : ∃ x, c.kids[j]? = some x := ⟨_, List.getElem?_eq_getElem (by rw [← HYN.out]; exact hj)⟩
    obtain ⟨hx0, hxp⟩ := HKP.out x (List.mem_of_getElem? hxj)
    obtain ⟨q, rfl⟩ : ∃ q : Nat, x = q := ⟨x.toNat, by omega⟩
    obtain ⟨zb, zo, rfl, _, hzb, hzc, hx64⟩ := (HXK3.out.move fun b hb _ => HF.out.block b (by omega)).at hxj
    have hq : q < tn := by omega
    have hqn : (q : Int) < tn := by omega
    have hq0 : (0 : Int) ≤ q := by omega
    obtain ⟨y, hy, nc2, nf2, _, nl2, _⟩ := own_at (Value.int .i64) HSTX.out.nums hq
    have hyv : (nm.set k (on : Int)).getD (q : Int).toNat 0 = y := by rw [List.getD_eq_getElem?_getD, Int.toNat_natCast, hy]; rfl
    have HYS2 : Hid (ys ++ [y] = (c.kids.take (j + 1)).map (fun x : Int => (nm.set k (on : Int)).getD x.toNat 0)) := Lib.hid (by
      rw [List.take_add_one, hxj, List.map_append, ← HYS.out, ← hyv]
      rfl)
    have hkk := HDC.out.kids
    rw [← HPN.out] at hkk
    have HKK := Lib.hid hkk
    have hne : some D ≠ (Value.slice ka pn kc).ownBlock := fun e => by have := (hkk.lt D e.symm).1; omega
    have HNE := Lib.hid hne
    have HNG : Hid (some gN ≠ (Value.slice ka pn kc).ownBlock) := Lib.hid fun e => by have := (hkk.lt gN e.symm).1; omega
    clear hxj hy hyv HYS hkk hne HSTX hx64
    go_upto_region 36 with fail
    refine wp_region_held_drew (S := fun w' => w'.cell? ⟨gN, q, none⟩ = some (.int .i64 y)) (by kernel_rfl) (by exact nc2) (fun hHeld => ?_)
    refine wpAnyH_take (i := 0) (v := ?_) rfl (by kernel_rfl) (by kernel_rfl) (by kernel_rfl) (fun _ _ _ h => h) (Or.inl ⟨by rfl, ?_⟩) (by assumption) ?_
    rotate_left
    · intro w hSw
      try dsimp only at hSw
      go_simp
      try with_reducible rfl
    try simp only [Act.put, List.getElem_toArray, List.getElem_cons_succ, List.getElem_cons_zero, List.setIfInBounds_toArray, List.set_cons_zero, List.set_cons_succ]
    refine wpAnyH_take (i := 2) (v := ?_) rfl (by kernel_rfl) (by kernel_rfl) (by kernel_rfl) (fun _ _ _ h => h) (Or.inl ⟨by rfl, ?_⟩) (by assumption) ?_
    rotate_left
    · intro w hSw
      try dsimp only at hSw
      go_simp
      try with_reducible rfl
    try simp only [Act.put, List.getElem_toArray, List.getElem_cons_succ, List.getElem_cons_zero, List.setIfInBounds_toArray, List.set_cons_zero, List.set_cons_succ]
    refine wpAnyH_take (i := 3) (v := ?_) rfl (by kernel_rfl) (by kernel_rfl) (by kernel_rfl) (fun _ _ _ h => h) (Or.inl ⟨by rfl, ?_⟩) (by assumption) ?_
    rotate_left
    · intro w hSw
      try dsimp only at hSw
      go_simp
      try with_reducible rfl
    try simp only [Act.put, List.getElem_toArray, List.getElem_cons_succ, List.getElem_cons_zero, List.setIfInBounds_toArray, List.set_cons_zero, List.set_cons_succ]
    refine wpAnyH_take (i := 4) (v := ?_) rfl (by kernel_rfl) (by kernel_rfl) (by kernel_rfl) (fun _ _ _ h => h) (Or.inl ⟨by rfl, ?_⟩) (by assumption) ?_
    rotate_left
    · intro w hSw
      try dsimp only at hSw
      go_simp
      try with_reducible rfl
    try simp only [Act.put, List.getElem_toArray, List.getElem_cons_succ, List.getElem_cons_zero, List.setIfInBounds_toArray, List.set_cons_zero, List.set_cons_succ]
    refine wpAnyH_take (i := 5) (v := ?_) rfl (by kernel_rfl) (by kernel_rfl) (by kernel_rfl) (fun _ _ _ h => h) (Or.inl ⟨by rfl, ?_⟩) (by assumption) ?_
    rotate_left
    · intro w hSw
      try dsimp only at hSw
      go_simp
      try with_reducible rfl
    try simp only [Act.put, List.getElem_toArray, List.getElem_cons_succ, List.getElem_cons_zero, List.setIfInBounds_toArray, List.set_cons_zero, List.set_cons_succ]
    refine wpAnyH_ready (rs := [1, 6]) (by kernel_rfl) (by simp) ?_
    refine AllReadyH.cons rfl (fun K hK => ?_) (AllReadyH.cons rfl (fun K hK => ?_) AllReadyH.nil)
    · go_simp
      refine hK.out _ _ (by exact nc2) (fun _ => ?_)
      clear hK K
      try simp only [Act.put, List.getElem_toArray, List.getElem_cons_succ, List.getElem_cons_zero, List.setIfInBounds_toArray, List.set_cons_zero, List.set_cons_succ]
      refine wpAnyH_ready (rs := [6]) (by kernel_rfl) (by simp) ?_
      refine AllReadyH.cons rfl (fun K hK => ?_) AllReadyH.nil
      go_simp
      refine hK.out _ _ (by exact cell_alloc _ nc2) (fun _ => ?_)
      clear hK K
      try simp only [Act.put, List.getElem_toArray, List.getElem_cons_succ, List.getElem_cons_zero, List.setIfInBounds_toArray, List.set_cons_zero, List.set_cons_succ]
      refine wpAnyH_ready (rs := [7]) (by kernel_rfl) (by simp) ?_
      refine AllReadyH.cons rfl (fun K hK => ?_) AllReadyH.nil
      obtain ⟨W8, hW8⟩ : ∃ W, (wr.alloc (.cells #[.int .i64 y] 3)).drew = W := ⟨_, rfl⟩
      have hb8 : Below wr.heap.size wr W8 := by rw [← hW8]; exact ((Below.refl _ _).alloc (Nat.le_refl _) _).drew
      have hsl : W8.cell? ⟨wr.heap.size, 0, none⟩ = some (.int .i64 y) := by rw [← hW8]; show (wr.alloc (.cells #[.int .i64 y] 3)).cell? _ = _; rw [cell_of_row _ _ _ _ _ _ (new_at _ _)]; rfl
      have HDC8 := Lib.hid (HDC.out.below hb8)
      have ho1 := own_below HKK.out hb8
      have nc8 := below_c hb8 nl2 nc2
      have HB8 : Hid (Below (s + 2) W1 W8) := Lib.hid (HB.out.trans (hb8.mono (by omega)))
      have HF8 : Hid (Below D W3 W8) := Lib.hid (HF.out.trans (hb8.mono (by omega)))
      have hz8 : D < W8.heap.size := block_lt HDC8.out.c0
      have HFZ8 : Hid (∀ o, W8.frozen? ⟨D, o, none⟩ = false) := Lib.hid fun o => below_z hb8 hDw (HFZ.out o)
      have HO1 := Lib.hid ho1
      try rw [hW8]
      clear hb8 hW8
      refine step_push1 rfl _ _ 40 rfl 3 (.int .i64 0) 8 Tryz.underlying40 HIN.out rfl (D + 1) (.slice ka pn kc) pn (ys.map (.int .i64)) wr.heap.size (.int .i64 y) rfl rfl hsl ho1 rfl (by omega) (by omega) hz8 ?_
      intro g9 cap9 w9 hown9 hg9 hat9
      have d3 := grown_c2 hg9 HNE.out HDC8.out.c3
      have df : w9.frozen? ⟨D, 3, none⟩ = false := (World.frozen?_of_block (a := ⟨D, 3, none⟩) (hg9.block D hz8 HNE.out)).trans (HFZ8.out 3)
      have nc9 := grown_c2 hg9 HNG.out nc8
      have HDC9 : Hid (DClm (fun b => b < s) (w9.setCell ⟨D, 3, none⟩ (.slice (some ⟨g9, 0, none⟩) (pn + 1) cap9)) (D + 1) D (.slice xa xn xc) (.slice (some ⟨g9, 0, none⟩) (pn + 1) cap9) c (ys ++ [y])) := Lib.hid (HDC8.out.push HPN.out (fun b hb => by omega) hown9 hg9 hat9)
      have HB9 : Hid (Below (s + 2) W1 (w9.setCell ⟨D, 3, none⟩ (.slice (some ⟨g9, 0, none⟩) (pn + 1) cap9))) := Lib.hid ((HB8.out.grown hg9 (by omega) (fun b e => by have := (HO1.out.lt b e).1; omega)).setCell (show s + 2 ≤ D by omega) _)
      have HF9 : Hid (Below D W3 (w9.setCell ⟨D, 3, none⟩ (.slice (some ⟨g9, 0, none⟩) (pn + 1) cap9))) := Lib.hid ((HF8.out.grown hg9 (by omega) (fun b e => by have := (HO1.out.lt b e).1; omega)).setCell (Nat.le_refl _) _)
      have HFZ9 : Hid (∀ o, (w9.setCell ⟨D, 3, none⟩ (.slice (some ⟨g9, 0, none⟩) (pn + 1) cap9)).frozen? ⟨D, o, none⟩ = false) := Lib.hid fun o => by rw [World.frozen?_setCell]; exact (World.frozen?_of_block (a := ⟨D, o, none⟩) (hg9.block D hz8 HNE.out)).trans (HFZ8.out o)
      clear hown9 hg9 hat9 ho1
      refine hK.out _ _ (by exact nc9) (fun _ => ?_)
      clear hK K
      try simp only [Act.put, List.getElem_toArray, List.getElem_cons_succ, List.getElem_cons_zero, List.setIfInBounds_toArray, List.set_cons_zero, List.set_cons_succ]
      refine wpAnyH_take (i := 8) (v := ?_) rfl (by kernel_rfl) (by kernel_rfl) (by kernel_rfl) (fun _ _ _ h => h) (Or.inl ⟨by rfl, ?_⟩) (by assumption) ?_
      rotate_left
      · intro w hSw
        try dsimp only at hSw
        go_simp
        try with_reducible rfl
      try simp only [Act.put, List.getElem_toArray, List.getElem_cons_succ, List.getElem_cons_zero, List.setIfInBounds_toArray, List.set_cons_zero, List.set_cons_succ]
      refine wpAnyH_ready (rs := [9]) (by kernel_rfl) (by simp) ?_
      refine AllReadyH.cons rfl (fun K hK => ?_) AllReadyH.nil
      go_simp
      refine hK.out _ _ (by exact set_ne (.inl (by omega)) nc9) (fun _ => ?_)
      clear hK K
      try simp only [Act.put, List.getElem_toArray, List.getElem_cons_succ, List.getElem_cons_zero, List.setIfInBounds_toArray, List.set_cons_zero, List.set_cons_succ]
      refine wpAnyH_done (by kernel_rfl) ?_ _
      go_wp2_with fail
      go_roundg (gk - 1)
      case measure => omega
      case rel => exact ⟨j + 1, _, _, _, _, by omega, by go_num, Lib.hid (by rw [HPN.out]; simp), by omega, HYS2, HDC9, HFZ9, HF9, HB9⟩
    · go_simp
      refine hK.out _ _ (by exact cell_alloc _ nc2) (fun _ => ?_)
      clear hK K
      try simp only [Act.put, List.getElem_toArray, List.getElem_cons_succ, List.getElem_cons_zero, List.setIfInBounds_toArray, List.set_cons_zero, List.set_cons_succ]
      refine wpAnyH_ready (rs := [1]) (by kernel_rfl) (by simp) ?_
      refine AllReadyH.cons rfl (fun K hK => ?_) AllReadyH.nil
      have d3a := cell_alloc (.cells #[.int .i64 y] 3) d3
      go_simp
      refine hK.out _ _ (by exact cell_alloc _ nc2) (fun _ => ?_)
      clear hK K
      try simp only [Act.put, List.getElem_toArray, List.getElem_cons_succ, List.getElem_cons_zero, List.setIfInBounds_toArray, List.set_cons_zero, List.set_cons_succ]
      refine wpAnyH_ready (rs := [7]) (by kernel_rfl) (by simp) ?_
      refine AllReadyH.cons rfl (fun K hK => ?_) AllReadyH.nil
      obtain ⟨W8, hW8⟩ : ∃ W, (wr.alloc (.cells #[.int .i64 y] 3)).drew = W := ⟨_, rfl⟩
      have hb8 : Below wr.heap.size wr W8 := by rw [← hW8]; exact ((Below.refl _ _).alloc (Nat.le_refl _) _).drew
      have hsl : W8.cell? ⟨wr.heap.size, 0, none⟩ = some (.int .i64 y) := by rw [← hW8]; show (wr.alloc (.cells #[.int .i64 y] 3)).cell? _ = _; rw [cell_of_row _ _ _ _ _ _ (new_at _ _)]; rfl
      have HDC8 := Lib.hid (HDC.out.below hb8)
      have ho1 := own_below HKK.out hb8
      have nc8 := below_c hb8 nl2 nc2
      have HB8 : Hid (Below (s + 2) W1 W8) := Lib.hid (HB.out.trans (hb8.mono (by omega)))
      have HF8 : Hid (Below D W3 W8) := Lib.hid (HF.out.trans (hb8.mono (by omega)))
      have hz8 : D < W8.heap.size := block_lt HDC8.out.c0
      have HFZ8 : Hid (∀ o, W8.frozen? ⟨D, o, none⟩ = false) := Lib.hid fun o => below_z hb8 hDw (HFZ.out o)
      have HO1 := Lib.hid ho1
      try rw [hW8]
      clear hb8 hW8
      refine step_push1 rfl _ _ 40 rfl 3 (.int .i64 0) 8 Tryz.underlying40 HIN.out rfl (D + 1) (.slice ka pn kc) pn (ys.map (.int .i64)) wr.heap.size (.int .i64 y) rfl rfl hsl ho1 rfl (by omega) (by omega) hz8 ?_
      intro g9 cap9 w9 hown9 hg9 hat9
      have d3 := grown_c2 hg9 HNE.out HDC8.out.c3
      have df : w9.frozen? ⟨D, 3, none⟩ = false := (World.frozen?_of_block (a := ⟨D, 3, none⟩) (hg9.block D hz8 HNE.out)).trans (HFZ8.out 3)
      have nc9 := grown_c2 hg9 HNG.out nc8
      have HDC9 : Hid (DClm (fun b => b < s) (w9.setCell ⟨D, 3, none⟩ (.slice (some ⟨g9, 0, none⟩) (pn + 1) cap9)) (D + 1) D (.slice xa xn xc) (.slice (some ⟨g9, 0, none⟩) (pn + 1) cap9) c (ys ++ [y])) := Lib.hid (HDC8.out.push HPN.out (fun b hb => by omega) hown9 hg9 hat9)
      have HB9 : Hid (Below (s + 2) W1 (w9.setCell ⟨D, 3, none⟩ (.slice (some ⟨g9, 0, none⟩) (pn + 1) cap9))) := Lib.hid ((HB8.out.grown hg9 (by omega) (fun b e => by have := (HO1.out.lt b e).1; omega)).setCell (show s + 2 ≤ D by omega) _)
      have HF9 : Hid (Below D W3 (w9.setCell ⟨D, 3, none⟩ (.slice (some ⟨g9, 0, none⟩) (pn + 1) cap9))) := Lib.hid ((HF8.out.grown hg9 (by omega) (fun b e => by have := (HO1.out.lt b e).1; omega)).setCell (Nat.le_refl _) _)
      have HFZ9 : Hid (∀ o, (w9.setCell ⟨D, 3, none⟩ (.slice (some ⟨g9, 0, none⟩) (pn + 1) cap9)).frozen? ⟨D, o, none⟩ = false) := Lib.hid fun o => by rw [World.frozen?_setCell]; exact (World.frozen?_of_block (a := ⟨D, o, none⟩) (hg9.block D hz8 HNE.out)).trans (HFZ8.out o)
      clear hown9 hg9 hat9 ho1
      refine hK.out _ _ (by exact nc9) (fun _ => ?_)
      clear hK K
      try simp only [Act.put, List.getElem_toArray, List.getElem_cons_succ, List.getElem_cons_zero, List.setIfInBounds_toArray, List.set_cons_zero, List.set_cons_succ]
      refine wpAnyH_take (i := 8) (v := ?_) rfl (by kernel_rfl) (by kernel_rfl) (by kernel_rfl) (fun _ _ _ h => h) (Or.inl ⟨by rfl, ?_⟩) (by assumption) ?_
      rotate_left
      · intro w hSw
        try dsimp only at hSw
        go_simp
        try with_reducible rfl
      try simp only [Act.put, List.getElem_toArray, List.getElem_cons_succ, List.getElem_cons_zero, List.setIfInBounds_toArray, List.set_cons_zero, List.set_cons_succ]
      refine wpAnyH_ready (rs := [9]) (by kernel_rfl) (by simp) ?_
      refine AllReadyH.cons rfl (fun K hK => ?_) AllReadyH.nil
      go_simp
      refine hK.out _ _ (by exact set_ne (.inl (by omega)) nc9) (fun _ => ?_)
      clear hK K
      try simp only [Act.put, List.getElem_toArray, List.getElem_cons_succ, List.getElem_cons_zero, List.setIfInBounds_toArray, List.set_cons_zero, List.set_cons_succ]
      refine wpAnyH_done (by kernel_rfl) ?_ _
      go_wp2_with fail
      go_roundg (gk - 1)
      case measure => omega
      case rel => exact ⟨j + 1, _, _, _, _, by omega, by go_num, Lib.hid (by rw [HPN.out]; simp), by omega, HYS2, HDC9, HFZ9, HF9, HB9⟩
  obtain rfl : yn = j := by omega
  have hdj : decide ((yn : Int) < yn) = false := by simp
  have hdj' : decide (yn < yn) = false := decide_eq_false (by omega)
  have HYR : Hid (ys = (renC (nm.set k (on : Int)) c).kids) := Lib.hid (by
    rw [HYS.out, List.take_of_length_le (by rw [HYN.out]; exact Nat.le_refl _)]
    rfl)
  have HRV : Hid (ClaimV (fun b => (b < s ∨ T + 1 ≤ b) ∧ (Value.slice oa on oc).ownBlock ≠ some b) wr (.slice xa xn xc, .int .i64 c.rule, .int .i64 c.lit, .slice ka pn kc, .int .i64 c.count) (renC (nm.set k (on : Int)) c)) := Lib.hid (by
    obtain ⟨_, _, us', ho', _⟩ := HST3.out.out
    have hlo : ∀ b, (Value.slice oa on oc).ownBlock = some b → T + 1 ≤ b ∧ b < D := fun b e => by have := ho'.lt b e; rw [HS3.out, ← HDL.out] at this; exact this
    refine ⟨⟨Rows1.mono (fun _ _ _ _ _ h hg => h.mono hg) HDC.out.cls fun b hb => ⟨.inl hb.1, fun e => by have := hlo b e; have := hb.1; omega⟩, rfl, rfl, ⟨?_, ?_⟩, rfl⟩, HIC.out⟩
    · show Sl1 _ wr (.slice ka pn kc) ((renC (nm.set k (on : Int)) c).kids.map (.int .i64))
      rw [← HYR.out]
      have h := ownsRow_sl1 HDC.out.kids (by rw [← HPN.out]; omega)
      exact h.mono fun b hb => ⟨.inr (by have := hb.1; omega), fun e => by have := hlo b e; have := hb.1; omega⟩
    · intro x hx
      obtain ⟨y, _, rfl⟩ := List.mem_map.1 hx
      exact HNI.out _)
  obtain ⟨tc0, tf, us5, ho1, ho2, ho3⟩ := HSTX.out.out
  rw [← HON.out] at ho1
  have hown := ho1
  have tf0 := tf 0
  have hTs := block_lt tc0
  have HNE : Hid (some T ≠ (Value.slice oa on oc).ownBlock) := Lib.hid fun e => by have := (ho1.lt T e.symm).1; omega
  have HOL : Hid (∀ b, (Value.slice oa on oc).ownBlock = some b → T + 1 ≤ b) := Lib.hid fun b e => (ho1.lt b e).1
  have HO1 := Lib.hid ho1
  have HO2 := Lib.hid ho2
  have HO3 := Lib.hid ho3
  clear ho1 ho2 ho3 tf HDC HF HYS HYR HFZ df
  go_upto_region 38 with fail
  go_wp2_with (at_builtin; go_loud (refine wpList_push5t rfl _ _ 25 rfl 42 (.agg #[.slice none 0 0, .int .i64 0, .int .i64 0, .slice none 0 0, .int .i64 0]) 72 Tryz.underlying25 HI5.out rfl (T + 1) (.slice oa on oc) on (cells5 us5) wr (.slice xa xn xc) (.int .i64 c.rule) (.int .i64 c.lit) (.slice ka pn kc) (.int .i64 c.count) rfl rfl hown rfl rfl rfl rfl rfl (by omega) (by omega) hTs ?_); intro g7 cap7 w7 hown7 hg7 hs7 hgb hgl7 hat; have ef : w7.frozen? ⟨T, 0, none⟩ = false := (World.frozen?_of_block (a := ⟨T, 0, none⟩) (hg7.block T hTs HNE.out)).trans tf0; have e2 := grown_c2 hg7 HNE.out tc0; have HB7 : Hid (Below (s + 2) W1 w7) := Lib.hid (HB.out.grown hg7 (by omega) (fun b hb => by have := HOL.out b hb; omega)); have HS7 : Hid (PrnS (w7.setCell ⟨T, 0, none⟩ (.slice (some ⟨g7, 0, none⟩) (on + 1) cap7)) s T g gN tn (.slice (some ⟨g7, 0, none⟩) (on + 1) cap7) ms (nm.set k on) (xs ++ [renC (nm.set k (on : Int)) c])) := Lib.hid (HSTX.out.push HON.out HO1.out HO2.out HO3.out HRV.out hown7 hg7 hat); clear hown7 hg7 hat hown hgb hgl7 hs7)
  have HB8 : Hid (Below (s + 2) W1 (w7.setCell ⟨T, 0, none⟩ (.slice (some ⟨g7, 0, none⟩) (on + 1) cap7))) := Lib.hid (HB7.out.setCell (show s + 2 ≤ T by omega) _)
  go_roundg (GK - 1)
  case measure => omega
  case rel => exact ⟨k + 1, _, _, _, _, _, by omega, by go_num, Lib.hid (by rw [HON.out]; simp), by omega, HRK3, HS7, HB8, HNM2⟩
end Go.Proofs.YtpikkkiepafelaaGreat

