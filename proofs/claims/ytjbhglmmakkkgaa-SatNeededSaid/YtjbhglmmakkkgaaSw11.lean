/- Walk: run, one level: the two runs below it come as hypotheses. -/
import Derived.Test.YtjbhglmmakkkgaaSr
import Derived.RegionTactic
import Derived.ChangeAlike
namespace Go.Proofs.Ytjbhglmmakkkgaa
open Go.ChangeShapes Go.WideShapes Go.ChangeAt Go.RowKit
set_option linter.unusedVariables false

theorem openGo_some {m : List Bool} : ∀ {f v x : Nat}, openGo m f v = some x → v ≤ x ∧ x < v + f
  | 0, v, x, h => by simp [openGo] at h
  | f + 1, v, x, h => by
    rw [openGo] at h
    split at h
    · injection h with h; omega
    · have := openGo_some h; omega
theorem Kept.own {w w' : World} {p : Nat} {lv : Value} (h : Below w.heap.size w w') : Kept (fun k => k = p ∨ lv.ownBlock = some k) w w' := Kept.of_below h

set_option maxRecDepth 100000 in
set_option maxHeartbeats 16000000 in
theorem run_step {F : Nat → Prop} {p V b : Nat} {cs : List (List Int)} (hV : V ≤ 24) (hlit : LitsOk V cs) (hF : ∀ k, F k → k < p) (rec : List Int → Rrun) (ds : List Int) (hds : ∀ l ∈ ds, LitOk V l) (hdl : ds.length ≤ 64)
    (hrec : ∀ v, openM V (marksM V cs ds) = some v → okM V cs ds = true → ∀ lit, (lit = -(v : Int) ∨ lit = (v : Int)) → ∀ (w : World) (cv lv mv dv : Value) (L : Int) (ls : List (List Int)), RunPre F p V cs w cv lv mv dv L ls (ds ++ [lit]) b →
      Calls Try.prog 49 #[.pointer (some ⟨p, 0, none⟩), dv] w (RunPost p V w cv lv mv L ls b (rec (ds ++ [lit]))))
    (w : World) (cv lv mv dv : Value) (L : Int) (ls : List (List Int)) (h : RunPre F p V cs w cv lv mv dv L ls ds (2 * b + 1)) :
    Calls Try.prog 49 #[.pointer (some ⟨p, 0, none⟩), dv] w (RunPost p V w cv lv mv L ls (2 * b + 1) (runStep V cs rec ds)) := by
  obtain ⟨hsr, hcl, hle, hde, hL1, hL0, hnl⟩ := h
  obtain ⟨ca, cn, cc, rfl, HCN, hcn⟩ := hcl.form'
  obtain ⟨da, dn, dc, rfl, HDN, hdn⟩ := hde.form'
  obtain ⟨R, hR⟩ : ∃ R, runStep V cs rec ds = R := ⟨_, rfl⟩
  rw [hR]
  obtain ⟨OK, hOK⟩ : ∃ x, okM V cs ds = x := ⟨_, rfl⟩
  obtain ⟨MM, hMM⟩ : ∃ x, marksM V cs ds = x := ⟨_, rfl⟩
  have HR : Hid (R = runStep V cs rec ds) := Lib.hid hR.symm
  have HOK := Lib.hid hOK
  have HMM := Lib.hid hMM
  have HSR := Lib.hid hsr
  have HCL := Lib.hid hcl
  have HLE := Lib.hid hle
  have HDE := Lib.hid hde
  have HDS := Lib.hid hds
  have HREC := Lib.hid hrec
  have HFF := Lib.hid hF
  have HLIT := Lib.hid hlit
  have hpw := hsr.lt
  have c0 := hsr.c0
  have c1 := hsr.c1
  have hst := start_any (fun b => b ≠ p ∧ lv.ownBlock ≠ some b) V (.slice da dn dc) ds w hde (by omega) hds
  obtain ⟨S, hS⟩ : ∃ S, startM V ds = S := ⟨_, rfl⟩
  rw [hS] at hst
  have HS := Lib.hid hS
  have HST := Lib.hid hst
  clear hR hOK hMM hsr hcl hle hde hds hrec hF hlit hst hS
  go_enter Try.func49, Try.ntmps49
  go_wp2_with fail
  refine HST.out.mono ?_
  rintro e w1 ⟨g, rfl, hm, hb1⟩
  have HM1 := Lib.hid hm
  have HB1 := Lib.hid hb1
  have hg := hm.lt
  have d0 := below_c hb1 hpw c0
  have d1 := below_c hb1 hpw c1
  clear hm hb1 HST
  obtain ⟨m0, ok⟩ := S
  simp only
  trace "A"
  go_upto_region 2 with fail
  go_cut [32] (fun u32 wx => u32 = .bool OK ∧ Hid (Below w.heap.size w wx) ∧ Hid (OK = true → Marks wx w.heap.size g V MM))
  case first =>
    rcases bool2 ok with rfl | rfl
    · have hpr := propagate_any (base := w.heap.size) (g := g) (V := V) (HCL.out.below HB1.out) HM1.out (fun k hk => by have := HFF.out k hk; omega) (by omega) HLIT.out
      have HO : Hid (OK = (propM cs m0).1) := Lib.hid (by rw [← HOK.out, okM, HS.out]; rfl)
      have HO2 : Hid (MM = (propM cs m0).2) := Lib.hid (by rw [← HMM.out, marksM, HS.out])
      have HPR := Lib.hid hpr
      clear hpr
      go_wp2_with fail
      refine HPR.out.mono ?_
      rintro e w2 ⟨rfl, hm2, hb2⟩
      have HM2 := Lib.hid hm2
      have HB2 := Lib.hid hb2
      clear hm2 hb2
      go_wp2
      go_meet
      exact ⟨by rw [HO.out], Lib.hid (HB1.out.trans (HB2.out.mono hg.1)), Lib.hid (fun _ => by rw [HO2.out]; exact HM2.out)⟩
    · have HO : Hid (OK = false) := Lib.hid (by rw [← HOK.out, okM, HS.out]; rfl)
      go_wp2
      go_meet
      exact ⟨by rw [HO.out], HB1, Lib.hid (fun h => by rw [HO.out] at h; cases h)⟩
  case rest =>
  obtain ⟨rfl, HB, HMK⟩ := hcut
  have HSR2 := Lib.hid (HSR.out.same (HB.out.block p hpw))
  have HLE2 := Lib.hid (HLE.out.below HB.out)
  have HDE2 := Lib.hid (HDE.out.below HB.out)
  have HCL2 := Lib.hid (HCL.out.below HB.out)
  have HK : Hid (Kept (fun k => k = p ∨ lv.ownBlock = some k) w wc) := Lib.hid (Kept.of_below HB.out)
  have e0 := HSR2.out.c0
  have e1 := HSR2.out.c1
  have e2 := HSR2.out.c2
  have z2 := HSR2.out.fz 2
  have z4 := HSR2.out.fz 4
  have HLE0 := HLE
  have HDE0 := HDE
  have HCL0 := HCL
  clear c0 c1 d0 d1 HS HM1 HB1 HSR HLE HDE HCL
  go_upto_if 32 with fail
  trace "B"
  go_cut [] (fun wx => ∃ (L2 : Int) (lv2 : Value) (l2 : List (List Int)), Hid (Srch wx p V (.slice ca cn cc) lv2 mv L2) ∧ Hid (LemO wx p lv2 (ls ++ l2)) ∧ Hid (Kept (fun k => k = p ∨ lv.ownBlock = some k) w wx) ∧
    Hid (∀ k, lv2.ownBlock = some k → lv.ownBlock = some k ∨ w.heap.size ≤ k) ∧ Hid (R = (none, l2 ++ [ds.map fun l => -l])) ∧ L2 ≤ -1 ∧ L - (2 * b + 1 : Nat) ≤ L2 ∧ l2.length ≤ 2 * b)
  case first =>
    rcases bool2 OK with rfl | rfl
    case inr =>
      have HF : Hid (R = (none, [] ++ [ds.map fun l => -l])) := Lib.hid (by rw [HR.out, runStep, HOK.out, if_pos rfl]; rfl)
      go_wp2
      go_meet
      exact ⟨L, lv, [], HSR2, Lib.hid (by rw [List.append_nil]; exact HLE2.out), HK, Lib.hid (fun k h => .inl h), HF, hL1, by omega, Nat.zero_le _⟩
    have hmk := HMK.out rfl
    have HMB : Hid (∀ i, i < (V + 1) * 2 → wc.cell? ⟨g, i, none⟩ = some (.bool (MM.getD i false))) := Lib.hid hmk.cell
    have HMKK := Lib.hid hmk
    obtain ⟨O, hO⟩ : ∃ O, openM V MM = O := ⟨_, rfl⟩
    have HOO := Lib.hid hO
    have HR2 : Hid (R = branchM V cs rec ds O) := Lib.hid (by rw [HR.out, runStep, HOK.out, if_neg (by simp), HMM.out, hO])
    have HOI : Hid (O = openGo MM V 1) := Lib.hid hO.symm
    clear hmk HMK hO HR
    go_wp2
    go_loopg [7] V (fun gg u7 wx => ∃ v : Nat, 1 ≤ v ∧ v + gg = V + 1 ∧ u7 = .int .i64 v ∧ wc = wx ∧ Hid (O = openGo MM gg v))
    case atStart => exact ⟨1, by omega, by omega, rfl, rfl, HOI⟩
    case round =>
    clear HOI
    obtain ⟨v, hv1, hvg, rfl, rfl, HOI⟩ := hrel
    by_cases hv : v ≤ V
    case neg =>
      have HF : Hid (R = (some (bitsM V MM), [])) := Lib.hid (by
        rw [HR2.out, HOI.out, show gk = 0 by omega, openGo, branchM, HMM.out])
      have hvV : V < v := by omega
      clear HR2 HOI hv
      trace "C"
      have hinfo : (Try.prog.info? 4).map (fun i => (i.zero, i.size, i.bytes)) = some (some (.bool false), 1, 1) := by kernel_rfl
      obtain ⟨i0, g1, g2, g3, g4⟩ := info_parts hinfo
      have G1 := Lib.hid g1
      have G2 := Lib.hid g2
      have G3 := Lib.hid g3
      have G4 := Lib.hid g4
      have hpc := HSR2.out.lt
      clear hinfo g1 g2 g3 g4
      go_upto_region 8 with (at_make; refine wpList_make_full _ rfl _ _ 37 rfl wc.heap.size 4 i0 (.bool false) 1 (by kernel_rfl) G1.out G2.out G3.out .i64 .i64 _ _ V rfl rfl (by simp) (by simp) (by rw [G4.out]; omega) (by unfold maxLen; omega) (by simp) ?_; intro w5 hown5 hg5; have HB5 := Lib.hid ((Below.refl _ _).grown hg5 (Nat.le_refl _) (by intro k hk; cases hk)); have HO5 := Lib.hid hown5; clear hown5 hg5; have k4 := (HSR2.out.same (HB5.out.block p hpc)).c4; have kz := (HSR2.out.same (HB5.out.block p hpc)).fz 4)
      have HS6 := Lib.hid ((HSR2.out.same (HB5.out.block p hpc)).set4 (.slice (some ⟨wc.heap.size, 0, none⟩) V V))
      have hown6 := own_set HO5.out (p := ⟨p, 4, none⟩) (by simp [Value.ownBlock]; omega) (.slice (some ⟨wc.heap.size, 0, none⟩) V V)
      have HK6 : Hid (Kept (fun k => k = p) wc _) := Lib.hid ((Kept.of_below (A := fun k => k = p) HB5.out).set (p := ⟨p, 4, none⟩) rfl (.slice (some ⟨wc.heap.size, 0, none⟩) V V))
      generalize w5.setCell ⟨p, 4, none⟩ (.slice (some ⟨wc.heap.size, 0, none⟩) V V) = W6 at *
      rw [made_bools] at hown6
      have h4 := HS6.out.c4
      clear k4 kz
      go_wp2
      go_loopg [66] V (fun gg u66 wx => ∃ (k : Nat) (xs : List Bool), k + gg = V ∧ u66 = .int .i64 k ∧ wx.ownsRow wc.heap.size 4 1 (.slice (some ⟨wc.heap.size, 0, none⟩) V V) V (xs.map .bool) ∧ Hid (Srch wx p V (.slice ca cn cc) lv (.slice (some ⟨wc.heap.size, 0, none⟩) V V) L) ∧ Hid (Kept (fun k => k = p) wc wx) ∧ Hid (xs.take k = (bitsM V MM).take k))
      case atStart => exact ⟨0, _, by omega, rfl, hown6, HS6, HK6, Lib.hid rfl⟩
      case round =>
      clear hown6 HS6 HK6 h4
      obtain ⟨k, xs, hkg, rfl, hown, HS, HKK, HX⟩ := hrel
      have hxl : xs.length = V := by simpa using hown.1
      by_cases hk : k < V
      case neg =>
        have HXX : Hid (xs = bitsM V MM) := Lib.hid (by
          have h1 := HX.out
          rwa [List.take_of_length_le (by omega), List.take_of_length_le (by simp [bitsM]; omega)] at h1)
        have hk2 : V ≤ k := by omega
        have HOW := Lib.hid hown
        clear hk HX hown
        go_wp2
        go_ret
        refine ⟨1, L, lv, _, rfl, by rw [HF.out]; rfl, HS.out, hL1, by omega, ?_, by rw [HF.out]; simp, fun x hx => ?_, (fun h => by rw [HF.out] at h; cases h), HK.out.trans HKK.out (fun i _ h => .inl h), fun k h => .inl h⟩
        · rw [HF.out, List.append_nil]
          exact HLE2.out.move fun b hb hl => HKK.out.block b hl (by omega)
        · rw [HF.out] at hx
          injection hx with hx
          subst hx
          rw [← HXX.out]
          have h1 := ownsRow_sl1 HOW.out (by omega)
          exact h1.mono fun b hb => by omega
      obtain ⟨x0, hx0, hc0, hz0, _, hlt0, hset⟩ := own_at .bool hown hk
      have h4 := HS.out.c4
      have hm1 := (World.cell?_of_block (a := ⟨g, (k + 1) * 2 + 1, none⟩) (HKK.out.block g (HMKK.out.lt.2) (by omega))).trans (HMB.out ((k + 1) * 2 + 1) (by omega))
      obtain ⟨bt, hbt⟩ : ∃ x, MM.getD ((k + 1) * 2 + 1) false = x := ⟨_, rfl⟩
      rw [hbt] at hm1
      have hown2 := hset bt
      have HX2 : Hid ((xs.set k bt).take (k + 1) = (bitsM V MM).take (k + 1)) := Lib.hid (by
        rw [List.take_succ_eq_append_getElem (by simp; omega), List.take_succ_eq_append_getElem (by simp [bitsM]; omega), List.take_set_of_le (Nat.le_refl _), HX.out]
        simp [bitsM]
        rw [← hbt]
        rfl)
      have HOW2 := Lib.hid hown2
      have hi1 : (k : Int) + 1 < (V + 1 : Nat) := by omega
      have hi2 : (0 : Int) ≤ (k : Int) + 1 := by omega
      have hi3 : (k : Int) < V := by omega
      have hi4 : (0 : Int) ≤ k := by omega
      clear hset hx0 hown2 hown HX hbt
      trace "C2"
      go_upto_region 11 with fail
      go_region
      all_goals
        go_wp2
        go_roundg (gk - 1)
        case measure => omega
        case rel =>
          refine ⟨k + 1, xs.set k bt, by omega, by go_num, ?_, Lib.hid ?_, Lib.hid ?_, HX2⟩
          · exact HOW2.out
          · exact (HS.out.same (w' := wr.setCell ⟨wc.heap.size, k, none⟩ (.bool bt)) (Below.heap_setCell wr _ _ p (by show p ≠ wc.heap.size; omega))).same rfl
          · have hk6 : Kept (fun k => k = p) wc (wr.setCell ⟨wc.heap.size, k, none⟩ (.bool bt)) := ⟨HKK.out.os, HKK.out.tape, HKK.out.output, by have := HKK.out.size; simp; omega, fun i hi hn => (Below.heap_setCell wr _ _ i (by show i ≠ wc.heap.size; omega)).trans (HKK.out.block i hi hn)⟩
            exact ⟨hk6.os, hk6.tape, hk6.output, hk6.size, hk6.block⟩
    obtain ⟨f, rfl⟩ : ∃ f, gk = f + 1 := ⟨gk - 1, by omega⟩
    have hx := HMB.out (v * 2) (by omega)
    have hy := HMB.out (v * 2 + 1) (by omega)
    have HOJ : Hid (O = if (!MM.getD (v * 2) false && !MM.getD (v * 2 + 1) false) = true then some v else openGo MM f (v + 1)) := Lib.hid (by rw [HOI.out, openGo])
    obtain ⟨bx, hbx⟩ : ∃ x, MM.getD (v * 2) false = x := ⟨_, rfl⟩
    obtain ⟨bq, hby⟩ : ∃ x, MM.getD (v * 2 + 1) false = x := ⟨_, rfl⟩
    rw [hbx] at hx HOJ
    rw [hby] at hy HOJ
    clear hbx hby HOI
    obtain ⟨T, hT⟩ : ∃ t, (!bx && !bq) = t := ⟨_, rfl⟩
    have hop := mopen_any g (V + 1) (V + 1) v bx bq wc (by omega) (by omega) hx hy
    rw [hT] at hop HOJ
    have HOP := Lib.hid hop
    clear hT hop hx hy
    rcases bool2 T with rfl | rfl
    case inr =>
      have HF : Hid (O = openGo MM f (v + 1)) := Lib.hid (by rw [HOJ.out, if_neg (by simp)])
      clear HOJ
      go_wp2_with fail
      refine HOP.out.mono ?_
      rintro e w3 ⟨rfl, rfl⟩
      go_wp2_with fail
      go_roundg f
      case measure => omega
      case rel => exact ⟨v + 1, by omega, by omega, by go_num, rfl, HF⟩
    have HF : Hid (R = firstM (ds.map fun l => -l) (rec (ds ++ [(v : Int)])) (rec (ds ++ [-(v : Int)]))) := Lib.hid (by rw [HR2.out, HOJ.out, if_pos rfl, branchM])
    have HOV : Hid (openM V (marksM V cs ds) = some v) := Lib.hid (by rw [HMM.out, HOO.out, HOJ.out, if_pos rfl])
    clear HOJ
    go_wp2_with fail
    refine HOP.out.mono ?_
    rintro e w3 ⟨rfl, rfl⟩
    trace "D"
    obtain ⟨wc, rfl⟩ : ∃ x, x = w3 := ⟨_, rfl⟩
    have hinfo : (Try.prog.info? 3).map (fun i => (i.zero, i.size, i.bytes)) = some (some (.int .i64 0), 1, 8) := by kernel_rfl
    have HI := Lib.hid hinfo
    have hd0 : (L == 0) = false := by simp; omega
    have hpc := HSR2.out.lt
    have HS3 := Lib.hid (HSR2.out.set2 (L - 1))
    have HL3 : Hid (LemO (wc.setCell ⟨p, 2, none⟩ (.int .i64 (L - 1))) p lv ls) := Lib.hid (HLE2.out.move fun b hb _ => Below.heap_setCell wc _ _ b (by show b ≠ p; omega))
    have HK3 : Hid (Kept (fun k => k = p ∨ lv.ownBlock = some k) w (wc.setCell ⟨p, 2, none⟩ (.int .i64 (L - 1)))) := Lib.hid (HK.out.set (p := ⟨p, 2, none⟩) (.inl rfl) _)
    have HL30 : Hid (LemO (wc.setCell ⟨p, 2, none⟩ (.int .i64 (L - 1))) p lv (ls ++ [])) := Lib.hid (by rw [List.append_nil]; exact HL3.out)
    obtain ⟨NG, hNG⟩ : ∃ x, (ds.map fun l => -l) = x := ⟨_, rfl⟩
    obtain ⟨r1, hr1⟩ : ∃ x, rec (ds ++ [-(v : Int)]) = x := ⟨_, rfl⟩
    obtain ⟨r2, hr2⟩ : ∃ x, rec (ds ++ [(v : Int)]) = x := ⟨_, rfl⟩
    rw [hNG, hr1, hr2] at HF
    have HNG := Lib.hid hNG
    have Hr1 := Lib.hid hr1
    have Hr2 := Lib.hid hr2
    have HST0 : Hid (StepR NG r1 r2 0 [] R) := Lib.hid ⟨fun _ => ⟨rfl, HF.out⟩, fun h => by omega, fun h => by omega⟩
    have HVL : Hid (∀ lit, (lit = -(v : Int) ∨ lit = (v : Int)) → I64 lit ∧ LitOk V lit) := Lib.hid (fun lit h => by unfold I64 LitOk; rcases h with rfl | rfl <;> omega)
    have HFR : Hid (∀ wx, Kept (fun k => k = p ∨ lv.ownBlock = some k) w wx → Ints (fun b => b < w.heap.size ∧ b ≠ p ∧ lv.ownBlock ≠ some b) wx (.slice da dn dc) ds ∧ Clss F wx (.slice ca cn cc) cs) := Lib.hid (fun wx hk => by
      have hlb := HLE0.out.block
      refine ⟨(HDE0.out.lt.move (w' := wx) fun k h1 h2 => hk.block k h2 (by rintro (h | h); exact h1.1.1 h; exact h1.1.2 h)).mono fun k h => ⟨h.2, h.1.1, h.1.2⟩, Rows1.move (w' := wx) (fun _ _ _ _ _ h hm => h.move hm) HCL0.out fun k h1 h2 => hk.block k h2 ?_⟩
      have h3 := HFF.out k h1
      rintro (h | h)
      · omega
      · have := hlb k h; omega)
    have hdv : decide (V < v) = false := by simp; omega
    clear hinfo hNG hr1 hr2 HF HL3
    go_upto_region 17 with fail
    generalize wc.setCell ⟨p, 2, none⟩ (.int .i64 (L - 1)) = W3 at *
    go_wp2
    go_loopg [98] 2 (fun gg u98 wx => ∃ (j L2 : Int) (lv2 : Value) (l2 : List (List Int)), j + gg = 2 ∧ 0 ≤ j ∧ u98 = .int .i64 j ∧ Hid (Srch wx p V (.slice ca cn cc) lv2 mv L2) ∧ Hid (LemO wx p lv2 (ls ++ l2)) ∧ Hid (Kept (fun k => k = p ∨ lv.ownBlock = some k) w wx) ∧
      Hid (∀ k, lv2.ownBlock = some k → lv.ownBlock = some k ∨ w.heap.size ≤ k) ∧ Hid (StepR NG r1 r2 j l2 R) ∧ L2 ≤ -1 ∧ Hid (L - 1 - j * b ≤ L2 ∧ (l2.length : Int) ≤ j * b))
    case atStart => exact ⟨0, L - 1, lv, [], by omega, by omega, rfl, HS3, HL30, HK3, Lib.hid (fun k h => .inl h), HST0, by omega, Lib.hid ⟨by omega, by simp⟩⟩
    case round =>
    clear HS3 HL30 HK3 HST0
    obtain ⟨j, L2, lv2, l2, hjg, hj0, rfl, HS, HL, HKX, HOWN, HST, hL2, HLB⟩ := hrel
    by_cases hj : j = 2
    · subst hj
      have HF : Hid (R = (none, l2 ++ [ds.map fun l => -l])) := Lib.hid (by rw [HNG.out]; exact HST.out.2.2 rfl)
      have hbb := HLB.out
      have hb1 : L - (2 * b + 1 : Nat) ≤ L2 := by omega
      have hb2 : l2.length ≤ 2 * b := by omega
      clear hbb
      go_wp2
      go_meet
      exact ⟨L2, lv2, l2, HS, HL, HKX, HOWN, HF, hL2, hb1, hb2⟩
    obtain ⟨lit, hlit, hix⟩ : ∃ lit, (j = 0 ∧ lit = -(v : Int) ∨ j = 1 ∧ lit = (v : Int)) ∧ ∀ W : World, (Instr.index 88 (.agg #[.int .i64 (-(v : Int)), .int .i64 (v : Int)]) (.int .i64 j)).run Try.prog W = .ok (.int .i64 lit) W := by
      obtain rfl | rfl : j = 0 ∨ j = 1 := by omega
      · exact ⟨_, .inl ⟨rfl, rfl⟩, fun W => by kernel_rfl⟩
      · exact ⟨_, .inr ⟨rfl, rfl⟩, fun W => by kernel_rfl⟩
    have HLIT2 := Lib.hid hlit
    have hlv : lit = -(v : Int) ∨ lit = (v : Int) := by omega
    have hlo := HVL.out lit hlv
    have HLO := Lib.hid hlo
    have hj1 : decide (j < 2) = true := by simp; omega
    have HJ : Hid (j + gk = 2 ∧ 0 ≤ j ∧ j < 2) := Lib.hid ⟨hjg, hj0, by omega⟩
    have hlbd : -1099511627776 ≤ lit ∧ lit ≤ 1099511627776 := by omega
    obtain ⟨hde3, hcl3⟩ := HFR.out _ HKX.out
    have HDE3 := Lib.hid hde3
    have HCL3 := Lib.hid hcl3
    have hsz := HKX.out.size
    have hwp := HS.out.lt
    have hcln := clone_own _ (.slice da dn dc) ds wr hde3 (by omega)
    have HCLN := Lib.hid hcln
    clear hlit hlv hlo hde3 hcl3 hcln hj
    trace "D2"
    go_wp2_with fail
    refine HCLN.out.mono ?_
    rintro e w4 ⟨v4, rfl, hown4, hb4⟩
    obtain ⟨a4, c4, rfl⟩ := own_form hown4
    have HB4 := Lib.hid hb4
    have hs4 := hb4.size
    clear hb4
    go_wp2_with (at_builtin; go_loud (refine wpList_push1 rfl _ _ 25 rfl 3 (.int .i64 0) 8 Try.underlying25 HI.out rfl wr.heap.size (.slice a4 ds.length c4) ds.length _ w4 (.int .i64 lit) rfl rfl hown4 rfl (by omega) (by omega) (by omega) ?_); intro g5 cap5 w5 hown5 hg5 hs5 hgb hgl hat; have HB5 := Lib.hid (HB4.out.grown hg5 (by omega) (fun k hk => (hown4.lt k hk).1)); have HO5 := Lib.hid hown5; clear hown5 hg5 hown4)
    have hjb : L - 1 - (b : Int) ≤ L2 ∧ (l2.length : Int) ≤ b ∧ ∀ x : Int, L2 - (b : Int) ≤ x → L - 1 - (j + 1) * b ≤ x := by
      have h1 := HLB.out
      obtain ⟨rfl, _⟩ | ⟨rfl, _⟩ := HLIT2.out
      · exact ⟨by omega, by omega, fun x hx => by omega⟩
      · exact ⟨by omega, by omega, fun x hx => by omega⟩
    have hjl : ∀ x : Nat, x ≤ b → ((l2.length + x : Nat) : Int) ≤ (j + 1) * b := by
      have h1 := HLB.out
      obtain ⟨rfl, _⟩ | ⟨rfl, _⟩ := HLIT2.out
      · exact fun x hx => by omega
      · exact fun x hx => by omega
    have HJB := Lib.hid hjb
    have HJL := Lib.hid hjl
    clear hjb hjl
    have hdec : Ints (fun k => k ≠ p ∧ lv2.ownBlock ≠ some k) w5 (.slice (some ⟨g5, 0, none⟩) (ds.length + 1) cap5) (ds ++ [lit]) := by
      have h1 := ownsRow_sl1 HO5.out (by omega)
      rw [show ds.map (Value.int .i64) ++ [Value.int .i64 lit] = (ds ++ [lit]).map (.int .i64) by simp] at h1
      have h2 := HL.out.block
      refine ⟨h1.mono fun k hk => ⟨by omega, fun h => by have := h2 k h; omega⟩, fun x hx => ?_⟩
      rcases List.mem_append.1 hx with hx | hx
      · exact HDE3.out.2 x hx
      · simp at hx; subst hx; exact HLO.out.1
    have hcall := HREC.out v HOV.out HOK.out lit (by obtain ⟨_, h⟩ | ⟨_, h⟩ := HLIT2.out; exact .inl h; exact .inr h) w5 (.slice ca cn cc) lv2 mv (.slice (some ⟨g5, 0, none⟩) (ds.length + 1) cap5) L2 (ls ++ l2)
      ⟨HS.out.same (HB5.out.block p hwp), HCL3.out.below HB5.out, HL.out.below HB5.out, hdec, hL2, by have := HJB.out.1; omega, by have := HJB.out.2.1; rw [List.length_append]; omega⟩
    obtain ⟨r, hr⟩ : ∃ r, rec (ds ++ [lit]) = r := ⟨_, rfl⟩
    have HRR : Hid (j = 0 ∧ r = r1 ∨ j = 1 ∧ r = r2) := Lib.hid (by
      rcases HLIT2.out with ⟨h1, h2⟩ | ⟨h1, h2⟩
      · exact .inl ⟨h1, by rw [← hr, h2, Hr1.out]⟩
      · exact .inr ⟨h1, by rw [← hr, h2, Hr2.out]⟩)
    rw [hr] at hcall
    have HCALL := Lib.hid hcall
    clear hcall hr hdec
    trace "D3"
    refine HCALL.out.mono ?_
    rintro e w6 ⟨o, L3, lv3, mv3, rfl, ho, hs6, hL31, hL32, hl6, hr6, hm6, hmn6, hk6, hown6⟩
    have HK6 : Hid (Kept (fun k => k = p ∨ lv.ownBlock = some k) w w6) := Lib.hid ((HKX.out.trans (Kept.of_below (A := fun k => k = p) HB5.out) (fun i _ h => .inl h)).trans hk6 (fun i hi h => by
      rcases h with h | h
      · exact .inl h
      · rcases HOWN.out i h with h | h
        · exact .inr h
        · omega))
    have HOWN6 : Hid (∀ k, lv3.ownBlock = some k → lv.ownBlock = some k ∨ w.heap.size ≤ k) := Lib.hid (fun k h => by
      rcases hown6 k h with h | h
      · exact HOWN.out k h
      · have := HB5.out.size; right; omega)
    have HS6 := Lib.hid hs6
    have HL6 : Hid (LemO w6 p lv3 (ls ++ (l2 ++ r.2))) := Lib.hid (by rw [← List.append_assoc]; exact hl6)
    have HM6 := Lib.hid hm6
    have HB6 : Hid (L - 1 - (j + 1) * b ≤ L3 ∧ ((l2 ++ r.2).length : Int) ≤ (j + 1) * b) := Lib.hid ⟨HJB.out.2.2 L3 hL32, by rw [List.length_append]; exact HJL.out _ hr6⟩
    have hnum : L - (2 * b + 1 : Nat) ≤ L3 ∧ (l2 ++ r.2).length ≤ 2 * b + 1 := by
      have h1 := HJB.out
      rw [List.length_append]
      omega
    clear hk6 hown6 hs6 hl6 hm6 HLB HJB HJL
    rcases hrn : r.1 with _ | x
    · have HSN := Lib.hid (HST.out.none HRR.out hrn)
      obtain rfl : o = 0 := by rw [ho, hrn]; rfl
      obtain rfl : mv3 = mv := hmn6 hrn
      clear hrn ho hnum hmn6
      go_wp2_with fail
      go_roundg (gk - 1)
      case measure => have := HJ.out; omega
      case rel => exact ⟨j + 1, L3, lv3, l2 ++ r.2, by have := HJ.out; omega, by have := HJ.out; omega, by go_num, HS6, HL6, HK6, HOWN6, HSN, hL31, HB6⟩
    · have HSN := Lib.hid (HST.out.some HRR.out hrn)
      obtain rfl : o = 1 := by rw [ho, hrn]; rfl
      have HRN := Lib.hid hrn
      clear hrn ho hmn6
      go_wp2_with fail
      try rw [Exit.noGoto_ret]
      go_ret
      refine ⟨1, L3, lv3, mv3, rfl, by rw [HSN.out]; rfl, HS6.out, hL31, hnum.1, by rw [HSN.out]; exact HL6.out, by rw [HSN.out]; exact hnum.2, fun y hy => ?_, (fun h => by rw [HSN.out] at h; cases h), HK6.out, HOWN6.out⟩
      rw [HSN.out] at hy
      injection hy with hy
      subst hy
      exact HM6.out _ HRN.out
  case rest =>
  clear HSR2 HLE2 HDE2 HCL2 HK HB HMK e0 e1 e2 z2 z4 HREC HR
  obtain ⟨L2, lv2, l2, HS2, HL2, HK2, HOWN2, HRR, hL21, hL22, hl2⟩ := hcut
  obtain ⟨LA, hLA⟩ : ∃ x, ls ++ l2 = x := ⟨_, rfl⟩
  rw [hLA] at HL2
  have HLA := Lib.hid hLA
  clear hLA
  obtain ⟨la, lc, rfl⟩ := HL2.out.form
  have hlb2 := HL2.out.block
  have hlb0 := HLE0.out.block
  have hde2 := HDE0.out.lt.move (w' := wc) fun k h1 h2 => HK2.out.block k h2 (by rintro (h | h); exact h1.1.1 h; exact h1.1.2 h)
  have HDE2 := Lib.hid hde2
  have hinfo : (Try.prog.info? 3).map (fun i => (i.zero, i.size, i.bytes)) = some (some (.int .i64 0), 1, 8) := by kernel_rfl
  obtain ⟨i0, g1, g2, g3, g4⟩ := info_parts hinfo
  have G1 := Lib.hid g1
  have G2 := Lib.hid g2
  have G3 := Lib.hid g3
  have G4 := Lib.hid g4
  have hinfo2 : (Try.prog.info? 25).map (fun i => (i.zero, i.size, i.bytes)) = some (some (.slice none 0 0), 1, 24) := by kernel_rfl
  have HI2 := Lib.hid hinfo2
  have hpc := HS2.out.lt
  have hwc := HK2.out.size
  have hlen : LA.length ≤ 1099511627775 := by rw [← HLA.out, List.length_append]; omega
  have HLB2 := Lib.hid hlb2
  have HLB0 := Lib.hid hlb0
  have HN2 : Hid ((l2 ++ [ds.map fun l => -l]).length ≤ 2 * b + 1) := Lib.hid (by rw [List.length_append]; simp; omega)
  clear hinfo hinfo2 g1 g2 g3 g4 hlb2 hlb0 hde2
  trace "E"
  go_upto_region 25 with (at_make; refine wpList_make_full _ rfl _ _ 25 rfl wc.heap.size 3 i0 (.int .i64 0) 1 (by kernel_rfl) G1.out G2.out G3.out .i64 .i64 _ _ dn rfl rfl (by simp) (by simp) (by rw [G4.out]; have := HDN.out; omega) (by unfold maxLen; omega) (by simp) ?_; intro w5 hown5 hg5; have HB5 := Lib.hid ((Below.refl _ _).grown hg5 (Nat.le_refl _) (by intro k hk; cases hk)); have HO5 := Lib.hid hown5; clear hown5 hg5)
  have hown6 := HO5.out
  rw [made_ints] at hown6
  clear HO5
  go_wp2
  go_loopg [117] dn (fun gg u117 wx => ∃ (k : Nat) (xs : List Int), k + gg = dn ∧ u117 = .int .i64 k ∧ wx.ownsRow wc.heap.size 3 1 (.slice (some ⟨wc.heap.size, 0, none⟩) dn dn) dn (xs.map (.int .i64)) ∧ Hid (Below wc.heap.size wc wx) ∧ Hid (xs.take k = (ds.map fun l => -l).take k))
  case atStart => exact ⟨0, _, by omega, rfl, hown6, HB5, Lib.hid rfl⟩
  case round =>
  clear hown6 HB5
  obtain ⟨k, xs, hkg, rfl, hown, HB, HX⟩ := hrel
  have hxl : xs.length = dn := by simpa using hown.1
  by_cases hk : k < dn
  case pos =>
    obtain ⟨x, hx, e⟩ := drop_at (xs := ds) (k := k) (by have := HDN.out; omega)
    have hde3 := HDE2.out.below HB.out
    obtain ⟨xb, xo, rfl, _, hxb, hxc, _⟩ := hde3.at hx
    have hx0 : -1000000 ≤ x ∧ x ≤ 1000000 := by obtain ⟨_, h2, h3⟩ := HDS.out x (List.mem_of_getElem? hx); omega
    obtain ⟨x1, hx1, hc1, hz1, _, hlt1, hset⟩ := own_at (.int .i64) hown hk
    have hown2 := hset (-x)
    have HX2 : Hid ((xs.set k (-x)).take (k + 1) = (ds.map fun l => -l).take (k + 1)) := Lib.hid (by
      have hkd : k < ds.length := by have := HDN.out; omega
      rw [List.take_succ_eq_append_getElem (by simp; omega), List.take_succ_eq_append_getElem (by simp; omega), List.take_set_of_le (Nat.le_refl _), HX.out]
      have : ds[k] = x := by rw [List.getElem?_eq_getElem hkd] at hx; injection hx
      simp [this])
    have HOW2 := Lib.hid hown2
    have HB2 := Lib.hid (HB.out.setCell (p := ⟨wc.heap.size, k, none⟩) (Nat.le_refl _) (.int .i64 (-x)))
    clear e hx hde3 hx1 hset hown2 hown HX
    go_wp2
    go_roundg (gk - 1)
    case measure => omega
    case rel => exact ⟨k + 1, _, by omega, by go_num, HOW2.out, HB2, HX2⟩
  have HXX : Hid (xs = ds.map fun l => -l) := Lib.hid (by
    have h1 := HX.out
    rwa [List.take_of_length_le (by omega), List.take_of_length_le (by simp; have := HDN.out; omega)] at h1)
  have hk2 : dn ≤ k := by omega
  obtain ⟨us, hownl, hus, hrow⟩ := HL2.out.below (HB.out)
  have hsr9 := HS2.out.same (HB.out.block p hpc)
  have HS9 := Lib.hid hsr9
  have k3 := hsr9.c3
  have kz := hsr9.fz 3
  have hns : Ints (fun b => p < b ∧ (Value.slice la LA.length lc).ownBlock ≠ some b) wr (.slice (some ⟨wc.heap.size, 0, none⟩) dn dn) (ds.map fun l => -l) := by
    have h1 := ownsRow_sl1 hown (by omega)
    rw [HXX.out] at h1
    refine ⟨h1.mono fun b hb => ⟨by omega, fun h => by have := HLB2.out b h; omega⟩, fun x hx => ?_⟩
    obtain ⟨y, hy, rfl⟩ := List.mem_map.1 hx
    obtain ⟨_, h2, h3⟩ := HDS.out y hy
    unfold I64
    omega
  have HNS := Lib.hid hns
  have HUS := Lib.hid hus
  have HROW := Lib.hid hrow
  have hwr := HB.out.size
  have hpr : p + 1 ≤ wr.heap.size := by omega
  clear hk HX hown hsr9 hns hus hrow
  trace "F"
  go_wp2_with (at_builtin; go_loud (refine wpList_push1 rfl _ _ 22 rfl 25 (.slice none 0 0) 24 Try.underlying22 HI2.out rfl (p + 1) (.slice la LA.length lc) LA.length us wr (.slice (some ⟨wc.heap.size, 0, none⟩) dn dn) rfl rfl hownl rfl (by omega) (by omega) (by omega) ?_); intro g3 cap3 w3 hown3 hg3 hs3 hgb hgl hat; have HLM := Lib.hid (LemO.push HUS.out HROW.out HNS.out hown3 hg3 hat); have HG3 := Lib.hid hg3; have HAT := Lib.hid hat; have HS10 := Lib.hid (HS9.out.same (hg3.block p (by omega) (fun e => by have := HLB2.out p e.symm; omega))); have k3' := HS10.out.c3; have kz' := HS10.out.fz 3; clear hown3 hg3 hownl hat k3 kz)
  go_ret
  have hfin := HS10.out.set3 (.slice (some ⟨g3, 0, none⟩) (LA.length + 1) cap3)
  refine ⟨0, L2, _, mv, rfl, by rw [HRR.out]; rfl, hfin, hL21, hL22, ?_, by rw [HRR.out]; exact HN2.out, (fun y hy => by rw [HRR.out] at hy; cases hy), (fun _ => rfl), ?_, fun k hk => ?_⟩
  · rw [HRR.out, ← List.append_assoc, HLA.out]
    exact HLM.out.move fun b hb _ => Below.heap_setCell w3 _ _ b (by show b ≠ p; omega)
  · refine Kept.set (A := fun k => k = p ∨ lv.ownBlock = some k) (Kept.grown (HK2.out.trans (Kept.of_below (A := fun k => k = p) HB.out) (fun i _ h => .inl h)) HG3.out (fun k hk h => ?_)) (p := ⟨p, 3, none⟩) (.inl rfl) _
    rcases HOWN2.out k h with h | h
    · exact .inr h
    · omega
  · simp [Value.ownBlock] at hk
    subst hk
    rcases HAT.out with h | h
    · exact HOWN2.out _ h
    · right; omega
end Go.Proofs.Ytjbhglmmakkkgaa
