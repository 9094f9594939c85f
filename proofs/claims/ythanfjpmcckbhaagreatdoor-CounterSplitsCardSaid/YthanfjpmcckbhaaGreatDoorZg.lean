/- (Counter seat) Walk: the statement CounterCounts. No condition but that the table of powers lies as laid. -/
import Derived.Test.YthanfjpmcckbhaaGreatDoorZd
import Derived.Test.YthanfjpmcckbhaaGreatDoorNh
namespace Go.Proofs.YthanfjpmcckbhaaGreatDoor
open Go.ChangeShapes Go.WideShapes Go.ChangeAt Go.RowKit
set_option linter.unusedVariables false
set_option linter.unusedSimpArgs false

theorem cw_nil {cs : List (List Int)} (h : Cn' cs) (N : Nat) (hN : N ≤ 1000000) : cwN N cs [] = ((cntM ((occM cs).length + 1) (ivl 0 N) cs : Nat) : Int) := by
  unfold cwN
  rw [proj_cntM h hN, Int.toNat_natCast]
  congr 1
  exact cnt_iff fun f => ⟨fun h => h.1, fun h => ⟨h, fun x hx => by simp at hx⟩⟩
/-- Projected of a valid formula -/
theorem proj_any (F : Nat → Prop) (vars keep : Int) (cv : Value) (cs : List (List Int)) (w : World) (hc : Clss F w cv cs) (hn : Cn' cs) (hs : SzL cs) (hk : 0 ≤ keep ∧ keep ≤ 40) :
    Calls Tryz.prog 15 #[.agg #[.int .i64 vars, .int .i64 keep, cv]] w (IntB w (cwN keep cs [])) := by
  obtain ⟨K, rfl⟩ := Int.eq_ofNat_of_zero_le hk.1
  rw [cw_nil hn K (by omega)]
  exact projected_any _ (occM cs) F vars K cv cs w hn.vs (fun v hv => by have := occM_range hv; omega) (Nat.lt_succ_self _) hc ⟨by have := hs.1; omega, fun c hc => by have := hs.2 c hc; omega⟩ (by omega)
set_option maxRecDepth 100000 in
set_option maxHeartbeats 8000000 in
theorem lawCounts_any (vars keep : Int) (cv : Value) (cs : List (List Int)) (w : World) (hc : Clss (fun _ => True) w cv cs) (hiv : I64 vars) (hik : I64 keep) (htab : TabB w.heap.size w) :
    Calls Tryz.prog 3 #[.agg #[.int .i64 vars, .int .i64 keep, cv]] w (BoolPost w true) := by
  obtain ⟨ca, cn, cc, rfl, _, _⟩ := hc.form'
  obtain ⟨bb, hbb⟩ : ∃ b, w.heap.size = b := ⟨_, rfl⟩
  obtain ⟨W1, hW1⟩ : ∃ W, w.alloc (.cells #[.int .i64 vars, .int .i64 keep, .slice ca cn cc] 24) = W := ⟨_, rfl⟩
  have hb1 : Below w.heap.size w W1 := by rw [← hW1]; exact (Below.refl _ _).alloc (Nat.le_refl _) _
  have hr0 : W1.heap[bb]? = some (.cells #[.int .i64 vars, .int .i64 keep, .slice ca cn cc] 24) := by rw [← hW1]; exact new_at' _ _ hbb.symm
  have c0 : W1.cell? ⟨bb, 0, none⟩ = some (.int .i64 vars) := by rw [cell_of_row _ _ _ _ _ _ hr0]; rfl
  have c1 : W1.cell? ⟨bb, 1, none⟩ = some (.int .i64 keep) := by rw [cell_of_row _ _ _ _ _ _ hr0]; rfl
  have c2 : W1.cell? ⟨bb, 2, none⟩ = some (.slice ca cn cc) := by rw [cell_of_row _ _ _ _ _ _ hr0]; rfl
  have hlt1 := block_lt c0
  have HC := Lib.hid (hc.below hb1)
  have HB1 := Lib.hid hb1
  have HIV := Lib.hid hiv
  have HIK := Lib.hid hik
  have ht1 : TabB W1.heap.size W1 := (htab.below hb1 (Nat.le_refl _)).up hb1.size
  have HT1 := Lib.hid ht1
  have HKN := Lib.hid (known_any W1 ht1)
  clear hc hr0 hb1 hiv hik htab ht1
  go_enter Tryz.func3, Tryz.ntmps3
  go_wp2_with fail
  try rw [hW1]
  try rw [hbb]
  clear hW1 hbb
  refine HKN.out.mono ?_
  rintro e w2 ⟨rfl, hb2⟩
  have HB2 : Hid (Below w.heap.size w w2) := Lib.hid (HB1.out.trans (hb2.mono HB1.out.size))
  have HC2 := Lib.hid (HC.out.below hb2)
  have HT2 : Hid (TabB w2.heap.size w2) := Lib.hid ((HT1.out.below hb2 (Nat.le_refl _)).up hb2.size)
  have y0 := below_c hb2 hlt1 c0
  have y1 := below_c hb2 hlt1 c1
  have y2 := below_c hb2 hlt1 c2
  have hlt2 := block_lt y0
  clear hb2 HKN HB1 HC HT1 c0 c1 c2 hlt1
  have hfw := lfew_any _ vars keep _ cs w2 HC2.out HIV.out HIK.out
  obtain ⟨B1, hB1⟩ : ∃ B, fewB vars keep cs = B := ⟨_, rfl⟩
  rw [hB1] at hfw
  have HFW := Lib.hid hfw
  have HBF := Lib.hid hB1
  clear hfw hB1
  go_wp2_with fail
  refine HFW.out.mono ?_
  rintro e w3 ⟨rfl, hb3⟩
  have HB3 : Hid (Below w.heap.size w w3) := Lib.hid (HB2.out.trans (hb3.mono HB2.out.size))
  have HC3 := Lib.hid (HC2.out.below hb3)
  have HT3 : Hid (TabB w3.heap.size w3) := Lib.hid ((HT2.out.below hb3 (Nat.le_refl _)).up hb3.size)
  have z0 := below_c hb3 hlt2 y0
  have z1 := below_c hb3 hlt2 y1
  have z2 := below_c hb3 hlt2 y2
  have hlt3 := block_lt z0
  clear hb3 HFW HB2 HC2 HT2 y0 y1 y2 hlt2
  rcases bool2 B1 with rfl | rfl
  rotate_left
  · go_wp2_with fail
    go_ret
    exact ⟨rfl, HB3.out⟩
  obtain ⟨hsz, h9, _, _⟩ := fewB_ok HBF.out
  have HSZ := Lib.hid hsz
  have HCT := Lib.hid (pcount_any _ vars keep _ cs w3 HC3.out HIV.out HIK.out hsz h9 HT3.out)
  clear hsz h9 HBF
  -- after the preamble
  go_wp2_with fail
  refine HCT.out.mono ?_
  rintro e w4 ⟨n, c, rfl, q1, q2, q3, hb4⟩
  have HB4 : Hid (Below w.heap.size w w4) := Lib.hid (HB3.out.trans (hb4.mono HB3.out.size))
  have HC4 := Lib.hid (HC3.out.below hb4)
  have y0 := below_c hb4 hlt3 z0
  have y1 := below_c hb4 hlt3 z1
  have y2 := below_c hb4 hlt3 z2
  have hlt4 := block_lt y0
  have hak := lasked_any _ (fun _ => True) vars keep _ (.slice none 0 0) cs [] w4 HC4.out (Ints.nil _ _) HIV.out HIK.out HSZ.out
  rw [← q1] at hak
  have HAK := Lib.hid hak
  have HQ1 := Lib.hid q1
  have HQ2 := Lib.hid q2
  have HQ3 := Lib.hid q3
  clear hak q1 q2 q3 hb4 HCT HB3 HC3 HT3 z0 z1 z2 hlt3
  go_wp2_with fail
  refine HAK.out.mono ?_
  rintro e w5 ⟨rfl, hb5⟩
  have HB5 : Hid (Below w.heap.size w w5) := Lib.hid (HB4.out.trans (hb5.mono HB4.out.size))
  have HC5 := Lib.hid (HC4.out.below hb5)
  have z0 := below_c hb5 hlt4 y0
  have z1 := below_c hb5 hlt4 y1
  have z2 := below_c hb5 hlt4 y2
  clear hb5 HAK HB4 HC4 y0 y1 y2 hlt4
  by_cases hc0 : c = 0
  rotate_left
  · have hd : (c != 0) = true := by simp; exact hc0
    have hn := HQ2.out hc0
    subst hn
    have hcc : (c == c) = true := by simp
    clear hc0
    go_wp2_with fail
    go_ret
    exact ⟨rfl, HB5.out⟩
  subst hc0
  have hn := HQ3.out rfl
  obtain ⟨hcc, _, hk40⟩ := asked_ok HQ1.out.symm
  have hdm := check_dims hcc
  have hpr := proj_any _ vars keep _ cs w5 HC5.out (cn_of_check hcc) HSZ.out ⟨hdm.1, hk40⟩
  rw [← hn] at hpr
  have HPR := Lib.hid hpr
  clear hpr hn hcc hdm hk40 HQ1 HQ2 HQ3
  have hnn : (n == n) = true := by simp
  go_wp2_with fail
  refine HPR.out.mono ?_
  rintro e w6 ⟨rfl, hb6⟩
  have HB6 : Hid (Below w.heap.size w w6) := Lib.hid (HB5.out.trans (hb6.mono HB5.out.size))
  clear hb6 HPR
  go_wp2_with fail
  go_ret
  exact ⟨rfl, HB6.out⟩
end Go.Proofs.YthanfjpmcckbhaaGreatDoor
