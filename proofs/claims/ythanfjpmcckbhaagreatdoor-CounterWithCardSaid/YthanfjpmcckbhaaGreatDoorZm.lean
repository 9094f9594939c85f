/- (Counter seat) Walk: the statement CounterWith. No condition but that the table of powers lies as laid. -/
import Derived.Test.YthanfjpmcckbhaaGreatDoorZl
namespace Go.Proofs.YthanfjpmcckbhaaGreatDoor
open Go.ChangeShapes Go.WideShapes Go.ChangeAt Go.RowKit
set_option linter.unusedVariables false
set_option linter.unusedSimpArgs false

set_option maxRecDepth 100000 in
set_option maxHeartbeats 16000000 in
theorem lawWith_any (vars keep : Int) (cv : Value) (cs : List (List Int)) (lv : Value) (ls : List Int) (w : World) (hc : Clss (fun _ => True) w cv cs) (hiv : I64 vars) (hik : I64 keep) (hl : Ints (fun _ => True) w lv ls) (htab : TabB w.heap.size w) :
    Calls Tryz.prog 4 #[.agg #[.int .i64 vars, .int .i64 keep, cv], lv] w (BoolPost w true) := by
  obtain ⟨ca, cn, cc, rfl, _, _⟩ := hc.form'
  obtain ⟨la, ln, lc, rfl, HLN, _⟩ := hl.form'
  obtain ⟨bb, hbb⟩ : ∃ b, w.heap.size = b := ⟨_, rfl⟩
  obtain ⟨W1, hW1⟩ : ∃ W, w.alloc (.cells #[.int .i64 vars, .int .i64 keep, .slice ca cn cc] 24) = W := ⟨_, rfl⟩
  have hb1 : Below w.heap.size w W1 := by rw [← hW1]; exact (Below.refl _ _).alloc (Nat.le_refl _) _
  have hr0 : W1.heap[bb]? = some (.cells #[.int .i64 vars, .int .i64 keep, .slice ca cn cc] 24) := by rw [← hW1]; exact new_at' _ _ hbb.symm
  have c0 : W1.cell? ⟨bb, 0, none⟩ = some (.int .i64 vars) := by rw [cell_of_row _ _ _ _ _ _ hr0]; rfl
  have c1 : W1.cell? ⟨bb, 1, none⟩ = some (.int .i64 keep) := by rw [cell_of_row _ _ _ _ _ _ hr0]; rfl
  have c2 : W1.cell? ⟨bb, 2, none⟩ = some (.slice ca cn cc) := by rw [cell_of_row _ _ _ _ _ _ hr0]; rfl
  have hlt1 := block_lt c0
  have HC := Lib.hid (hc.below hb1)
  have HB1 := Lib.hid hb1
  have HIV := Lib.hid hiv
  have HIK := Lib.hid hik
  have HL1 := Lib.hid (hl.below hb1)
  have ht1 : TabB W1.heap.size W1 := (htab.below hb1 (Nat.le_refl _)).up hb1.size
  have HT1 := Lib.hid ht1
  have HKN := Lib.hid (known_any W1 ht1)
  clear hc hr0 hb1 hiv hik htab ht1 hl
  go_enter Tryz.func4, Tryz.ntmps4
  go_wp2_with fail
  try rw [hW1]
  try rw [hbb]
  clear hW1 hbb
  refine HKN.out.mono ?_
  rintro e w2 ⟨rfl, hb2⟩
  have HB2 : Hid (Below w.heap.size w w2) := Lib.hid (HB1.out.trans (hb2.mono HB1.out.size))
  have HC2 := Lib.hid (HC.out.below hb2)
  have HL2 := Lib.hid (HL1.out.below hb2)
  have HT2 : Hid (TabB w2.heap.size w2) := Lib.hid ((HT1.out.below hb2 (Nat.le_refl _)).up hb2.size)
  have y0 := below_c hb2 hlt1 c0
  have y1 := below_c hb2 hlt1 c1
  have y2 := below_c hb2 hlt1 c2
  have hlt2 := block_lt y0
  clear hb2 HKN HB1 HC HT1 c0 c1 c2 hlt1
  have hfw := lfew_any _ vars keep _ cs w2 HC2.out HIV.out HIK.out
  obtain ⟨B1, hB1⟩ : ∃ B, fewB vars keep cs = B := ⟨_, rfl⟩
  rw [hB1] at hfw
  have HFW := Lib.hid hfw
  have HBF := Lib.hid hB1
  clear hfw hB1
  go_wp2_with fail
  refine HFW.out.mono ?_
  rintro e w3 ⟨rfl, hb3⟩
  have HB3 : Hid (Below w.heap.size w w3) := Lib.hid (HB2.out.trans (hb3.mono HB2.out.size))
  have HC3 := Lib.hid (HC2.out.below hb3)
  have HL3 := Lib.hid (HL2.out.below hb3)
  have HT3 : Hid (TabB w3.heap.size w3) := Lib.hid ((HT2.out.below hb3 (Nat.le_refl _)).up hb3.size)
  have z0 := below_c hb3 hlt2 y0
  have z1 := below_c hb3 hlt2 y1
  have z2 := below_c hb3 hlt2 y2
  have hlt3 := block_lt z0
  clear hb3 HFW HB2 HC2 HT2 y0 y1 y2 hlt2
  rcases bool2 B1 with rfl | rfl
  rotate_left
  · go_wp2_with fail
    go_ret
    exact ⟨rfl, HB3.out⟩
  obtain ⟨hsz, h9f, hl40, hl14⟩ := fewB_ok HBF.out
  have HSZ := Lib.hid hsz
  have H9F := Lib.hid h9f
  have HLL := Lib.hid (And.intro hl40 hl14)
  clear hsz h9f hl40 hl14 HBF
  by_cases h14 : 14 < ln
  · have hd : decide ((14 : Int) < ln) = true := decide_eq_true (by omega)
    have hd' : decide (14 < ln) = true := decide_eq_true h14
    go_wp2_with fail
    go_ret
    exact ⟨rfl, HB3.out⟩
  have hd : decide ((14 : Int) < ln) = false := decide_eq_false (by omega)
  have hd' : decide (14 < ln) = false := decide_eq_false h14
  have hll : ls.length ≤ 14 := by rw [← HLN.out]; omega
  have HLE := Lib.hid hll
  have HCT := Lib.hid (countwith_any _ _ vars keep _ _ cs ls w3 HC3.out HL3.out HIV.out HIK.out HSZ.out (by omega) H9F.out HT3.out)
  clear hll h14
  go_wp2_with fail
  refine HCT.out.mono ?_
  rintro e w4 ⟨n, c, rfl, q1, q2, q3, hb4⟩
  have HB4 : Hid (Below w.heap.size w w4) := Lib.hid (HB3.out.trans (hb4.mono HB3.out.size))
  have HC4 := Lib.hid (HC3.out.below hb4)
  have HL4 := Lib.hid (HL3.out.below hb4)
  have y0 := below_c hb4 hlt3 z0
  have y1 := below_c hb4 hlt3 z1
  have y2 := below_c hb4 hlt3 z2
  have hlt4 := block_lt y0
  have hak := lasked_any _ _ vars keep _ _ cs ls w4 HC4.out HL4.out HIV.out HIK.out HSZ.out
  rw [← q1] at hak
  have HAK := Lib.hid hak
  have HQ1 := Lib.hid q1
  have HQ2 := Lib.hid q2
  have HQ3 := Lib.hid q3
  clear hak q1 q2 q3 hb4 HCT HB3 HC3 HL3 HT3 z0 z1 z2 hlt3
  go_wp2_with fail
  refine HAK.out.mono ?_
  rintro e w5 ⟨rfl, hb5⟩
  have HB5 : Hid (Below w.heap.size w w5) := Lib.hid (HB4.out.trans (hb5.mono HB4.out.size))
  have HC5 := Lib.hid (HC4.out.below hb5)
  have HL5 := Lib.hid (HL4.out.below hb5)
  have z0 := below_c hb5 hlt4 y0
  have z1 := below_c hb5 hlt4 y1
  have z2 := below_c hb5 hlt4 y2
  clear hb5 HAK HB4 HC4 HL4 y0 y1 y2 hlt4
  by_cases hc0 : c = 0
  rotate_left
  · have hd : (c != 0) = true := by simp; exact hc0
    have hn := HQ2.out hc0
    subst hn
    have hcc : (c == c) = true := by simp
    clear hc0
    go_wp2_with fail
    go_ret
    exact ⟨rfl, HB5.out⟩
  subst hc0
  have hn := HQ3.out rfl
  obtain ⟨hcc, hlo, hk40⟩ := asked_ok HQ1.out.symm
  have hdm := check_dims hcc
  have h9 := H9F.out hcc
  have hsm : SmL ls := fun x hx => by
    have := hlo x hx
    exact ⟨this.1, by omega, by omega⟩
  have HWI := Lib.hid (with_any _ _ vars keep _ _ cs ls w5 HC5.out HL5.out HLL.out (by have := HLE.out; omega))
  have HPR : Hid (∀ W v, Clss (fun _ => True) W v (canM (withC cs ls)) → Calls Tryz.prog 15 #[.agg #[.int .i64 vars, .int .i64 keep, v]] W (IntB W n)) := Lib.hid fun W v hv => by
    have h := proj_any _ vars keep v _ W hv (cn_with (cn_of_check hcc) hsm) (sz_with HLL.out (by have := HLE.out; omega)).1 ⟨hdm.1, hk40⟩
    rw [cw_with, ← hn] at h
    exact h
  clear hn hcc hdm hk40 HQ1 HQ2 HQ3 hsm hlo h9
  have hnn : (n == n) = true := by simp
  have hd0 : ((0 : Int) != 0) = false := by decide
  go_wp2_with fail
  refine HWI.out.mono ?_
  rintro e w6 ⟨wv, rfl, hwv, hb6⟩
  obtain ⟨wa, wn, wc, rfl, _, _⟩ := hwv.form'
  have HP6 := Lib.hid (HPR.out w6 _ hwv)
  have HB6 : Hid (Below w.heap.size w w6) := Lib.hid (HB5.out.trans (hb6.mono HB5.out.size))
  clear hwv hb6 HWI HPR
  go_wp2_with fail
  refine HP6.out.mono ?_
  rintro e w7 ⟨rfl, hb7⟩
  have HB7 : Hid (Below w.heap.size w w7) := Lib.hid (HB6.out.trans (hb7.mono HB6.out.size))
  clear hb7 HP6
  go_wp2_with fail
  go_ret
  exact ⟨rfl, HB7.out⟩
end Go.Proofs.YthanfjpmcckbhaaGreatDoor
