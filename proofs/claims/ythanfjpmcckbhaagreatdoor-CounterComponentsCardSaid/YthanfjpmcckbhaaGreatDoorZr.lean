/- (Counter seat) Walk: the statement CounterComponents. No condition but that the table of powers lies as laid. -/
import Derived.Test.YthanfjpmcckbhaaGreatDoorZp
namespace Go.Proofs.YthanfjpmcckbhaaGreatDoor
open Go.ChangeShapes Go.WideShapes Go.ChangeAt Go.RowKit
set_option linter.unusedVariables false
set_option linter.unusedSimpArgs false

set_option maxRecDepth 100000 in
set_option maxHeartbeats 16000000 in
theorem lawComponents_any (cv : Value) (cs : List (List Int)) (w : World) (hc : Clss (fun _ => True) w cv cs) (htab : TabB w.heap.size w) :
    Calls Tryz.prog 6 #[cv] w (BoolPost w true) := by
  obtain ⟨ca, cn, cc, rfl, _, _⟩ := hc.form'
  have HC := Lib.hid hc
  have HKN := Lib.hid (known_any w htab)
  clear hc htab
  go_enter Tryz.func6, Tryz.ntmps6
  go_wp2_with fail
  refine HKN.out.mono ?_
  rintro e w2 ⟨rfl, hb2⟩
  have HB2 := Lib.hid hb2
  have HC2 := Lib.hid (HC.out.below hb2)
  have hsh := lshort_any _ _ cs w2 HC2.out
  obtain ⟨B1, hB1⟩ : ∃ B, shortB cs = B := ⟨_, rfl⟩
  rw [hB1] at hsh
  have HSH := Lib.hid hsh
  have HBS := Lib.hid hB1
  clear hb2 HKN HC hsh hB1
  go_wp2_with fail
  refine HSH.out.mono ?_
  rintro e w3 ⟨rfl, nq, rfl⟩
  have HB3 : Hid (Below w.heap.size w (w2.drewN nq)) := Lib.hid (below_drewN HB2.out nq)
  have HC3 := Lib.hid (HC2.out.below (below_drewN (Below.refl _ _) nq))
  obtain ⟨w3, hw3⟩ : ∃ W, W = w2.drewN nq := ⟨_, rfl⟩
  rw [← hw3] at HB3 HC3 ⊢
  clear hw3 HB2 HC2 HSH
  rcases bool2 B1 with rfl | rfl
  rotate_left
  · go_wp2_with fail
    go_ret
    exact ⟨rfl, HB3.out⟩
  obtain ⟨hl40, hl14⟩ := shortB_sz HBS.out
  have HCO := Lib.hid (components_any _ _ cs w3 HC3.out (by omega) (fun c hc => by have := hl14 c hc; omega))
  have HLN : Hid (cs.length ≤ 4000) := Lib.hid (by omega)
  clear hl40 hl14 HBS
  go_wp2_with fail
  refine HCO.out.mono ?_
  rintro e w4 ⟨v4, f, rfl, hv4, hrt, hb4⟩
  have HB4 : Hid (Below w.heap.size w w4) := Lib.hid (HB3.out.trans (hb4.mono HB3.out.size))
  have HC4 := Lib.hid (HC3.out.below hb4)
  have HV4 := Lib.hid hv4
  have HRT := Lib.hid hrt
  have HLC := Lib.hid (lcomponents_any _ _ cs w4 HC4.out HLN.out)
  obtain ⟨ga, gn, gc, rfl, _, _⟩ := hv4.form'
  clear hb4 hv4 hrt HCO HB3 HC3
  go_wp2_with fail
  refine HLC.out.mono ?_
  rintro e w5 ⟨v5, rfl, hv5, hb5⟩
  have HB5 : Hid (Below w.heap.size w w5) := Lib.hid (HB4.out.trans (hb5.mono HB4.out.size))
  have heq := equalc_any _ _ _ _ w5 (HV4.out.below hb5) hv5
  rw [grp_least HRT.out] at heq
  have hone : (grpI (fun i => (leastL (connB cs) cs.length).getD i 0) cs.length == grpI (fun i => (leastL (connB cs) cs.length).getD i 0) cs.length) = true := by simp
  rw [hone] at heq
  have HEQ := Lib.hid heq
  obtain ⟨ha, hn, hc, rfl, _, _⟩ := hv5.form'
  clear hb5 hv5 heq hone HLC HB4 HC4 HV4 HRT
  go_wp2_with fail
  refine HEQ.out.mono ?_
  rintro e w6 ⟨rfl, nr, rfl⟩
  have HB6 : Hid (Below w.heap.size w (w5.drewN nr)) := Lib.hid (below_drewN HB5.out nr)
  clear HEQ HB5
  go_wp2_with fail
  go_ret
  exact ⟨rfl, HB6.out⟩
end Go.Proofs.YthanfjpmcckbhaaGreatDoor
