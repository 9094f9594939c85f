/- Walk of the law SatChecks. -/
import Derived.Test.YtjbhglmmakkkgaaSC2
namespace Go.Proofs.Ytjbhglmmakkkgaa
open Go.ChangeShapes Go.WideShapes Go.ChangeAt Go.RowKit
set_option linter.unusedVariables false

set_option maxRecDepth 100000 in
set_option maxHeartbeats 8000000 in
theorem checks_walk {F G : Nat → Prop} (vars keep : Int) (cv lv : Value) (cs : List (List Int)) (ls : List (List Int)) (w : World) (hc : Clss F w cv cs) (hl : Clss G w lv ls) (hv : I64 vars) (hk : I64 keep) :
    Calls Try.prog 9 #[.agg #[.int .i64 vars, .int .i64 keep, cv], lv] w (BoolPost w true) := by
  obtain ⟨a, n, c, rfl, HN, hn⟩ := hc.form'
  obtain ⟨la, ln, lc, rfl, HLN, hln⟩ := hl.form'
  have hb : Below w.heap.size w (w.alloc (.cells #[.int .i64 vars, .int .i64 keep, .slice a n c] 24)) := (Below.refl _ _).alloc (Nat.le_refl _) _
  have HB := Lib.hid hb
  have HL0 := Lib.hid hl
  have HX := Lib.hid (Box.new (vars := vars) (keep := keep) hc)
  clear hb hc hl
  go_enter Try.func9, Try.ntmps9
  go_wp2_with fail
  refine (known_any _).mono ?_
  rintro e w1 ⟨rfl, hb1⟩
  have HB1 : Hid (Below w.heap.size w w1) := Lib.hid (HB.out.trans (hb1.mono (by simp)))
  have HX1 := Lib.hid (HX.out.below hb1)
  have c0 := HX1.out.c0
  have c1 := HX1.out.c1
  have c2 := HX1.out.c2
  clear hb1 HX HB
  go_wp2_with fail
  refine (few_any vars keep 12 40 _ cs w1 HX1.out.cls (by omega) hv).mono ?_
  rintro e w2 ⟨rfl, hb2⟩
  have HB2 : Hid (Below w.heap.size w w2) := Lib.hid (HB1.out.trans (hb2.mono HB1.out.size))
  have HX2 := Lib.hid (HX1.out.below hb2)
  clear hb2 c0 c1 c2 HX1 HB1
  rcases hf : fewM vars cs 12 40 with _ | _
  · go_wp2_with fail
    go_ret
    exact ⟨rfl, HB2.out⟩
  have c0 := HX2.out.c0
  have c1 := HX2.out.c1
  have c2 := HX2.out.c2
  by_cases h20 : 20 < ln
  · have hd : decide ((20 : Int) < ln) = true := by simp; omega
    have hd2 : decide (20 < ln) = true := by simp; omega
    clear h20
    go_wp2_with fail
    go_ret
    exact ⟨rfl, HB2.out⟩
  have hd : decide ((20 : Int) < ln) = false := by simp; omega
  have hd2 : decide (20 < ln) = false := by simp; omega
  have hln20 : ln ≤ 20 := by omega
  obtain ⟨hv12, _, _⟩ := few_of hf
  have hsh := short_any _ (.slice la ln lc) ls 12 w2 (HL0.out.below HB2.out) (by omega)
  obtain ⟨SH, hSH⟩ : ∃ b, shortM ls 12 = b := ⟨_, rfl⟩
  rw [hSH] at hsh
  have HSH := Lib.hid hsh
  clear hf h20 hsh hSH
  rcases bool2 SH with rfl | rfl
  case inr =>
    go_wp2_with fail
    refine HSH.out.mono ?_
    rintro e w3 ⟨rfl, rfl⟩
    go_wp2_with fail
    go_ret
    exact ⟨rfl, HB2.out⟩
  have hrf := Refutes_any vars keep (.slice a n c) (.slice la ln lc) cs ls w2 HX2.out.cls (HL0.out.below HB2.out) hv hk (by have := HLN.out; omega)
  obtain ⟨S, hS⟩ : ∃ S, refutesM vars keep cs ls = S := ⟨_, rfl⟩
  rw [hS] at hrf
  have HRF := Lib.hid hrf
  have HS := Lib.hid hS
  clear hrf hS
  go_wp2_with fail
  refine HSH.out.mono ?_
  rintro e w3 ⟨rfl, rfl⟩
  go_wp2_with fail
  refine HRF.out.mono ?_
  rintro e w4 ⟨rfl, hb4⟩
  have HB4 : Hid (Below w.heap.size w w4) := Lib.hid (HB2.out.trans (hb4.mono HB2.out.size))
  have HX4 := Lib.hid (HX2.out.below hb4)
  clear hb4 c0 c1 c2 HX2 HB2 HRF HSH
  have c0 := HX4.out.c0
  have c1 := HX4.out.c1
  have c2 := HX4.out.c2
  have hva := valid_any vars keep (.slice a n c) cs w4 HX4.out.cls hv hk
  obtain ⟨T, hT⟩ : ∃ T, validM vars keep cs = T := ⟨_, rfl⟩
  have HTC : Hid (T = true ↔ checkM vars keep cs = 0) := Lib.hid (by rw [← hT]; exact valid_check vars keep cs)
  rw [hT] at hva
  have HVA := Lib.hid hva
  clear hva hT
  by_cases h0 : checkM vars keep cs = 0
  case neg =>
    obtain rfl : S = (false, 1) := by rw [← HS.out, refutesM, if_pos h0]
    obtain rfl : T = false := by
      rcases T with _ | _
      · rfl
      · exact absurd (HTC.out.1 rfl) h0
    simp only
    clear h0 HS HTC
    go_wp2_with fail
    refine HVA.out.mono ?_
    rintro e w5 ⟨rfl, hb5⟩
    have HB5 : Hid (Below w.heap.size w w5) := Lib.hid (HB4.out.trans (hb5.mono HB4.out.size))
    clear hb5
    go_wp2_with fail
    go_ret
    exact ⟨rfl, HB5.out⟩
  obtain rfl : T = true := HTC.out.2 h0
  obtain ⟨V, rfl, hV2, _, _, hcl, hlo, _⟩ := check_ok h0
  obtain ⟨RB, hRB⟩ : ∃ b, refutesB V cs ls = b := ⟨_, rfl⟩
  obtain rfl : S = (RB, 0) := by rw [← HS.out, refutesM, if_neg (by omega), ← hRB]; rfl
  have HLO := Lib.hid hlo
  have HRB := Lib.hid hRB
  simp only
  clear h0 HS HTC hlo hRB
  go_wp2_with fail
  refine HVA.out.mono ?_
  rintro e w5 ⟨rfl, hb5⟩
  have HB5 : Hid (Below w.heap.size w w5) := Lib.hid (HB4.out.trans (hb5.mono HB4.out.size))
  have HX5 := Lib.hid (HX4.out.below hb5)
  clear hb5 c0 c1 c2 HX4 HB4 HVA
  have c0 := HX5.out.c0
  have c1 := HX5.out.c1
  have c2 := HX5.out.c2
  have hre := refutes_any V keep (.slice a n c) (.slice la ln lc) cs ls w5 HX5.out.cls (HL0.out.below HB5.out) HLO.out (by omega) (by omega) (by have := HLN.out; omega)
  rw [HRB.out] at hre
  have HRE := Lib.hid hre
  clear hre
  go_wp2_with fail
  refine HRE.out.mono ?_
  rintro e w6 ⟨rfl, hb6⟩
  have HB6 : Hid (Below w.heap.size w w6) := Lib.hid (HB5.out.trans (hb6.mono HB5.out.size))
  clear hb6
  rcases bool2 RB with rfl | rfl
  · go_wp2_with fail
    go_ret
    exact ⟨rfl, HB6.out⟩
  · go_wp2_with fail
    go_ret
    exact ⟨rfl, HB6.out⟩
end Go.Proofs.Ytjbhglmmakkkgaa
