/- Walk of the law SatSound. -/
import Derived.Test.YtjbhglmmakkkgaaSC2
import Derived.Deep.RegionHeld3
namespace Go.Proofs.Ytjbhglmmakkkgaa
open Go.ChangeShapes Go.WideShapes Go.ChangeAt Go.RowKit
set_option linter.unusedVariables false

set_option maxRecDepth 100000 in
set_option maxHeartbeats 8000000 in
theorem sound_walk {F G : Nat → Prop} (vars keep : Int) (cv lv : Value) (cs : List (List Int)) (ls : List (List Int)) (kk : Int) (w : World) (hc : Clss F w cv cs) (hl : Clss G w lv ls) (hv : I64 vars) (hk : I64 keep) (hkk : 0 ≤ kk ∧ kk ≤ 65535) :
    Calls Try.prog 10 #[.agg #[.int .i64 vars, .int .i64 keep, cv], lv, .int .u16 kk] w (BoolPost w true) := by
  obtain ⟨K0, rfl⟩ := Int.eq_ofNat_of_zero_le hkk.1
  have hK0 : K0 ≤ 65535 := by omega
  clear hkk
  obtain ⟨a, n, c, rfl, HN, hn⟩ := hc.form'
  obtain ⟨la, ln, lc, rfl, HLN, hln⟩ := hl.form'
  have hb : Below w.heap.size w (w.alloc (.cells #[.int .i64 vars, .int .i64 keep, .slice a n c] 24)) := (Below.refl _ _).alloc (Nat.le_refl _) _
  have HB := Lib.hid hb
  have HL0 := Lib.hid hl
  have HX := Lib.hid (Box.new (vars := vars) (keep := keep) hc)
  clear hb hc hl
  go_enter Try.func10, Try.ntmps10
  go_wp2_with fail
  refine (known_any _).mono ?_
  rintro e w1 ⟨rfl, hb1⟩
  have HB1 : Hid (Below w.heap.size w w1) := Lib.hid (HB.out.trans (hb1.mono (by simp)))
  have HX1 := Lib.hid (HX.out.below hb1)
  have c0 := HX1.out.c0
  have c1 := HX1.out.c1
  have c2 := HX1.out.c2
  clear hb1 HX HB
  go_wp2_with fail
  refine (few_any vars keep 12 60 _ cs w1 HX1.out.cls (by omega) hv).mono ?_
  rintro e w2 ⟨rfl, hb2⟩
  have HB2 : Hid (Below w.heap.size w w2) := Lib.hid (HB1.out.trans (hb2.mono HB1.out.size))
  have HX2 := Lib.hid (HX1.out.below hb2)
  clear hb2 c0 c1 c2 HX1 HB1
  rcases hf : fewM vars cs 12 60 with _ | _
  · go_wp2_with fail
    go_ret
    exact ⟨rfl, HB2.out⟩
  have c0 := HX2.out.c0
  have c1 := HX2.out.c1
  have c2 := HX2.out.c2
  by_cases h20 : 40 < ln
  · have hd : decide ((40 : Int) < ln) = true := by simp; omega
    have hd2 : decide (40 < ln) = true := by simp; omega
    clear h20
    go_wp2_with fail
    go_ret
    exact ⟨rfl, HB2.out⟩
  have hd : decide ((40 : Int) < ln) = false := by simp; omega
  have hd2 : decide (40 < ln) = false := by simp; omega
  have hln20 : ln ≤ 40 := by omega
  obtain ⟨hv12, _, _⟩ := few_of hf
  have hsh := short_any _ (.slice la ln lc) ls 12 w2 (HL0.out.below HB2.out) (by omega)
  obtain ⟨SH, hSH⟩ : ∃ b, shortM ls 12 = b := ⟨_, rfl⟩
  rw [hSH] at hsh
  have HSH := Lib.hid hsh
  clear hf h20 hsh hSH
  rcases bool2 SH with rfl | rfl
  case inr =>
    go_wp2_with fail
    refine HSH.out.mono ?_
    rintro e w3 ⟨rfl, rfl⟩
    go_wp2_with fail
    go_ret
    exact ⟨rfl, HB2.out⟩
  have hva := valid_any vars keep (.slice a n c) cs w2 HX2.out.cls hv hk
  obtain ⟨T, hT⟩ : ∃ T, validM vars keep cs = T := ⟨_, rfl⟩
  have HTC : Hid (T = true ↔ checkM vars keep cs = 0) := Lib.hid (by rw [← hT]; exact valid_check vars keep cs)
  rw [hT] at hva
  have HVA := Lib.hid hva
  clear hva hT
  go_wp2_with fail
  refine HSH.out.mono ?_
  rintro e w3 ⟨rfl, rfl⟩
  go_wp2_with fail
  refine HVA.out.mono ?_
  rintro e w4 ⟨rfl, hb4⟩
  have HB4 : Hid (Below w.heap.size w w4) := Lib.hid (HB2.out.trans (hb4.mono HB2.out.size))
  have HX4 := Lib.hid (HX2.out.below hb4)
  clear hb4 c0 c1 c2 HX2 HB2 HVA HSH
  rcases bool2 T with rfl | rfl
  case inr =>
    go_wp2_with fail
    go_ret
    exact ⟨rfl, HB4.out⟩
  have h0 := HTC.out.1 rfl
  obtain ⟨V, rfl, hV2, _, _, hcl, hlo, _⟩ := check_ok h0
  have hrf := Refutes_any V keep (.slice a n c) (.slice la ln lc) cs ls w4 HX4.out.cls (HL0.out.below HB4.out) hv hk (by have := HLN.out; omega)
  obtain ⟨RB, hRB⟩ : ∃ b, refutesB V cs ls = b := ⟨_, rfl⟩
  have hrm : refutesM V keep cs ls = (RB, 0) := by rw [refutesM, if_neg (by omega), ← hRB]; rfl
  rw [hrm] at hrf
  have HRF := Lib.hid hrf
  have HLO := Lib.hid hlo
  have HRB := Lib.hid hRB
  have c0 := HX4.out.c0
  have c1 := HX4.out.c1
  have c2 := HX4.out.c2
  clear h0 hrf hrm hRB hlo HTC
  go_wp2_with fail
  refine HRF.out.mono ?_
  rintro e w5 ⟨rfl, hb5⟩
  have HB5 : Hid (Below w.heap.size w w5) := Lib.hid (HB4.out.trans (hb5.mono HB4.out.size))
  have HX5 := Lib.hid (HX4.out.below hb5)
  clear hb5 c0 c1 c2 HX4 HB4 HRF
  have c0 := HX5.out.c0
  have c1 := HX5.out.c1
  have c2 := HX5.out.c2
  simp only
  rcases bool2 RB with rfl | rfl
  case inr =>
    go_upto_region 6 with fail
    go_quiet (fail)
    go_wp2
    go_ret
    exact ⟨rfl, below_drewN HB5.out _⟩
  obtain ⟨P, hP⟩ : ∃ P, 2 ^ V = P := ⟨_, rfl⟩
  have hPI : (2 : Int) ^ V = (P : Int) := by rw [← hP]; simp
  have hP24 : P ≤ 16777216 := by rw [← hP]; exact pow24 (by omega)
  have hP1 : 1 ≤ P := by rw [← hP]; exact Nat.one_le_two_pow
  have hpw := fun w => power_any V w (by omega)
  simp only [hPI] at hpw
  have HPW := Lib.hid hpw
  obtain ⟨K, hK⟩ : ∃ K, K0 % P = K := ⟨_, rfl⟩
  have hm1 : ((K0 : Int) % (P : Int)) = (K : Int) := by rw [← hK]; simp
  have hm2 : ((K0 : Int).tmod (P : Int)) = (K : Int) := by rw [Int.tmod_eq_emod_of_nonneg (by omega)]; exact hm1
  have hKb : K ≤ 65535 := by rw [← hK]; exact Nat.le_trans (Nat.mod_le _ _) hK0
  have hpz : ((P : Int) == 0) = false := by simp; omega
  have hpn : P ≠ 0 := by omega
  have hpn2 : (P : Int) ≠ 0 := by omega
  have hkc : IntKind.i64.wrap (K0 : Int) = (K0 : Int) := IntWalk.i64_in _ ⟨by omega, by omega⟩
  have hk00 : (0 : Int) ≤ K0 := by omega
  have hp00 : (0 : Int) < P := by omega
  have hwb := block_lt c0
  have hmf : modelB cs (asgM V K) = false := refutes_no HLO.out (asg_len _ _) HRB.out
  have hho : ∀ W : World, Below w5.heap.size w5 W → Calls Try.prog 26 #[.agg #[.int .i64 (V : Int), .int .i64 keep, .slice a n c], .slice none 0 0, .int .i64 (K : Int)] W (BoolPost W false) := fun W hb => by
    have := holds_any V K keep (.slice a n c) (.slice none 0 0) cs (List.replicate cs.length true) W (HX5.out.cls.below hb) (Flags.nil _ _) HLO.out (by omega) (by omega)
    rwa [holds_model cs _ rfl, hmf] at this
  have HHO := Lib.hid hho
  clear hP hPI hpw hK hho hmf
  go_upto_region 6 with fail
  go_region_held3 (fun w' => w'.cell? ⟨w.heap.size, 0, none⟩ = some (.int .i64 V) ∧ w'.cell? ⟨w.heap.size, 1, none⟩ = some (.int .i64 keep) ∧ w'.cell? ⟨w.heap.size, 2, none⟩ = some (.slice a n c) ∧ Hid (Below w5.heap.size w5 w'))
    (first | exact ⟨c0, c1, c2, Lib.hid (Below.refl _ _).drew⟩ | exact ⟨below_c hb5 hwb c0, below_c hb5 hwb c1, below_c hb5 hwb c2, Lib.hid hb5⟩)
    (first
      | (go_at_call 25; (with_reducible refine (HPW.out _).mono ?_); rintro e wz ⟨rfl, rfl⟩)
      | (go_at_call 26; (with_reducible refine (HHO.out _ (Below.refl _ _).drew).mono ?_); rintro e wz ⟨rfl, hb5'⟩; have hb5 : Below w5.heap.size w5 wz := ((Below.refl _ _).drew).trans (hb5'.mono (by simp)); clear hb5'))
  all_goals
    go_wp2_with fail
    go_ret
    exact ⟨rfl, HB5.out.trans (hb5.mono HB5.out.size)⟩
end Go.Proofs.Ytjbhglmmakkkgaa
