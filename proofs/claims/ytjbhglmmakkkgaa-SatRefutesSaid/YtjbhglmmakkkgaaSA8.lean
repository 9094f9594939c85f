/- Walk of the law SatRefutes. -/
import Derived.Test.YtjbhglmmakkkgaaSA1
import Derived.Test.YtjbhglmmakkkgaaSC2
namespace Go.Proofs.Ytjbhglmmakkkgaa
open Go.ChangeShapes Go.WideShapes Go.ChangeAt Go.RowKit
set_option linter.unusedVariables false

theorem runStep_len {V b : Nat} {cs : List (List Int)} {rec : List Int → Rrun} {ds : List Int} (h : ∀ ds, (rec ds).2.length ≤ b) : (runStep V cs rec ds).2.length ≤ 2 * b + 1 := by
  unfold runStep
  split
  · simp
  · rcases openM V (marksM V cs ds) with _ | v
    · simp [branchM]
    · rw [branchM]
      have h1 := h (ds ++ [-(v : Int)])
      have h2 := h (ds ++ [(v : Int)])
      generalize rec (ds ++ [-(v : Int)]) = q1 at *
      generalize rec (ds ++ [(v : Int)]) = q2 at *
      rcases q1 with ⟨_ | x, l1⟩
      · rcases q2 with ⟨_ | y, l2⟩
        · simp only [firstM, secondM, List.length_append, List.length_cons, List.length_nil] at *
          omega
        · simp only [firstM, secondM, List.length_append] at *
          omega
      · simp only [firstM] at *
        omega
theorem runM_len {V : Nat} {cs : List (List Int)} : ∀ (n : Nat) (ds : List Int), (runM V cs n ds).2.length ≤ bud n
  | 0, ds => runStep_len (b := 0) fun _ => by simp
  | n + 1, ds => runStep_len (b := bud n) fun ds => runM_len n ds
theorem solveM_len2 {V : Nat} {cs : List (List Int)} {lits : List Int} (hV : V ≤ 24) : (solveM V cs lits).2.length ≤ 33554432 := Nat.le_trans (runM_len V []) (bud_le hV)
theorem solve_refutes {V : Nat} {cs : List (List Int)} (hcs : LitsOk V cs) (h : (solveM V cs []).1 = none) : refutesB V cs (solveM V cs []).2 = true := by
  have hok := solveM_ok (lits := []) hcs (by simp)
  rw [app_nil_lits] at hok
  obtain ⟨_, h2, _, h4⟩ := hok.absent h
  unfold refutesB lastE
  rw [h2.accepted hcs, h4]
  rfl

set_option maxRecDepth 100000 in
set_option maxHeartbeats 8000000 in
theorem refutes_walk {F : Nat → Prop} (vars keep : Int) (cv : Value) (cs : List (List Int)) (w : World) (hc : Clss F w cv cs) (hv : I64 vars) (hk : I64 keep) :
    Calls Try.prog 11 #[.agg #[.int .i64 vars, .int .i64 keep, cv]] w (BoolPost w true) := by
  obtain ⟨a, n, c, rfl, HN, hn⟩ := hc.form'
  have hb : Below w.heap.size w (w.alloc (.cells #[.int .i64 vars, .int .i64 keep, .slice a n c] 24)) := (Below.refl _ _).alloc (Nat.le_refl _) _
  have HB := Lib.hid hb
  have HX := Lib.hid (Box.new (vars := vars) (keep := keep) hc)
  clear hb hc
  go_enter Try.func11, Try.ntmps11
  go_wp2_with fail
  refine (known_any _).mono ?_
  rintro e w1 ⟨rfl, hb1⟩
  have HB1 : Hid (Below w.heap.size w w1) := Lib.hid (HB.out.trans (hb1.mono (by simp)))
  have HX1 := Lib.hid (HX.out.below hb1)
  have c0 := HX1.out.c0
  have c1 := HX1.out.c1
  have c2 := HX1.out.c2
  clear hb1 HX HB
  go_wp2_with fail
  refine (few_any vars keep 8 40 _ cs w1 HX1.out.cls (by omega) hv).mono ?_
  rintro e w2 ⟨rfl, hb2⟩
  have HB2 : Hid (Below w.heap.size w w2) := Lib.hid (HB1.out.trans (hb2.mono HB1.out.size))
  have HX2 := Lib.hid (HX1.out.below hb2)
  clear hb2 c0 c1 c2 HX1 HB1
  rcases hf : fewM vars cs 8 40 with _ | _
  · go_wp2_with fail
    go_ret
    exact ⟨rfl, HB2.out⟩
  obtain ⟨hv8, _, _⟩ := few_of hf
  have hso := Refute_any vars keep (.slice a n c) cs w2 HX2.out.cls hv hk (by omega) (Nat.le_trans (solveM_len2 (by omega)) (by omega))
  obtain ⟨S, hS⟩ : ∃ S, refuteM vars keep cs = S := ⟨_, rfl⟩
  rw [hS] at hso
  have HSO := Lib.hid hso
  have HS := Lib.hid hS
  have c0 := HX2.out.c0
  have c1 := HX2.out.c1
  have c2 := HX2.out.c2
  clear hf hso hS
  go_wp2_with fail
  refine HSO.out.mono ?_
  rintro e w3 ⟨mv, rfl, hm, hb3⟩
  have HB3 : Hid (Below w.heap.size w w3) := Lib.hid (HB2.out.trans (hb3.mono HB2.out.size))
  have HX3 := Lib.hid (HX2.out.below hb3)
  have HM := Lib.hid hm
  obtain ⟨ma, mn, mc, rfl, HMN⟩ : ∃ a n c, mv = .slice a n c ∧ Hid (n = S.1.length) := by
    obtain ⟨a, c, h, _⟩ := hm.form
    exact ⟨a, _, c, h, rfl⟩
  clear hb3 hm c0 c1 c2 HX2 HB2 HSO
  have c0 := HX3.out.c0
  have c1 := HX3.out.c1
  have c2 := HX3.out.c2
  have hva := valid_any vars keep (.slice a n c) cs w3 HX3.out.cls hv hk
  obtain ⟨T, hT⟩ : ∃ T, validM vars keep cs = T := ⟨_, rfl⟩
  have HTC : Hid (T = true ↔ checkM vars keep cs = 0) := Lib.hid (by rw [← hT]; exact valid_check vars keep cs)
  rw [hT] at hva
  have HVA := Lib.hid hva
  clear hva hT
  by_cases h0 : checkM vars keep cs = 0
  case neg =>
    obtain rfl : S = ([], 1) := by rw [← HS.out, refuteM, if_pos h0]
    obtain rfl : T = false := by
      rcases T with _ | _
      · rfl
      · exact absurd (HTC.out.1 rfl) h0
    have hmn : mn = 0 := HMN.out
    subst hmn
    simp only
    clear h0 HS HTC HMN
    go_wp2_with fail
    refine HVA.out.mono ?_
    rintro e w4 ⟨rfl, hb4⟩
    have HB4 : Hid (Below w.heap.size w w4) := Lib.hid (HB3.out.trans (hb4.mono HB3.out.size))
    clear hb4
    go_wp2_with fail
    go_ret
    exact ⟨rfl, HB4.out⟩
  obtain rfl : T = true := HTC.out.2 h0
  obtain ⟨V, rfl, hV2, _, _, hcl, hlo, _⟩ := check_ok h0
  have HSS : Hid (S = if (solveM V cs []).1.isSome = true then ([], 11) else ((solveM V cs []).2, 0)) := Lib.hid (by rw [← HS.out, refuteM, if_neg (by omega)]; rfl)
  have hls := least_solve hlo
  have hrf := solve_refutes hlo
  have hlen := solveM_len2 (V := V) (cs := cs) (lits := []) (by omega)
  have HLO := Lib.hid hlo
  have HCK0 := Lib.hid h0
  obtain ⟨r, hr⟩ : ∃ r, (solveM V cs []).1 = r := ⟨_, rfl⟩
  obtain ⟨LM, hLM⟩ : ∃ r, (solveM V cs []).2 = r := ⟨_, rfl⟩
  rw [hr, hLM] at HSS hrf
  rw [hr] at hls
  rw [hLM] at hlen
  have HRF := Lib.hid hrf
  obtain ⟨LE, hLE⟩ : ∃ l, leastM V cs (List.replicate cs.length true) = l := ⟨_, rfl⟩
  have HLE := Lib.hid hLE
  rw [hLE] at hls
  have HLS := Lib.hid hls
  clear h0 HS HTC hls hlo hr hLE hrf hLM
  go_wp2_with fail
  refine HVA.out.mono ?_
  rintro e w4 ⟨rfl, hb4⟩
  have HB4 : Hid (Below w.heap.size w w4) := Lib.hid (HB3.out.trans (hb4.mono HB3.out.size))
  have HX4 := Lib.hid (HX3.out.below hb4)
  have HM4 := Lib.hid (Clss.below HM.out hb4)
  clear hb4 c0 c1 c2 HX3 HB3 HVA HM
  have c0 := HX4.out.c0
  have c1 := HX4.out.c1
  have c2 := HX4.out.c2
  have hle := least_any V keep (.slice a n c) (.slice none 0 0) cs (List.replicate cs.length true) w4 HX4.out.cls (Flags.nil _ _) HLO.out (by omega)
  rw [HLE.out] at hle
  have HLEA := Lib.hid hle
  clear hle
  rcases r with _ | x
  case some =>
    obtain rfl : S = ([], 11) := HSS.out
    have hkn : decide (0 ≤ LE) = true := decide_eq_true (by have := HLS.out; simp only at this; omega)
    have hmn : mn = 0 := HMN.out
    subst hmn
    simp only
    clear HSS HLS HMN HM4
    go_wp2_with fail
    refine HLEA.out.mono ?_
    rintro e w5 ⟨rfl, hb5⟩
    have HB5 : Hid (Below w.heap.size w w5) := Lib.hid (HB4.out.trans (hb5.mono HB4.out.size))
    clear hb5
    go_wp2_with fail
    go_ret
    exact ⟨rfl, HB5.out⟩
  obtain rfl : S = (LM, 0) := HSS.out
  obtain rfl : LE = -1 := HLS.out
  have hrb := HRF.out rfl
  have HRB := Lib.hid hrb
  have hmnl : mn ≤ 33554432 := by have := HMN.out; simp only at this; omega
  simp only at HM4 HMN ⊢
  clear HSS HLS HLE HRF hrb
  go_wp2_with fail
  refine HLEA.out.mono ?_
  rintro e w5 ⟨rfl, hb5⟩
  have HB5 : Hid (Below w.heap.size w w5) := Lib.hid (HB4.out.trans (hb5.mono HB4.out.size))
  have HX5 := Lib.hid (HX4.out.below hb5)
  have HM5 := Lib.hid (Clss.below HM4.out hb5)
  clear hb5 c0 c1 c2 HX4 HB4 HLEA HM4
  have c0 := HX5.out.c0
  have c1 := HX5.out.c1
  have c2 := HX5.out.c2
  by_cases h120 : 120 < mn
  · have hd : decide ((120 : Int) < mn) = true := by simp; omega
    have hd2 : decide (120 < mn) = true := by simp; omega
    have hrm : refutesM V keep cs LM = (true, 0) := by rw [refutesM, if_neg (by have := HCK0.out; omega), Int.toNat_natCast, HRB.out]
    have hre := Refutes_any V keep (.slice a n c) (.slice ma mn mc) cs LM w5 HX5.out.cls HM5.out hv hk (by have := HMN.out; omega)
    rw [hrm] at hre
    have HRE := Lib.hid hre
    clear h120 hrm hre
    go_wp2_with fail
    refine HRE.out.mono ?_
    rintro e w6 ⟨rfl, hb6⟩
    have HB6 : Hid (Below w.heap.size w w6) := Lib.hid (HB5.out.trans (hb6.mono HB5.out.size))
    clear hb6
    simp only
    go_wp2_with fail
    go_ret
    exact ⟨rfl, HB6.out⟩
  · have hd : decide ((120 : Int) < mn) = false := by simp; omega
    have hd2 : decide (120 < mn) = false := by simp; omega
    have hre := refutes_any V keep (.slice a n c) (.slice ma mn mc) cs LM w5 HX5.out.cls HM5.out HLO.out (by omega) (by omega) (by have := HMN.out; omega)
    rw [HRB.out] at hre
    have HRE := Lib.hid hre
    clear h120 hre
    go_wp2_with fail
    refine HRE.out.mono ?_
    rintro e w6 ⟨rfl, hb6⟩
    have HB6 : Hid (Below w.heap.size w w6) := Lib.hid (HB5.out.trans (hb6.mono HB5.out.size))
    clear hb6
    go_wp2_with fail
    go_ret
    exact ⟨rfl, HB6.out⟩
end Go.Proofs.Ytjbhglmmakkkgaa
