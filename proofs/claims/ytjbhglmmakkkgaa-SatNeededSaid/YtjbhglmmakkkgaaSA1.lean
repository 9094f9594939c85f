/- Walk of the law SatSolves. -/
import Derived.Test.YtjbhglmmakkkgaaSu
import Derived.Test.YtjbhglmmakkkgaaSk
namespace Go.Proofs.Ytjbhglmmakkkgaa
open Go.ChangeShapes Go.WideShapes Go.ChangeAt Go.RowKit
set_option linter.unusedVariables false

theorem few_of {vars : Int} {cs : List (List Int)} {v n : Int} (h : fewM vars cs v n = true) : vars ≤ v ∧ (cs.length : Int) ≤ n ∧ shortM cs v = true := by
  unfold fewM at h
  simp only [Bool.and_eq_true, decide_eq_true_eq] at h
  exact ⟨h.1.1, h.1.2, h.2⟩
/-- the law's argument, boxed in block b -/
structure Box (F : Nat → Prop) (w : World) (b : Nat) (vars keep : Int) (cv : Value) (cs : List (List Int)) : Prop where
  c0 : w.cell? ⟨b, 0, none⟩ = some (.int .i64 vars)
  c1 : w.cell? ⟨b, 1, none⟩ = some (.int .i64 keep)
  c2 : w.cell? ⟨b, 2, none⟩ = some cv
  cls : Clss F w cv cs
theorem Box.below {F : Nat → Prop} {w w' : World} {b : Nat} {vars keep : Int} {cv : Value} {cs : List (List Int)} (h : Box F w b vars keep cv cs) (hb : Below w.heap.size w w') : Box F w' b vars keep cv cs :=
  ⟨below_c hb (block_lt h.c0) h.c0, below_c hb (block_lt h.c0) h.c1, below_c hb (block_lt h.c0) h.c2, h.cls.below hb⟩
theorem Box.new {F : Nat → Prop} {w : World} {vars keep : Int} {cv : Value} {cs : List (List Int)} (h : Clss F w cv cs) : Box F (w.alloc (.cells #[.int .i64 vars, .int .i64 keep, cv] 24)) w.heap.size vars keep cv cs :=
  ⟨by simp, by simp, by simp, h.below ((Below.refl _ _).alloc (Nat.le_refl _) _)⟩

set_option maxRecDepth 100000 in
set_option maxHeartbeats 8000000 in
theorem solves_walk {F : Nat → Prop} (vars keep : Int) (cv : Value) (cs : List (List Int)) (w : World) (hc : Clss F w cv cs) (hv : I64 vars) (hk : I64 keep) :
    Calls Try.prog 4 #[.agg #[.int .i64 vars, .int .i64 keep, cv]] w (BoolPost w true) := by
  obtain ⟨a, n, c, rfl, HN, hn⟩ := hc.form'
  have hb : Below w.heap.size w (w.alloc (.cells #[.int .i64 vars, .int .i64 keep, .slice a n c] 24)) := (Below.refl _ _).alloc (Nat.le_refl _) _
  have HB := Lib.hid hb
  have HX := Lib.hid (Box.new (vars := vars) (keep := keep) hc)
  clear hb hc
  go_enter Try.func4, Try.ntmps4
  go_wp2_with fail
  refine (known_any _).mono ?_
  rintro e w1 ⟨rfl, hb1⟩
  have HB1 : Hid (Below w.heap.size w w1) := Lib.hid (HB.out.trans (hb1.mono (by simp)))
  have HX1 := Lib.hid (HX.out.below hb1)
  have c0 := HX1.out.c0
  have c1 := HX1.out.c1
  have c2 := HX1.out.c2
  clear hb1 HX HB
  go_wp2_with fail
  refine (few_any vars keep 8 40 _ cs w1 HX1.out.cls (by omega) hv).mono ?_
  rintro e w2 ⟨rfl, hb2⟩
  have HB2 : Hid (Below w.heap.size w w2) := Lib.hid (HB1.out.trans (hb2.mono HB1.out.size))
  have HX2 := Lib.hid (HX1.out.below hb2)
  clear hb2 c0 c1 c2 HX1 HB1
  rcases hf : fewM vars cs 8 40 with _ | _
  · go_wp2_with fail
    go_ret
    exact ⟨rfl, HB2.out⟩
  obtain ⟨hv8, _, _⟩ := few_of hf
  have hso := Solve_any vars keep (.slice a n c) cs w2 HX2.out.cls hv hk (by omega)
  obtain ⟨S, hS⟩ : ∃ S, solvesM vars keep cs = S := ⟨_, rfl⟩
  rw [hS] at hso
  have HSO := Lib.hid hso
  have HS := Lib.hid hS
  have c0 := HX2.out.c0
  have c1 := HX2.out.c1
  have c2 := HX2.out.c2
  clear hf hso hS
  go_wp2_with fail
  refine HSO.out.mono ?_
  rintro e w3 ⟨mv, rfl, hm, hb3⟩
  have HB3 : Hid (Below w.heap.size w w3) := Lib.hid (HB2.out.trans (hb3.mono HB2.out.size))
  have HX3 := Lib.hid (HX2.out.below hb3)
  have HM := Lib.hid hm
  obtain ⟨ma, mn, mc, rfl, HMN⟩ : ∃ a n c, mv = .slice a n c ∧ Hid (n = S.1.length) := by
    obtain ⟨a, c, h, _⟩ := hm.form
    exact ⟨a, _, c, h, rfl⟩
  clear hb3 hm c0 c1 c2 HX2 HB2 HSO
  have c0 := HX3.out.c0
  have c1 := HX3.out.c1
  have c2 := HX3.out.c2
  have hva := valid_any vars keep (.slice a n c) cs w3 HX3.out.cls hv hk
  obtain ⟨T, hT⟩ : ∃ T, validM vars keep cs = T := ⟨_, rfl⟩
  have HTC : Hid (T = true ↔ checkM vars keep cs = 0) := Lib.hid (by rw [← hT]; exact valid_check vars keep cs)
  rw [hT] at hva
  have HVA := Lib.hid hva
  clear hva hT
  by_cases h0 : checkM vars keep cs = 0
  case neg =>
    obtain rfl : S = ([], false, 1) := by rw [← HS.out, solvesM, if_pos h0]
    obtain rfl : T = false := by
      rcases T with _ | _
      · rfl
      · exact absurd (HTC.out.1 rfl) h0
    have hmn : mn = 0 := HMN.out
    subst hmn
    simp only
    clear h0 HS HTC HMN
    go_wp2_with fail
    refine HVA.out.mono ?_
    rintro e w4 ⟨rfl, hb4⟩
    have HB4 : Hid (Below w.heap.size w w4) := Lib.hid (HB3.out.trans (hb4.mono HB3.out.size))
    clear hb4
    go_wp2_with fail
    go_ret
    exact ⟨rfl, HB4.out⟩
  obtain rfl : T = true := HTC.out.2 h0
  obtain ⟨V, rfl, hV2, _, _, hcl, hlo, _⟩ := check_ok h0
  have HSS : Hid (S = match (solveM V cs []).1 with | some x => (x, true, 0) | none => ([], false, 0)) := Lib.hid (by rw [← HS.out, solvesM, if_neg (by omega)]; rfl)
  have hls := least_solve hlo
  have HLEN := Lib.hid fun x => solveM_len (x := x) (lits := []) hlo (by simp)
  have HLO := Lib.hid hlo
  obtain ⟨r, hr⟩ : ∃ r, (solveM V cs []).1 = r := ⟨_, rfl⟩
  rw [hr] at HSS hls HLEN
  obtain ⟨LE, hLE⟩ : ∃ l, leastM V cs (List.replicate cs.length true) = l := ⟨_, rfl⟩
  have HLE := Lib.hid hLE
  rw [hLE] at hls
  have HLS := Lib.hid hls
  clear h0 HS HTC hls hlo hr hLE
  go_wp2_with fail
  refine HVA.out.mono ?_
  rintro e w4 ⟨rfl, hb4⟩
  have HB4 : Hid (Below w.heap.size w w4) := Lib.hid (HB3.out.trans (hb4.mono HB3.out.size))
  have HX4 := Lib.hid (HX3.out.below hb4)
  have HM4 := Lib.hid (Bools.below HM.out hb4)
  clear hb4 c0 c1 c2 HX3 HB3 HVA HM
  have c0 := HX4.out.c0
  have c1 := HX4.out.c1
  have c2 := HX4.out.c2
  have hle := least_any V keep (.slice a n c) (.slice none 0 0) cs (List.replicate cs.length true) w4 HX4.out.cls (Flags.nil _ _) HLO.out (by omega)
  rw [HLE.out] at hle
  have HLEA := Lib.hid hle
  clear hle
  rcases r with _ | x
  · obtain rfl : S = ([], false, 0) := HSS.out
    obtain rfl : LE = -1 := HLS.out
    have hmn : mn = 0 := HMN.out
    subst hmn
    simp only
    clear HSS HLS HMN HLEN HM4
    go_wp2_with fail
    refine HLEA.out.mono ?_
    rintro e w5 ⟨rfl, hb5⟩
    have HB5 : Hid (Below w.heap.size w w5) := Lib.hid (HB4.out.trans (hb5.mono HB4.out.size))
    clear hb5
    go_wp2_with fail
    go_ret
    exact ⟨rfl, HB5.out⟩
  obtain rfl : S = (x, true, 0) := HSS.out
  obtain ⟨k, hk⟩ : ∃ k, val x = k := ⟨_, rfl⟩
  have hLEk : LE = (k : Int) := by rw [HLS.out, ← hk]
  subst hLEk
  have hxl := HLEN.out x rfl
  have hk24 : k < 16777216 := by
    have h1 := val_lt x
    have h2 := pow24 (V := V) (by omega)
    rw [hxl] at h1
    omega
  have HAS : Hid (asgM V k = x) := Lib.hid (by
    have := asg_of_val x
    rwa [hxl, hk] at this)
  have hkn : decide ((k : Int) < 0) = false := decide_eq_false (by omega)
  simp only at HM4 HMN ⊢
  clear HSS HLS HMN HLEN hxl hk HLE
  go_wp2_with fail
  refine HLEA.out.mono ?_
  rintro e w5 ⟨rfl, hb5⟩
  have HB5 : Hid (Below w.heap.size w w5) := Lib.hid (HB4.out.trans (hb5.mono HB4.out.size))
  have HX5 := Lib.hid (HX4.out.below hb5)
  have HM5 := Lib.hid (Bools.below HM4.out hb5)
  clear hb5 c0 c1 c2 HX4 HB4 HLEA HM4
  have c0 := HX5.out.c0
  go_wp2_with fail
  refine (assignment_any V k w5 (by omega) (by omega)).mono ?_
  rintro e w6 ⟨iv, rfl, hi6, hb6⟩
  rw [HAS.out] at hi6
  have HB6 : Hid (Below w.heap.size w w6) := Lib.hid (HB5.out.trans (hb6.mono HB5.out.size))
  have heq := equalb_any _ iv x x w6 (Bools.below HM5.out hb6) hi6
  have HEQ := Lib.hid heq
  obtain ⟨ia, ic, rfl, _⟩ := hi6.form
  clear hb6 hi6 heq
  go_wp2_with fail
  refine HEQ.out.mono ?_
  rintro e w7 ⟨rfl, n7, rfl⟩
  have hxx : (x == x) = true := by simp
  go_wp2_with fail
  go_ret
  exact ⟨by simp, below_drewN HB6.out _⟩
end Go.Proofs.Ytjbhglmmakkkgaa
