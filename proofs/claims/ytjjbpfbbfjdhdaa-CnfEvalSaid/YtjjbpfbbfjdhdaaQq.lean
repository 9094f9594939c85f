/- Walk: the statement CnfEval. No condition. -/
import Derived.Test.YtjjbpfbbfjdhdaaQp
namespace Go.Proofs.Ytjjbpfbbfjdhdaa
open Go.ChangeShapes Go.WideShapes Go.ChangeAt Go.RowKit
set_option linter.unusedVariables false

set_option maxRecDepth 100000 in
set_option maxHeartbeats 8000000 in
theorem CnfEval_any (F G : Nat → Prop) (vars keep : Int) (cv iv : Value) (cs : List (List Int)) (inp : List Bool) (w : World) (hx : Clss F w cv cs) (hy : Bools G w iv inp) (hv : I64 vars) (hk : I64 keep) :
    Calls Try.prog 7 #[.agg #[.int .i64 vars, .int .i64 keep, cv], iv] w (BoolPost w true) := by
  obtain ⟨a, n, c, rfl, HN, hn⟩ := hx.form'
  obtain ⟨ia, im, ic, rfl, HM, him⟩ : ∃ a m c, iv = .slice a m c ∧ Hid (m = inp.length) ∧ m ≤ 9223372036854775807 := by
    obtain ⟨a, c, h1, h2⟩ := hy.form
    exact ⟨a, _, c, h1, rfl, h2⟩
  obtain ⟨W1, hW1⟩ : ∃ W, w.alloc (.cells #[.int .i64 vars, .int .i64 keep, .slice a n c] 28) = W := ⟨_, rfl⟩
  have hb : Below w.heap.size w W1 := by rw [← hW1]; exact (Below.refl _ _).alloc (Nat.le_refl _) _
  have k0 : W1.cell? ⟨w.heap.size, 0, none⟩ = some (.int .i64 vars) := by rw [← hW1]; simp
  have k1 : W1.cell? ⟨w.heap.size, 1, none⟩ = some (.int .i64 keep) := by rw [← hW1]; simp
  have k2 : W1.cell? ⟨w.heap.size, 2, none⟩ = some (.slice a n c) := by rw [← hW1]; simp
  have HX1 := Lib.hid (hx.below hb)
  have HY1 := Lib.hid (Bools.below hy hb)
  have HB1 := Lib.hid hb
  have HV := Lib.hid hv
  have HK := Lib.hid hk
  clear hx hb hv hk hy
  go_enter Try.func7, Try.ntmps7
  go_wp2_with fail
  clear hW1
  refine (known_any W1).mono ?_
  rintro e w2 ⟨rfl, hb2⟩
  have m0 := below_c hb2 (block_lt k0) k0
  have m1 := below_c hb2 (block_lt k1) k1
  have m2 := below_c hb2 (block_lt k2) k2
  have HX2 := Lib.hid (HX1.out.below hb2)
  have HY2 := Lib.hid (Bools.below HY1.out hb2)
  have HB2 : Hid (Below w.heap.size w w2) := Lib.hid (HB1.out.trans (hb2.mono HB1.out.size))
  obtain ⟨Fw, hFw⟩ : ∃ b, fewC cs 60 300 = b := ⟨_, rfl⟩
  have hfew := lfew_any F (.slice a n c) cs 60 300 w2 HX2.out (by omega) (by omega)
  rw [hFw] at hfew
  have HFEW := Lib.hid hfew
  have HFW := Lib.hid hFw
  clear hb2 k0 k1 k2 HX1 HY1 HB1 hfew hFw
  go_wp2_with fail
  refine HFEW.out.mono ?_
  rintro e w3 ⟨rfl, rfl⟩
  rcases bool2 Fw with rfl | rfl
  case inr =>
    go_wp2_with fail
    go_ret
    exact ⟨rfl, HB2.out⟩
  obtain ⟨hl, hll⟩ := few_lens HFW.out
  have HEV := Lib.hid (eval_any F G vars keep (.slice a n c) (.slice ia im ic) cs inp w3 HX2.out HY2.out HV.out HK.out)
  have HL : Hid (cs.length ≤ 60 ∧ ∀ c ∈ cs, c.length ≤ 16777216) := Lib.hid ⟨by omega, fun c hc => by have := hll c hc; omega⟩
  clear HFEW HFW hl hll
  unfold EvalPost at HEV
  obtain ⟨ev, hev⟩ : ∃ v, (evalM vars keep cs inp).1 = v := ⟨_, rfl⟩
  obtain ⟨ec, hec⟩ : ∃ v, (evalM vars keep cs inp).2 = v := ⟨_, rfl⟩
  have HEE : Hid ((ev, ec) = if checkM vars keep cs ≠ 0 then (false, checkM vars keep cs) else if (inp.length : Int) ≠ vars then (false, 2) else (trueM cs inp, 0)) := Lib.hid (by rw [← hev, ← hec]; rfl)
  rw [hev, hec] at HEV
  clear hev hec
  go_wp2_with fail
  refine HEV.out.mono ?_
  rintro e w4 ⟨rfl, hb4⟩
  have j0 := below_c hb4 (block_lt m0) m0
  have j1 := below_c hb4 (block_lt m1) m1
  have j2 := below_c hb4 (block_lt m2) m2
  have HX4 := Lib.hid (HX2.out.below hb4)
  have HY4 := Lib.hid (Bools.below HY2.out hb4)
  have HB4 : Hid (Below w.heap.size w w4) := Lib.hid (HB2.out.trans (hb4.mono HB2.out.size))
  have HLC := Lib.hid (lcheck_any F vars keep (.slice a n c) cs w4 HX4.out HV.out HK.out (by have := HL.out.1; omega) HL.out.2)
  have HLI : Hid (checkM vars keep cs = 0 → 0 ≤ vars ∧ ∀ c ∈ cs, ∀ x ∈ c, x ≠ 0 ∧ varM x ≤ vars) := Lib.hid check_lits
  generalize checkM vars keep cs = CK at *
  clear hb4 m0 m1 m2 HX2 HY2 HB2 HEV
  go_wp2_with fail
  refine HLC.out.mono ?_
  rintro e w5 ⟨rfl, hb5⟩
  have i0 := below_c hb5 (block_lt j0) j0
  have i1 := below_c hb5 (block_lt j1) j1
  have i2 := below_c hb5 (block_lt j2) j2
  have HX5 := Lib.hid (HX4.out.below hb5)
  have HY5 := Lib.hid (Bools.below HY4.out hb5)
  have HB5 : Hid (Below w.heap.size w w5) := Lib.hid (HB4.out.trans (hb5.mono HB4.out.size))
  clear hb5 j0 j1 j2 HX4 HY4 HB4 HLC
  by_cases h0 : CK = 0
  case neg =>
    have hE : ev = false ∧ ec = CK := by
      have := HEE.out
      rw [if_pos h0] at this
      simpa using this
    obtain ⟨rfl, rfl⟩ := hE
    have hd : (ec == 0) = false := by simp [h0]
    have hd1 : (ec != 0) = true := by simp [h0]
    have hd2 : (ec == ec) = true := by simp
    clear h0 HEE
    go_wp2_with fail
    go_ret
    exact ⟨rfl, HB5.out⟩
  subst h0
  obtain ⟨hv0, hlits⟩ := HLI.out rfl
  by_cases h1 : (im : Int) = vars
  case neg =>
    have hE : ev = false ∧ ec = 2 := by
      have := HEE.out
      rw [if_neg (by simp), if_pos (by rw [← HM.out]; exact h1)] at this
      simpa using this
    obtain ⟨rfl, rfl⟩ := hE
    have hd : ((im : Int) != vars) = true := by simp [h1]
    clear h1 HEE
    go_wp2_with fail
    go_ret
    exact ⟨rfl, HB5.out⟩
  have hE : ev = trueM cs inp ∧ ec = 0 := by
    have := HEE.out
    rw [if_neg (by simp), if_neg (by rw [← HM.out]; simpa using h1)] at this
    simpa using this
  obtain ⟨rfl, rfl⟩ := hE
  have hd1 : ((im : Int) != vars) = false := by simp [h1]
  have htr := true_any F G (.slice a n c) (.slice ia im ic) cs inp w5 HX5.out HY5.out (fun c hc x hx => ⟨(hlits c hc x hx).1, by have := (hlits c hc x hx).2; have := HM.out; omega⟩)
  obtain ⟨T, hT⟩ : ∃ T, trueM cs inp = T := ⟨_, rfl⟩
  rw [hT] at htr ⊢
  have HTR := Lib.hid htr
  have hTT : (T == T) = true := by simp
  clear hT htr h1 HEE hlits HLI
  go_wp2_with fail
  refine HTR.out.mono ?_
  rintro e w6 ⟨rfl, n6, rfl⟩
  go_wp2_with fail
  go_ret
  exact ⟨rfl, below_drewN HB5.out _⟩
end Go.Proofs.Ytjjbpfbbfjdhdaa
