/- Walks: sat.Solve, sat.Refute. -/
import Derived.Test.YtjbhglmmakkkgaaSw12
namespace Go.Proofs.Ytjbhglmmakkkgaa
open Go.ChangeShapes Go.WideShapes Go.ChangeAt Go.RowKit
set_option linter.unusedVariables false

theorem check_ok {vars keep : Int} {cs : List (List Int)} (h : checkM vars keep cs = 0) : ∃ V : Nat, vars = V ∧ V ≤ 20000 ∧ 0 ≤ keep ∧ keep ≤ V ∧ cs.length ≤ 60000 ∧ LitsOk V cs ∧ canGo none cs = true := by
  unfold checkM at h
  by_cases h1 : vars < 0 ∨ keep < 0 ∨ vars < keep
  · rw [if_pos h1] at h; cases h
  rw [if_neg h1] at h
  by_cases h2 : 20000 < vars ∨ 60000 < cs.length
  · rw [if_pos h2] at h; cases h
  rw [if_neg h2] at h
  obtain ⟨V, rfl⟩ := Int.eq_ofNat_of_zero_le (show 0 ≤ vars by omega)
  rcases h3 : cs.any fun c => c.any (outB (V : Int).toNat) with _ | _
  case true => rw [h3, if_pos rfl] at h; cases h
  rw [h3, if_neg (by simp)] at h
  rcases h4 : canGo none cs with _ | _
  case false => rw [h4, if_pos rfl] at h; cases h
  exact ⟨V, rfl, by omega, by omega, by omega, by omega, outB_false (by simpa using h3), rfl⟩
theorem checkM_code (vars keep : Int) (cs : List (List Int)) : checkM vars keep cs = 0 ∨ checkM vars keep cs = 1 ∨ checkM vars keep cs = 4 ∨ checkM vars keep cs = 3 ∨ checkM vars keep cs = 10 := by
  unfold checkM
  split
  · omega
  split
  · omega
  split
  · omega
  split <;> omega

/-- Solve -/
def solvesM (vars keep : Int) (cs : List (List Int)) : List Bool × Bool × Int :=
  if checkM vars keep cs ≠ 0 then ([], false, 1) else match (solveM vars.toNat cs []).1 with
    | some x => (x, true, 0)
    | none => ([], false, 0)
def SolvesPost (W : World) (r : List Bool × Bool × Int) (e : Ending) (w' : World) : Prop :=
  ∃ mv, e = .returned (.tuple #[mv, .bool r.2.1, .int .i64 r.2.2]) ∧ Bools (fun _ => True) w' mv r.1 ∧ Below W.heap.size W w'
set_option maxHeartbeats 4000000 in
theorem Solve_any {F : Nat → Prop} (vars keep : Int) (cv : Value) (cs : List (List Int)) (w : World) (hc : Clss F w cv cs) (hv : I64 vars) (hk : I64 keep) (hV : vars ≤ 24) :
    Calls Try.prog 19 #[.agg #[.int .i64 vars, .int .i64 keep, cv]] w (SolvesPost w (solvesM vars keep cs)) := by
  obtain ⟨a, n, c, rfl, HN, hn⟩ := hc.form'
  have hb : Below w.heap.size w (w.alloc (.cells #[.int .i64 vars, .int .i64 keep, .slice a n c] 24)) := (Below.refl _ _).alloc (Nat.le_refl _) _
  have HB := Lib.hid hb
  have HX := Lib.hid (hc.below hb)
  have hck := check_any F vars keep (.slice a n c) cs _ (hc.below hb) hv hk
  obtain ⟨R, hR⟩ : ∃ R, solvesM vars keep cs = R := ⟨_, rfl⟩
  have HR := Lib.hid hR
  rw [hR]
  obtain ⟨C, hC⟩ : ∃ C, checkM vars keep cs = C := ⟨_, rfl⟩
  have HC := Lib.hid hC
  rw [hC] at hck
  have HCK := Lib.hid hck
  clear hck hR hC hb hc
  go_enter Try.func19, Try.ntmps19
  go_wp2_with fail
  refine HCK.out.mono ?_
  rintro e w1 ⟨rfl, hb1⟩
  have HB1 : Hid (Below w.heap.size w w1) := Lib.hid (HB.out.trans (hb1.mono (by simp)))
  have c0 := below_c hb1 (show w.heap.size < _ by simp) (o := 0) (v := .int .i64 vars) (by simp)
  have c2 := below_c hb1 (show w.heap.size < _ by simp) (o := 2) (v := .slice a n c) (by simp)
  have HX1 := Lib.hid (HX.out.below hb1)
  clear hb1 HX HCK HB
  by_cases h0 : C = 0
  case neg =>
    have HF : Hid (R = ([], false, 1)) := Lib.hid (by rw [← HR.out, solvesM, HC.out, if_pos h0])
    have hd : (C != 0) = true := by simp [h0]
    clear h0
    go_wp2_with fail
    go_ret3
    exact ⟨_, by rw [HF.out]; rfl, by rw [HF.out]; exact Bools.nil _ _, HB1.out⟩
  obtain ⟨V, rfl, hV2, _, _, hcl, hlo, _⟩ := check_ok (HC.out.trans h0)
  have HF : Hid (R = match (solveM V cs []).1 with | some x => (x, true, 0) | none => ([], false, 0)) := Lib.hid (by rw [← HR.out, solvesM, HC.out, if_neg (by omega)]; rfl)
  have hd : (C != 0) = false := by simp [h0]
  have hs := solve_any (G := fun _ => True) V (.slice a n c) (.slice none 0 0) cs [] w1 HX1.out (Ints.nil _ _) (by omega) hlo (by simp) (by omega) (by simp)
  obtain ⟨r, hr⟩ : ∃ r, solveM V cs [] = r := ⟨_, rfl⟩
  rw [hr] at hs HF
  have HSO := Lib.hid hs
  clear h0 hs hr hlo HC
  go_wp2_with fail
  refine HSO.out.mono ?_
  rintro e w2 ⟨p, o, L, cv, lv, mv, rfl, ho, hs2, hl2, hm2, hmn2, hb2⟩
  have HB2 : Hid (Below w.heap.size w w2) := Lib.hid (HB1.out.trans (hb2.mono HB1.out.size))
  have k4 := hs2.c4
  have HM := Lib.hid hm2
  have HMN := Lib.hid hmn2
  clear hs2 hl2 hb2 hm2 hmn2 HSO
  obtain ⟨r1, r2⟩ := r
  rcases r1 with _ | x
  · obtain rfl : o = 0 := ho
    obtain rfl := HMN.out rfl
    go_wp2_with fail
    go_ret3
    exact ⟨_, by rw [HF.out]; rfl, by rw [HF.out]; exact Bools.nil _ _, HB2.out⟩
  · obtain rfl : o = 1 := ho
    obtain ⟨ma, mc, rfl, _⟩ := (HM.out x rfl).form
    go_wp2_with fail
    go_ret3
    exact ⟨_, by rw [HF.out]; rfl, by rw [HF.out]; exact HM.out x rfl, HB2.out⟩

/-- Refute -/
def refuteM (vars keep : Int) (cs : List (List Int)) : List (List Int) × Int :=
  if checkM vars keep cs ≠ 0 then ([], 1) else if (solveM vars.toNat cs []).1.isSome = true then ([], 11) else ((solveM vars.toNat cs []).2, 0)
def ClsPost (W : World) (r : List (List Int) × Int) (e : Ending) (w' : World) : Prop :=
  ∃ lv, e = .returned (.tuple #[lv, .int .i64 r.2]) ∧ Clss (fun _ => True) w' lv r.1 ∧ Below W.heap.size W w'
set_option maxHeartbeats 4000000 in
theorem Refute_any {F : Nat → Prop} (vars keep : Int) (cv : Value) (cs : List (List Int)) (w : World) (hc : Clss F w cv cs) (hv : I64 vars) (hk : I64 keep) (hV : vars ≤ 24) (hlen : (solveM vars.toNat cs []).2.length ≤ 9223372036854775807) :
    Calls Try.prog 33 #[.agg #[.int .i64 vars, .int .i64 keep, cv]] w (ClsPost w (refuteM vars keep cs)) := by
  obtain ⟨a, n, c, rfl, HN, hn⟩ := hc.form'
  have hb : Below w.heap.size w (w.alloc (.cells #[.int .i64 vars, .int .i64 keep, .slice a n c] 24)) := (Below.refl _ _).alloc (Nat.le_refl _) _
  have HB := Lib.hid hb
  have HX := Lib.hid (hc.below hb)
  have hck := check_any F vars keep (.slice a n c) cs _ (hc.below hb) hv hk
  obtain ⟨R, hR⟩ : ∃ R, refuteM vars keep cs = R := ⟨_, rfl⟩
  have HR := Lib.hid hR
  rw [hR]
  obtain ⟨C, hC⟩ : ∃ C, checkM vars keep cs = C := ⟨_, rfl⟩
  have HC := Lib.hid hC
  rw [hC] at hck
  have HCK := Lib.hid hck
  have HLE := Lib.hid hlen
  clear hck hR hC hb hc hlen
  go_enter Try.func33, Try.ntmps33
  go_wp2_with fail
  refine HCK.out.mono ?_
  rintro e w1 ⟨rfl, hb1⟩
  have HB1 : Hid (Below w.heap.size w w1) := Lib.hid (HB.out.trans (hb1.mono (by simp)))
  have c0 := below_c hb1 (show w.heap.size < _ by simp) (o := 0) (v := .int .i64 vars) (by simp)
  have c2 := below_c hb1 (show w.heap.size < _ by simp) (o := 2) (v := .slice a n c) (by simp)
  have HX1 := Lib.hid (HX.out.below hb1)
  clear hb1 HX HCK HB
  by_cases h0 : C = 0
  case neg =>
    have HF : Hid (R = ([], 1)) := Lib.hid (by rw [← HR.out, refuteM, HC.out, if_pos h0])
    have hd : (C != 0) = true := by simp [h0]
    clear h0
    go_wp2_with fail
    go_ret2
    exact ⟨_, by rw [HF.out]; rfl, by rw [HF.out]; exact Rows1.nil _ _, HB1.out⟩
  obtain ⟨V, rfl, hV2, _, _, hcl, hlo, _⟩ := check_ok (HC.out.trans h0)
  have HF : Hid (R = if (solveM V cs []).1.isSome = true then ([], 11) else ((solveM V cs []).2, 0)) := Lib.hid (by rw [← HR.out, refuteM, HC.out, if_neg (by omega)]; rfl)
  have HLE2 : Hid ((solveM V cs []).2.length ≤ 9223372036854775807) := Lib.hid (by have := HLE.out; rwa [Int.toNat_natCast] at this)
  have hd : (C != 0) = false := by simp [h0]
  have hs := solve_any (G := fun _ => True) V (.slice a n c) (.slice none 0 0) cs [] w1 HX1.out (Ints.nil _ _) (by omega) hlo (by simp) (by omega) (by simp)
  obtain ⟨r, hr⟩ : ∃ r, solveM V cs [] = r := ⟨_, rfl⟩
  rw [hr] at hs HF HLE2
  have HSO := Lib.hid hs
  clear h0 hs hr hlo HC HLE
  go_wp2_with fail
  refine HSO.out.mono ?_
  rintro e w2 ⟨p, o, L, cv, lv, mv, rfl, ho, hs2, hl2, hm2, hmn2, hb2⟩
  have HB2 : Hid (Below w.heap.size w w2) := Lib.hid (HB1.out.trans (hb2.mono HB1.out.size))
  have k3 := hs2.c3
  have HL := Lib.hid hl2
  clear hs2 hl2 hb2 hm2 hmn2 HSO
  obtain ⟨r1, r2⟩ := r
  rcases r1 with _ | x
  · obtain rfl : o = 0 := ho
    obtain ⟨la, lc, rfl⟩ := HL.out.form
    simp only at k3
    go_wp2_with fail
    go_ret2
    exact ⟨_, by rw [HF.out]; rfl, by rw [HF.out]; exact Rows1.mono (fun _ _ _ _ _ h hg => h.mono hg) (HL.out.rows HLE2.out) fun _ _ => trivial, HB2.out⟩
  · obtain rfl : o = 1 := ho
    go_wp2_with fail
    go_ret2
    exact ⟨_, by rw [HF.out]; rfl, by rw [HF.out]; exact Rows1.nil _ _, HB2.out⟩
end Go.Proofs.Ytjbhglmmakkkgaa
