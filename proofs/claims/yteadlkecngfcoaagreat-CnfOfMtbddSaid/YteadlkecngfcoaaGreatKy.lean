/- Walk: cnf.Make. No condition but the lengths. -/
import Derived.Test.YteadlkecngfcoaaGreatKx
import Derived.Test.YteadlkecngfcoaaGreatKv
namespace Go.Proofs.YteadlkecngfcoaaGreat
open Go.ChangeShapes Go.WideShapes Go.ChangeAt Go.RowKit
set_option linter.unusedVariables false

/-- Make's code -/
def makeM (vars keep : Int) (cs : List (List Int)) : Int :=
  if vars < 0 ∨ keep < 0 ∨ vars < keep then 1 else if 20000 < vars then 4
  else if (cs.any fun c => c.any (outB vars.toNat)) = true then 3 else if 60000 < (canM cs).length then 4 else 0
/-- what Make hands back -/
def MakePost (W : World) (vars keep : Int) (cs : List (List Int)) (e : Ending) (w' : World) : Prop :=
  ∃ v, e = .returned (.tuple #[v, .int .i64 (makeM vars keep cs)]) ∧ Below W.heap.size W w' ∧ (makeM vars keep cs ≠ 0 → v = .agg #[.int .i64 0, .int .i64 0, .slice none 0 0]) ∧
    (makeM vars keep cs = 0 → ∃ cv, v = .agg #[.int .i64 vars, .int .i64 keep, cv] ∧ Clss (fun b => W.heap.size ≤ b) w' cv (canM cs))
theorem MakePost.no {W : World} {vars keep c : Int} {cs : List (List Int)} {w' : World} (hb : Below W.heap.size W w') (h : makeM vars keep cs = c) (hc : c ≠ 0) :
    MakePost W vars keep cs (.returned (.tuple #[.agg #[.int .i64 0, .int .i64 0, .slice none 0 0], .int .i64 c])) w' := ⟨_, by rw [h], hb, fun _ => rfl, fun h0 => absurd (h ▸ h0) hc⟩

set_option maxRecDepth 100000 in
set_option maxHeartbeats 4000000 in
theorem make_any (F : Nat → Prop) (vars keep : Int) (cv : Value) (cs : List (List Int)) (w : World) (hx : Clss F w cv cs) (hv : I64 vars) (hk : I64 keep) (hl : cs.length ≤ 1048576) (hll : ∀ c ∈ cs, c.length ≤ 16777216) :
    Calls Tryz.prog 23 #[.int .i64 vars, .int .i64 keep, cv] w (MakePost w vars keep cs) := by
  obtain ⟨a, n, c, rfl, HN, hn⟩ := hx.form'
  have hb : Below w.heap.size w (w.alloc (.cells #[.int .i64 0, .int .i64 0, .slice none 0 0] 31)) := (Below.refl _ _).alloc (Nat.le_refl _) _
  have HB := Lib.hid hb
  have HX := Lib.hid (hx.below hb)
  have HLL := Lib.hid hll
  have HR : Hid (makeM vars keep cs = if vars < 0 ∨ keep < 0 ∨ vars < keep then 1 else if 20000 < vars then 4
    else if (cs.any fun c => c.any (outB vars.toNat)) = true then 3 else if 60000 < (canM cs).length then 4 else 0) := Lib.hid rfl
  clear hb hx hll
  by_cases h1 : vars < 0
  · have HF : Hid (makeM vars keep cs = 1) := Lib.hid (by rw [HR.out, if_pos (.inl h1)])
    have hd : decide (vars < 0) = true := decide_eq_true h1
    clear h1
    go_enter Tryz.func23, Tryz.ntmps23
    go_wp2_with fail
    refine bodyPost_ret (v := .tuple #[.agg #[.int .i64 0, .int .i64 0, .slice none 0 0], .int .i64 1]) (by simp [results, Tryz.results23, go_sem]) rfl ?_
    exact .no HB.out HF.out (by decide)
  have hd1 : decide (vars < 0) = false := decide_eq_false h1
  by_cases h2 : keep < 0
  · have HF : Hid (makeM vars keep cs = 1) := Lib.hid (by rw [HR.out, if_pos (.inr (.inl h2))])
    have hd : decide (keep < 0) = true := decide_eq_true h2
    clear h1 h2
    go_enter Tryz.func23, Tryz.ntmps23
    go_wp2_with fail
    refine bodyPost_ret (v := .tuple #[.agg #[.int .i64 0, .int .i64 0, .slice none 0 0], .int .i64 1]) (by simp [results, Tryz.results23, go_sem]) rfl ?_
    exact .no HB.out HF.out (by decide)
  have hd2 : decide (keep < 0) = false := decide_eq_false h2
  by_cases h3 : vars < keep
  · have HF : Hid (makeM vars keep cs = 1) := Lib.hid (by rw [HR.out, if_pos (.inr (.inr h3))])
    have hd : decide (vars < keep) = true := decide_eq_true h3
    clear h1 h2 h3
    go_enter Tryz.func23, Tryz.ntmps23
    go_wp2_with fail
    refine bodyPost_ret (v := .tuple #[.agg #[.int .i64 0, .int .i64 0, .slice none 0 0], .int .i64 1]) (by simp [results, Tryz.results23, go_sem]) rfl ?_
    exact .no HB.out HF.out (by decide)
  have hd3 : decide (vars < keep) = false := decide_eq_false h3
  by_cases h4 : 20000 < vars
  · have HF : Hid (makeM vars keep cs = 4) := Lib.hid (by rw [HR.out, if_neg (by omega), if_pos h4])
    have hd : decide (20000 < vars) = true := decide_eq_true h4
    clear h1 h2 h3 h4
    go_enter Tryz.func23, Tryz.ntmps23
    go_wp2_with fail
    refine bodyPost_ret (v := .tuple #[.agg #[.int .i64 0, .int .i64 0, .slice none 0 0], .int .i64 4]) (by simp [results, Tryz.results23, go_sem]) rfl ?_
    exact .no HB.out HF.out (by decide)
  have hd4 : decide (20000 < vars) = false := decide_eq_false h4
  obtain ⟨V, rfl⟩ := Int.eq_ofNat_of_zero_le (show 0 ≤ vars by omega)
  have HR3 : Hid (makeM (V : Int) keep cs = if (cs.any fun c => c.any (outB V)) = true then 3 else if 60000 < (canM cs).length then 4 else 0) := Lib.hid (by rw [HR.out, if_neg (by omega), if_neg (by omega)]; rfl)
  have hout := outside_any F V (.slice a n c) cs _ HX.out (by omega)
  obtain ⟨O, hO⟩ : ∃ O, (cs.any fun c => c.any (outB V)) = O := ⟨_, rfl⟩
  rw [hO] at HR3 hout
  have HOUT := Lib.hid hout
  have q0 : (w.alloc (.cells #[.int .i64 0, .int .i64 0, .slice none 0 0] 31)).cell? ⟨w.heap.size, 0, none⟩ = some (.int .i64 0) := by simp
  have q1 : (w.alloc (.cells #[.int .i64 0, .int .i64 0, .slice none 0 0] 31)).cell? ⟨w.heap.size, 1, none⟩ = some (.int .i64 0) := by simp
  have q2 : (w.alloc (.cells #[.int .i64 0, .int .i64 0, .slice none 0 0] 31)).cell? ⟨w.heap.size, 2, none⟩ = some (.slice none 0 0) := by simp
  have qf : ∀ o, (w.alloc (.cells #[.int .i64 0, .int .i64 0, .slice none 0 0] 31)).frozen? ⟨w.heap.size, o, none⟩ = false := fun o => by
    simp only [World.frozen?, new_at]
    simp
  have HQ := Lib.hid (And.intro q0 (And.intro q1 (And.intro q2 qf)))
  clear h1 h2 h3 h4 hO hout HR q0 q1 q2 qf
  go_enter Tryz.func23, Tryz.ntmps23
  go_wp2_with fail
  refine HOUT.out.mono ?_
  rintro e w1 ⟨rfl, hb1⟩
  have HB1 : Hid (Below w.heap.size w w1) := Lib.hid (HB.out.trans (hb1.mono (by simp)))
  have c0 := below_c hb1 (show w.heap.size < _ by simp) HQ.out.1
  have c1 := below_c hb1 (show w.heap.size < _ by simp) HQ.out.2.1
  have c2 := below_c hb1 (show w.heap.size < _ by simp) HQ.out.2.2.1
  have cf : ∀ o, w1.frozen? ⟨w.heap.size, o, none⟩ = false := fun o => below_z hb1 (show w.heap.size < _ by simp) (HQ.out.2.2.2 o)
  have HX1 := Lib.hid (HX.out.below hb1)
  clear hb1 HX HOUT HQ HB
  rcases bool2 O with rfl | rfl
  · have HF : Hid (makeM (V : Int) keep cs = 3) := Lib.hid (by rw [HR3.out, if_pos rfl])
    go_wp2_with fail
    obtain ⟨v0, v1, v2⟩ := set3_at (x := .int .i64 0) (y := .int .i64 0) (z := .slice none 0 0) c0 c1 c2
    refine bodyPost_ret (v := .tuple #[.agg #[.int .i64 0, .int .i64 0, .slice none 0 0], .int .i64 3]) (by simp [results, Tryz.results23, go_sem, v0, v1, v2]) rfl ?_
    exact .no (set3_below _ _ _ HB1.out (Nat.le_refl _)) HF.out (by decide)
  have hcan := canonical_any F (.slice a n c) cs w1 HX1.out hl HLL.out
  have HR4 : Hid (makeM (V : Int) keep cs = if 60000 < (canM cs).length then 4 else 0) := Lib.hid (by rw [HR3.out, if_neg (by simp)])
  have HCAN := Lib.hid hcan
  clear hcan HR3
  go_wp2_with fail
  refine HCAN.out.mono ?_
  rintro e w2 ⟨v2, rfl, hc2, hb2⟩
  obtain ⟨ra, rn, rc, rfl, HRN, hrn⟩ := hc2.form'
  have d0 := below_c hb2 (block_lt c0) c0
  have d1 := below_c hb2 (block_lt c1) c1
  have d2 := below_c hb2 (block_lt c2) c2
  have df : ∀ o, w2.frozen? ⟨w.heap.size, o, none⟩ = false := fun o => below_z hb2 (block_lt c0) (cf o)
  have HB2 : Hid (Below w.heap.size w w2) := Lib.hid (HB1.out.trans (hb2.mono HB1.out.size))
  have HC2 := Lib.hid hc2
  have hlt2 := block_lt d0
  have hlt1 := block_lt c0
  clear hc2 hb2 c0 c1 c2 cf HB1
  by_cases h6 : 60000 < rn
  · have hd6 : decide ((60000 : Int) < rn) = true := by simp; omega
    have hd6' : decide (60000 < rn) = true := by simp; omega
    have HF : Hid (makeM (V : Int) keep cs = 4) := Lib.hid (by rw [HR4.out, if_pos (by rw [← HRN.out]; exact h6)])
    go_wp2_with fail
    obtain ⟨v0, v1, v2⟩ := set3_at (x := .int .i64 0) (y := .int .i64 0) (z := .slice none 0 0) d0 d1 d2
    have z0 := cell_alloc (.cells #[.int .i64 (V : Int), .int .i64 keep, .slice ra rn rc] 31) v0
    have z1 := cell_alloc (.cells #[.int .i64 (V : Int), .int .i64 keep, .slice ra rn rc] 31) v1
    have z2 := cell_alloc (.cells #[.int .i64 (V : Int), .int .i64 keep, .slice ra rn rc] 31) v2
    refine bodyPost_ret (v := .tuple #[.agg #[.int .i64 0, .int .i64 0, .slice none 0 0], .int .i64 4]) (by simp [results, Tryz.results23, go_sem, z0, z1, z2]) rfl ?_
    exact .no ((set3_below _ _ _ HB2.out (Nat.le_refl _)).alloc (by simp; omega) _) HF.out (by decide)
  · have hd6 : decide ((60000 : Int) < rn) = false := by simp; omega
    have hd6' : decide (60000 < rn) = false := by simp; omega
    have HF : Hid (makeM (V : Int) keep cs = 0) := Lib.hid (by rw [HR4.out, if_neg (by rw [← HRN.out]; exact h6)])
    go_wp2_with fail
    obtain ⟨v0, v1, v2⟩ := set3_at (x := .int .i64 V) (y := .int .i64 keep) (z := .slice ra rn rc) d0 d1 d2
    have z0 := cell_alloc (.cells #[.int .i64 (V : Int), .int .i64 keep, .slice ra rn rc] 31) v0
    have z1 := cell_alloc (.cells #[.int .i64 (V : Int), .int .i64 keep, .slice ra rn rc] 31) v1
    have z2 := cell_alloc (.cells #[.int .i64 (V : Int), .int .i64 keep, .slice ra rn rc] 31) v2
    have hcf : Clss (fun b => w.heap.size ≤ b) ((((w2.setCell ⟨w.heap.size, 0, none⟩ (.int .i64 V)).setCell ⟨w.heap.size, 1, none⟩ (.int .i64 keep)).setCell ⟨w.heap.size, 2, none⟩ (.slice ra rn rc)).alloc (.cells #[.int .i64 (V : Int), .int .i64 keep, .slice ra rn rc] 31)) (.slice ra rn rc) (canM cs) :=
      Rows1.mono (fun _ _ _ _ _ h hg => h.mono hg) (Rows1.move (fun _ _ _ _ _ h hm => h.move hm) HC2.out fun b hb hlt => (Below.heap_alloc _ _ b (by simpa using hlt)).trans (set3_block _ _ _ (by have : w1.heap.size ≤ b := hb; omega))) fun b hb => show w.heap.size ≤ b from Nat.le_trans (Nat.le_of_lt hlt1) hb
    have HCF := Lib.hid hcf
    clear hcf
    refine bodyPost_ret (v := .tuple #[.agg #[.int .i64 V, .int .i64 keep, .slice ra rn rc], .int .i64 0]) (by simp [results, Tryz.results23, go_sem, z0, z1, z2]) rfl ?_
    exact ⟨_, by rw [HF.out], (set3_below _ _ _ HB2.out (Nat.le_refl _)).alloc (by simp; omega) _, fun h => absurd HF.out h, fun _ => ⟨_, rfl, HCF.out⟩⟩
end Go.Proofs.YteadlkecngfcoaaGreat
