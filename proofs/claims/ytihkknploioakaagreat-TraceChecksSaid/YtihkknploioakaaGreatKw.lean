/- Walk: cnf.Check. -/
import Derived.Test.YtihkknploioakaaGreatKv
import Derived.Test.YtihkknploioakaaGreatKu
namespace Go.Proofs.YtihkknploioakaaGreat
open Go.ChangeShapes Go.WideShapes Go.ChangeAt Go.RowKit
set_option linter.unusedVariables false

def CodePost (W : World) (c : Int) (e : Ending) (w' : World) : Prop := e = .returned (.int .i64 c) ∧ Below W.heap.size W w'
set_option maxHeartbeats 2000000 in
theorem check_any (F : Nat → Prop) (vars keep : Int) (cv : Value) (cs : List (List Int)) (w : World) (hx : Clss F w cv cs) (hv : I64 vars) (hk : I64 keep) :
    Calls Tryz.prog 37 #[.agg #[.int .i64 vars, .int .i64 keep, cv]] w (CodePost w (checkM vars keep cs)) := by
  obtain ⟨a, n, c, rfl, HN, hn⟩ := hx.form'
  have hb : Below w.heap.size w (w.alloc (.cells #[.int .i64 vars, .int .i64 keep, .slice a n c] 32)) := (Below.refl _ _).alloc (Nat.le_refl _) _
  have HB := Lib.hid hb
  have HX := Lib.hid (hx.below hb)
  obtain ⟨R, hR⟩ : ∃ R, checkM vars keep cs = R := ⟨_, rfl⟩
  have HR : Hid (R = if vars < 0 ∨ keep < 0 ∨ vars < keep then 1 else if 20000 < vars ∨ 60000 < cs.length then 4 else if (cs.any fun c => c.any (outB vars.toNat)) = true then 3 else if canGo none cs = false then 10 else 0) := Lib.hid hR.symm
  rw [hR]
  clear hR hb hx
  by_cases h1 : vars < 0
  · have HF : Hid (R = 1) := Lib.hid (by rw [HR.out, if_pos (.inl h1)])
    have hd : decide (vars < 0) = true := decide_eq_true h1
    clear h1
    go_enter Tryz.func37, Tryz.ntmps37
    go_wp2_with fail
    go_ret
    exact ⟨by rw [HF.out]; rfl, HB.out⟩
  have hd1 : decide (vars < 0) = false := decide_eq_false h1
  by_cases h2 : keep < 0
  · have HF : Hid (R = 1) := Lib.hid (by rw [HR.out, if_pos (.inr (.inl h2))])
    have hd : decide (keep < 0) = true := decide_eq_true h2
    clear h1 h2
    go_enter Tryz.func37, Tryz.ntmps37
    go_wp2_with fail
    go_ret
    exact ⟨by rw [HF.out]; rfl, HB.out⟩
  have hd2 : decide (keep < 0) = false := decide_eq_false h2
  by_cases h3 : vars < keep
  · have HF : Hid (R = 1) := Lib.hid (by rw [HR.out, if_pos (.inr (.inr h3))])
    have hd : decide (vars < keep) = true := decide_eq_true h3
    clear h1 h2 h3
    go_enter Tryz.func37, Tryz.ntmps37
    go_wp2_with fail
    go_ret
    exact ⟨by rw [HF.out]; rfl, HB.out⟩
  have hd3 : decide (vars < keep) = false := decide_eq_false h3
  have HR2 : Hid (R = if 20000 < vars ∨ 60000 < cs.length then 4 else if (cs.any fun c => c.any (outB vars.toNat)) = true then 3 else if canGo none cs = false then 10 else 0) := Lib.hid (by rw [HR.out, if_neg (by omega)])
  clear HR
  by_cases h4 : 20000 < vars
  · have HF : Hid (R = 4) := Lib.hid (by rw [HR2.out, if_pos (.inl h4)])
    have hd : decide (20000 < vars) = true := decide_eq_true h4
    clear h1 h2 h3 h4
    go_enter Tryz.func37, Tryz.ntmps37
    go_wp2_with fail
    go_ret
    exact ⟨by rw [HF.out]; rfl, HB.out⟩
  have hd4 : decide (20000 < vars) = false := decide_eq_false h4
  by_cases h5 : 60000 < n
  · have HF : Hid (R = 4) := Lib.hid (by rw [HR2.out, if_pos (.inr (by rw [← HN.out]; exact h5))])
    have hd : decide ((60000 : Int) < n) = true := by simp; omega
    have hd' : decide (60000 < n) = true := by simp; omega
    clear h1 h2 h3 h4 h5
    go_enter Tryz.func37, Tryz.ntmps37
    go_wp2_with fail
    go_ret
    exact ⟨by rw [HF.out]; rfl, HB.out⟩
  have hd5 : decide ((60000 : Int) < n) = false := by simp; omega
  have hd5' : decide (60000 < n) = false := by simp; omega
  obtain ⟨V, rfl⟩ := Int.eq_ofNat_of_zero_le (show 0 ≤ vars by omega)
  have HR3 : Hid (R = if (cs.any fun c => c.any (outB V)) = true then 3 else if canGo none cs = false then 10 else 0) := Lib.hid (by rw [HR2.out, if_neg (by have := HN.out; omega)]; rfl)
  have hout := outside_any F V (.slice a n c) cs _ HX.out (by omega)
  obtain ⟨O, hO⟩ : ∃ O, (cs.any fun c => c.any (outB V)) = O := ⟨_, rfl⟩
  rw [hO] at HR3 hout
  have HOUT := Lib.hid hout
  clear h1 h2 h3 h4 h5 hO hout HR2
  go_enter Tryz.func37, Tryz.ntmps37
  go_wp2_with fail
  refine HOUT.out.mono ?_
  rintro e w1 ⟨rfl, hb1⟩
  have HB1 : Hid (Below w.heap.size w w1) := Lib.hid (HB.out.trans (hb1.mono (by simp)))
  have c0 := below_c hb1 (show w.heap.size < _ by simp) (o := 0) (v := .int .i64 V) (by simp)
  have c2 := below_c hb1 (show w.heap.size < _ by simp) (o := 2) (v := .slice a n c) (by simp)
  have HX1 := Lib.hid (HX.out.below hb1)
  clear hb1 HX HOUT
  rcases bool2 O with rfl | rfl
  · have HF : Hid (R = 3) := Lib.hid (by rw [HR3.out, if_pos rfl])
    go_wp2_with fail
    go_ret
    exact ⟨by rw [HF.out]; rfl, HB1.out⟩
  have hcan := canon_any F (.slice a n c) cs w1 HX1.out
  have HR4 : Hid (R = if canGo none cs = false then 10 else 0) := Lib.hid (by rw [HR3.out, if_neg (by simp)])
  obtain ⟨O, hO⟩ : ∃ O, canGo none cs = O := ⟨_, rfl⟩
  rw [hO] at HR4 hcan
  have HCAN := Lib.hid hcan
  clear hO hcan HR3
  rcases bool2 O with rfl | rfl
  · have HF : Hid (R = 0) := Lib.hid (by rw [HR4.out, if_neg (by simp)])
    go_wp2_with fail
    refine HCAN.out.mono ?_
    rintro e w2 ⟨rfl, n2, rfl⟩
    go_wp2_with fail
    go_ret
    exact ⟨by rw [HF.out]; rfl, below_drewN HB1.out _⟩
  · have HF : Hid (R = 10) := Lib.hid (by rw [HR4.out, if_pos rfl])
    go_wp2_with fail
    refine HCAN.out.mono ?_
    rintro e w2 ⟨rfl, n2, rfl⟩
    go_wp2_with fail
    go_ret
    exact ⟨by rw [HF.out]; rfl, below_drewN HB1.out _⟩
end Go.Proofs.YtihkknploioakaaGreat
