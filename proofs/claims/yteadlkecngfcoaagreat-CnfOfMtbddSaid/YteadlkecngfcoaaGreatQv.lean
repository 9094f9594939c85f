/- Walks: the statement's diagram: slices.Index / Contains of forks, the inner function. No condition but that its model ends. -/
import Derived.Test.YteadlkecngfcoaaGreatQf
import Derived.Test.YteadlkecngfcoaaGreatKz
import Derived.Test.YteadlkecngfcoaaGreatQd
namespace Go.Proofs.YteadlkecngfcoaaGreat
open Go.ChangeShapes Go.WideShapes Go.ChangeAt Go.RowKit
set_option linter.unusedVariables false

theorem run_eql_fork (f g : Fork) (w : World) : (binOp .eql 49 (.agg #[.int .i64 f.1, .int .i64 f.2.1, .int .i64 f.2.2]) (.agg #[.int .i64 g.1, .int .i64 g.2.1, .int .i64 g.2.2])).run Tryz.prog w = .ok (.bool (decide (f = g))) w := by
  have hu := Tryz.underlying49
  have hi := Tryz.underlying3
  have : decide (f = g) = (decide (f.1 = g.1) && (decide (f.2.1 = g.2.1) && decide (f.2.2 = g.2.2))) := by
    obtain ⟨a, b, c⟩ := f
    obtain ⟨x, y, z⟩ := g
    by_cases e1 : a = x <;> by_cases e2 : b = y <;> by_cases e3 : c = z <;> simp [e1, e2, e3]
  have ht : Tryz.prog.underlying 49 = some (.struct (Tryz.prog.fieldsOf 49)) := by kernel_rfl
  have hp : Tryz.prog.stoodInHeld 49 = false := by kernel_rfl
  have hfl : (Tryz.prog.fieldsOf 49).toList = [{ name := "Var", type := 3, offset := 0, embedded := false, tag := "", pkgPath := "", byteOffset := 0 }, { name := "Low", type := 3, offset := 1, embedded := false, tag := "", pkgPath := "", byteOffset := 8 }, { name := "High", type := 3, offset := 2, embedded := false, tag := "", pkgPath := "", byteOffset := 16 }] := by
    simp [Program.fieldsOf, hu]
  have hq : ∀ (a b : Int) (w : World), (Op.equalIn 9999 3 (.int .i64 a) (.int .i64 b)).run Tryz.prog w = .ok (a == b) w := fun a b w => run_equalIn_int w 9998 _ _ _ a b hi
  rw [this, run_eql_struct, show (10000 : Nat) = 9999 + 1 from rfl, run_equalIn_struct w 9999 _ _ _ ht hp, hfl]
  by_cases e1 : f.1 = g.1 <;> by_cases e2 : f.2.1 = g.2.1 <;> by_cases e3 : f.2.2 = g.2.2 <;> simp [Op.eqFields, part, hq, go_sem, e1, e2, e3]
/-- the first place of a fork, -1 if it is nowhere -/
def idxK (x : Fork) : List Fork → Nat → Int
  | [], _ => -1
  | y :: r, i => if x = y then i else idxK x r (i + 1)
theorem idxK_nonneg (x : Fork) : ∀ (ys : List Fork) (i : Nat), decide (0 ≤ idxK x ys i) = decide (x ∈ ys)
  | [], i => by simp [idxK]
  | y :: r, i => by
    rw [idxK]
    by_cases h : x = y
    · subst h; simp
    · rw [if_neg h, idxK_nonneg x r (i + 1)]
      simp [h]
set_option maxHeartbeats 2000000 in
theorem indexk_any (F : Nat → Prop) (v : Value) (xs : List Fork) (x : Fork) (w : World) (hx : Forks F w v xs) :
    Calls Tryz.prog 66 #[v, .agg #[.int .i64 x.1, .int .i64 x.2.1, .int .i64 x.2.2]] w fun e w' => e = .returned (.int .i64 (idxK x xs 0)) ∧ Below w.heap.size w w' := by
  obtain ⟨a, n, c, rfl, HN, hn⟩ := hx.form
  obtain ⟨R, hR⟩ : ∃ R, idxK x xs 0 = R := ⟨_, rfl⟩
  have HR : Hid (R = idxK x (xs.drop 0) 0) := Lib.hid hR.symm
  rw [hR]
  obtain ⟨W1, hW1⟩ : ∃ W, w.alloc (.cells #[.int .i64 x.1, .int .i64 x.2.1, .int .i64 x.2.2] 49) = W := ⟨_, rfl⟩
  have hb : Below w.heap.size w W1 := by rw [← hW1]; exact (Below.refl _ _).alloc (Nat.le_refl _) _
  have k0 : W1.cell? ⟨w.heap.size, 0, none⟩ = some (.int .i64 x.1) := by rw [← hW1]; simp
  have k1 : W1.cell? ⟨w.heap.size, 1, none⟩ = some (.int .i64 x.2.1) := by rw [← hW1]; simp
  have k2 : W1.cell? ⟨w.heap.size, 2, none⟩ = some (.int .i64 x.2.2) := by rw [← hW1]; simp
  have HX := Lib.hid (hx.below hb)
  have HB := Lib.hid hb
  have HQ := Lib.hid (fun y w => run_eql_fork x y w)
  obtain ⟨xv, xl, xh⟩ := x
  simp only at k0 k1 k2 hW1 ⊢
  clear hR hx hb
  go_enter Tryz.func66, Tryz.ntmps66
  go_wp2
  clear hW1
  go_loopg [8] n (fun g u8 wx => ∃ k nq : Nat, k + g = n ∧ u8 = .int .i64 k ∧ wx = W1.drewN nq ∧ Hid (R = idxK (xv, xl, xh) (xs.drop k) k))
  case atStart => exact ⟨0, 0, by omega, rfl, rfl, HR⟩
  case round =>
  clear HR
  obtain ⟨k, nq, hkg, rfl, rfl, HR⟩ := hrel
  by_cases hk : k < n
  case neg =>
    have hdk : decide ((k : Int) < n) = false := by simp; omega
    have hdk' : decide (k < n) = false := decide_eq_false hk
    have HF : Hid (R = -1) := Lib.hid (by rw [HR.out, List.drop_eq_nil_of_le (by have := HN.out; omega)]; rfl)
    clear HR
    go_wp2
    go_ret
    exact ⟨by rw [HF.out]; rfl, below_drewN HB.out _⟩
  obtain ⟨y, hyy, ey⟩ := drop_at (xs := xs) (k := k) (by have := HN.out; omega)
  have hxs := HX.out
  obtain ⟨yb, yo, rfl, _, hyb, c0, c1, c2, _⟩ := hxs.at hyy
  have hq := HQ.out y
  have HI : Hid (R = if (xv, xl, xh) = y then (k : Int) else idxK (xv, xl, xh) (xs.drop (k + 1)) (k + 1)) := Lib.hid (by rw [HR.out, ey]; rfl)
  obtain ⟨E, hE⟩ : ∃ E, decide ((xv, xl, xh) = y) = E := ⟨_, rfl⟩
  rw [hE] at hq
  have HE := Lib.hid hE
  have hdk : decide ((k : Int) < n) = true := by simp; omega
  have hdk' : decide (k < n) = true := decide_eq_true hk
  clear HR hyy ey hxs hE
  obtain ⟨yv, yl, yh⟩ := y
  simp only at hq c0 c1 c2
  rcases bool2 E with rfl | rfl
  · have HF : Hid (R = k) := Lib.hid (by rw [HI.out, if_pos (by simpa using HE.out)])
    clear HI HE
    go_upto_region 4 with fail
    go_quiet (fail)
    go_wp2
    try rw [Exit.noGoto_ret]
    go_ret
    exact ⟨by rw [HF.out]; rfl, below_drewN (below_drewN HB.out _) _⟩
  · have HF : Hid (R = idxK (xv, xl, xh) (xs.drop (k + 1)) (k + 1)) := Lib.hid (by rw [HI.out, if_neg (by simpa using HE.out)])
    clear HI HE
    go_upto_region 4 with fail
    go_quiet (fail)
    go_wp2
    go_roundg (gk - 1)
    case measure => omega
    case rel => exact ⟨k + 1, _, by omega, by go_num, rfl, HF⟩
theorem containsk_any (F : Nat → Prop) (v : Value) (xs : List Fork) (x : Fork) (w : World) (hx : Forks F w v xs) :
    Calls Tryz.prog 40 #[v, .agg #[.int .i64 x.1, .int .i64 x.2.1, .int .i64 x.2.2]] w fun e w' => e = .returned (.bool (decide (x ∈ xs))) ∧ Below w.heap.size w w' := by
  have hb : Below w.heap.size w (w.alloc (.cells #[.int .i64 x.1, .int .i64 x.2.1, .int .i64 x.2.2] 49)) := (Below.refl _ _).alloc (Nat.le_refl _) _
  have hI := indexk_any F v xs x _ (hx.below hb)
  have hc := idxK_nonneg x xs 0
  obtain ⟨R, hR⟩ : ∃ R, idxK x xs 0 = R := ⟨_, rfl⟩
  rw [hR] at hc hI
  rw [← hc]
  have HI := Lib.hid hI
  have HB := Lib.hid hb
  obtain ⟨a, n, c, rfl, HN, hn⟩ := hx.form
  obtain ⟨xv, xl, xh⟩ := x
  simp only at HI HB ⊢
  clear hc hR hI hb hx
  go_enter Tryz.func40, Tryz.ntmps40
  go_wp2_with fail
  refine HI.out.mono ?_
  rintro e w' ⟨rfl, hb2⟩
  have HBF := Lib.hid (HB.out.trans (hb2.mono (by simp)))
  clear hb2
  go_wp2_with fail
  go_ret
  exact ⟨rfl, HBF.out⟩
theorem Forks.take {F : Nat → Prop} {w : World} {a : Option Addr} {n c k : Nat} {ns : List Fork} (h : Forks F w (.slice a n c) ns) (hk : k ≤ n) : Forks F w (.slice a k c) (ns.take k) := by
  obtain ⟨⟨a', c', he, hl, hc⟩, h2⟩ := h
  injection he with e1 e2 e3
  subst e1
  rw [List.length_map] at e2 hl
  refine ⟨⟨a, c, by rw [List.length_map, List.length_take, Nat.min_eq_left (by omega)], by rw [List.length_map, List.length_take]; omega, fun j u hu => ?_⟩, fun f hf => h2 f (List.mem_of_mem_take hf)⟩
  rw [List.map_take, List.getElem?_take] at hu
  by_cases hj : j < k
  · rw [if_pos hj] at hu
    exact hc j u hu
  · rw [if_neg hj] at hu
    cases hu
end Go.Proofs.YteadlkecngfcoaaGreat
