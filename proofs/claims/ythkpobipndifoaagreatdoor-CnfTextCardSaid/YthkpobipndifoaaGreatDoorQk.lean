/- Walk: the statement's Check. No condition but the lengths. -/
import Derived.Test.YthkpobipndifoaaGreatDoorKh
import Derived.Test.YthkpobipndifoaaGreatDoorKp
import Derived.Test.YthkpobipndifoaaGreatDoorKu
import Derived.Deep.RegionHeld3
namespace Go.Proofs.YthkpobipndifoaaGreatDoor
open Go.ChangeShapes Go.WideShapes Go.ChangeAt Go.RowKit
set_option linter.unusedVariables false

set_option maxRecDepth 100000 in
set_option maxHeartbeats 8000000 in
theorem lcheck_any (F : Nat → Prop) (vars keep : Int) (cv : Value) (cs : List (List Int)) (w : World) (hx : Clss F w cv cs) (hv : I64 vars) (hk : I64 keep) (hl : cs.length ≤ 1048576) (hll : ∀ c ∈ cs, c.length ≤ 16777216) :
    Calls Tryz.prog 7 #[.agg #[.int .i64 vars, .int .i64 keep, cv]] w (CodePost w (checkM vars keep cs)) := by
  obtain ⟨a, n, c, rfl, HN, hn⟩ := hx.form'
  have hb : Below w.heap.size w (w.alloc (.cells #[.int .i64 vars, .int .i64 keep, .slice a n c] 25)) := (Below.refl _ _).alloc (Nat.le_refl _) _
  have HB := Lib.hid hb
  have HX := Lib.hid (hx.below hb)
  have HLL := Lib.hid hll
  obtain ⟨R, hR⟩ : ∃ R, checkM vars keep cs = R := ⟨_, rfl⟩
  have HR : Hid (R = if vars < 0 ∨ keep < 0 ∨ vars < keep then 1 else if 20000 < vars ∨ 60000 < cs.length then 4 else if (cs.any fun c => c.any (outB vars.toNat)) = true then 3 else if canGo none cs = false then 10 else 0) := Lib.hid hR.symm
  rw [hR]
  clear hR hb hx hll
  by_cases h1 : vars < 0
  · have HF : Hid (R = 1) := Lib.hid (by rw [HR.out, if_pos (.inl h1)])
    have hd : decide (vars < 0) = true := decide_eq_true h1
    clear h1
    go_enter Tryz.func7, Tryz.ntmps7
    go_wp2_with fail
    go_ret
    exact ⟨by rw [HF.out]; rfl, HB.out⟩
  have hd1 : decide (vars < 0) = false := decide_eq_false h1
  by_cases h2 : keep < 0
  · have HF : Hid (R = 1) := Lib.hid (by rw [HR.out, if_pos (.inr (.inl h2))])
    have hd : decide (keep < 0) = true := decide_eq_true h2
    clear h1 h2
    go_enter Tryz.func7, Tryz.ntmps7
    go_wp2_with fail
    go_ret
    exact ⟨by rw [HF.out]; rfl, HB.out⟩
  have hd2 : decide (keep < 0) = false := decide_eq_false h2
  by_cases h3 : vars < keep
  · have HF : Hid (R = 1) := Lib.hid (by rw [HR.out, if_pos (.inr (.inr h3))])
    have hd : decide (vars < keep) = true := decide_eq_true h3
    clear h1 h2 h3
    go_enter Tryz.func7, Tryz.ntmps7
    go_wp2_with fail
    go_ret
    exact ⟨by rw [HF.out]; rfl, HB.out⟩
  have hd3 : decide (vars < keep) = false := decide_eq_false h3
  have HR2 : Hid (R = if 20000 < vars ∨ 60000 < cs.length then 4 else if (cs.any fun c => c.any (outB vars.toNat)) = true then 3 else if canGo none cs = false then 10 else 0) := Lib.hid (by rw [HR.out, if_neg (by omega)])
  clear HR
  by_cases h4 : 20000 < vars
  · have HF : Hid (R = 4) := Lib.hid (by rw [HR2.out, if_pos (.inl h4)])
    have hd : decide (20000 < vars) = true := decide_eq_true h4
    clear h1 h2 h3 h4
    go_enter Tryz.func7, Tryz.ntmps7
    go_wp2_with fail
    go_ret
    exact ⟨by rw [HF.out]; rfl, HB.out⟩
  have hd4 : decide (20000 < vars) = false := decide_eq_false h4
  by_cases h5 : 60000 < n
  · have HF : Hid (R = 4) := Lib.hid (by rw [HR2.out, if_pos (.inr (by rw [← HN.out]; exact h5))])
    have hd : decide ((60000 : Int) < n) = true := by simp; omega
    have hd' : decide (60000 < n) = true := by simp; omega
    clear h1 h2 h3 h4 h5
    go_enter Tryz.func7, Tryz.ntmps7
    go_wp2_with fail
    go_ret
    exact ⟨by rw [HF.out]; rfl, HB.out⟩
  have hd5 : decide ((60000 : Int) < n) = false := by simp; omega
  have hd5' : decide (60000 < n) = false := by simp; omega
  obtain ⟨V, rfl⟩ := Int.eq_ofNat_of_zero_le (show 0 ≤ vars by omega)
  obtain ⟨E, hE⟩ : ∃ E : Int, (if canGo none cs = false then 10 else 0) = E := ⟨_, rfl⟩
  have HE : Hid (E = if (cs == canM cs) = true then 0 else 10) := Lib.hid (by
    rw [← hE]
    by_cases h : canM cs = cs
    · rw [if_neg (by rw [(canGo_canM cs).2 h]; simp), if_pos (by rw [h]; simp)]
    · rw [if_pos (by
        rcases bool2 (canGo none cs) with h1 | h1
        · exact absurd ((canGo_canM cs).1 h1) h
        · exact h1), if_neg (by simp; exact fun e => h e.symm)])
  have HR3 : Hid (R = if ((cs.drop 0).any fun c => c.any (outB V)) = true then 3 else E) := Lib.hid (by rw [HR2.out, if_neg (by have := HN.out; omega), hE]; rfl)
  have hV : V ≤ 20000 := by omega
  clear h1 h2 h3 h4 h5 hE HR2
  obtain ⟨W1, hW1⟩ : ∃ W, w.alloc (.cells #[.int .i64 (V : Int), .int .i64 keep, .slice a n c] 25) = W := ⟨_, rfl⟩
  have k0 : W1.cell? ⟨w.heap.size, 0, none⟩ = some (.int .i64 V) := by rw [← hW1]; simp
  have k1 : W1.cell? ⟨w.heap.size, 1, none⟩ = some (.int .i64 keep) := by rw [← hW1]; simp
  have k2 : W1.cell? ⟨w.heap.size, 2, none⟩ = some (.slice a n c) := by rw [← hW1]; simp
  rw [hW1] at HB HX
  go_enter Tryz.func7, Tryz.ntmps7
  go_wp2_with fail
  clear hW1
  have hwu : IntKind.u64.wrap (V : Int) = (V : Int) := by simp [IntKind.wrap, IntKind.bits, IntKind.signed]; omega
  go_loopg [34] n (fun g u34 wx => ∃ k nq : Nat, k + g = n ∧ u34 = .int .i64 k ∧ wx = W1.drewN nq ∧ Hid (R = if ((cs.drop k).any fun c => c.any (outB V)) = true then 3 else E))
  case atStart => exact ⟨0, 0, by omega, rfl, rfl, HR3⟩
  case round =>
  clear HR3
  obtain ⟨k, nq, hkg, rfl, rfl, HR⟩ := hrel
  obtain ⟨GK, hGK⟩ : ∃ G, G = gk := ⟨_, rfl⟩
  subst hGK
  by_cases hk : k < n
  case neg =>
    have hdk : decide ((k : Int) < n) = false := by simp; omega
    have hdk' : decide (k < n) = false := decide_eq_false hk
    have HF : Hid (R = E) := Lib.hid (by rw [HR.out, List.drop_eq_nil_of_le (by have := HN.out; omega)]; rfl)
    clear HR
    have HXX := Lib.hid (HX.out.drewN nq)
    have hcn := lcanonical_any F (.slice a n c) cs (W1.drewN nq).drew (HX.out.drewN (nq + 1)) hl HLL.out
    have HCN := Lib.hid hcn
    have HEE : Hid (∀ u w5, Below (W1.drewN nq).heap.size (W1.drewN nq).drew w5 → Clss (fun b => (W1.drewN nq).drew.heap.size ≤ b) w5 u (canM cs) → Calls Tryz.prog 11 #[.slice a n c, u] w5 (QuietPost w5 (.bool (cs == canM cs)))) :=
      Lib.hid fun u w5 hb hc => lequal_any _ _ _ _ _ ((HX.out.drewN (nq + 1)).below hb) hc
    obtain ⟨G, hG⟩ : ∃ G, (cs == canM cs) = G := ⟨_, rfl⟩
    rw [hG] at HE HEE
    clear hcn hG
    have hlt1 := block_lt k2
    go_upto_region 15 with fail
    go_region_held3 (fun w' => w'.cell? ⟨w.heap.size, 2, none⟩ = some (.slice a n c))
      (first | exact k2 | exact below_c hb5 hlt1 k2 | go_keep)
      (first | (go_at_call 19; refine HCN.out.mono ?_; rintro e w5 ⟨u5, rfl, hc5, hb5⟩; have HC5 := Lib.hid hc5; obtain ⟨ua, un, uc, rfl, _, _⟩ := hc5.form') | (go_at_call 11; refine (HEE.out _ _ hb5 HC5.out).mono ?_; rintro e w6 ⟨rfl, n6, rfl⟩))
    have HBF : Hid (Below w.heap.size w (w5.drewN n6)) := Lib.hid (below_drewN ((below_drewN HB.out nq).trans ((show Below W1.heap.size (W1.drewN nq) w5 from ⟨hb5.os, hb5.tape, hb5.output, hb5.size, hb5.block⟩).mono (by have := HB.out.size; omega))) n6)
    clear hb5 hc5 HC5
    rcases bool2 G with rfl | rfl
    · have HF2 : Hid (R = 0) := Lib.hid (by rw [HF.out, HE.out, if_pos rfl])
      go_wp2_with fail
      go_ret
      exact ⟨by rw [HF2.out]; rfl, HBF.out⟩
    · have HF2 : Hid (R = 10) := Lib.hid (by rw [HF.out, HE.out, if_neg (by simp)])
      go_wp2_with fail
      go_ret
      exact ⟨by rw [HF2.out]; rfl, HBF.out⟩
  obtain ⟨x, hxx, e⟩ := drop_at (xs := cs) (k := k) (by have := HN.out; omega)
  have hcs := HX.out
  obtain ⟨b, o, u, rfl, _, hb, hcc, hu⟩ := hcs.at hxx
  obtain ⟨ua, un, uc, rfl, HU, hun⟩ := hu.form'
  have HUI := Lib.hid hu
  obtain ⟨S, hS⟩ : ∃ S : Int, (if ((cs.drop (k + 1)).any fun c => c.any (outB V)) = true then 3 else E) = S := ⟨_, rfl⟩
  have HS := Lib.hid hS
  have HI : Hid (R = if (x.drop 0).any (outB V) = true then 3 else S) := Lib.hid (by
    rw [HR.out, e, List.any_cons, ← hS, List.drop_zero]
    cases x.any (outB V) <;> simp)
  have hdk : decide ((k : Int) < n) = true := by simp; omega
  have hdk' : decide (k < n) = true := decide_eq_true hk
  clear HR e hxx hcs hu hS
  go_wp2_with fail
  go_loopg [40] un (fun g u40 wx => ∃ j nq : Nat, j + g = un ∧ u40 = .int .i64 j ∧ wx = W1.drewN nq ∧ Hid (R = if (x.drop j).any (outB V) = true then 3 else S))
  case atStart => exact ⟨0, nq, by omega, rfl, rfl, HI⟩
  case round =>
  clear HI
  obtain ⟨j, nq2, hjg, rfl, rfl, HR⟩ := hrel
  by_cases hj : j < un
  case neg =>
    have hdj : decide ((j : Int) < un) = false := by simp; omega
    have hdj' : decide (j < un) = false := decide_eq_false hj
    have HF : Hid (R = if ((cs.drop (k + 1)).any fun c => c.any (outB V)) = true then 3 else E) := Lib.hid (by rw [HR.out, List.drop_eq_nil_of_le (by have := HU.out; omega), HS.out]; rfl)
    clear HR
    go_wp2_with fail
    go_roundg (GK - 1)
    case measure => omega
    case rel => exact ⟨k + 1, nq2, by omega, by go_num, rfl, HF⟩
  obtain ⟨y, hyy, ey⟩ := drop_at (xs := x) (k := j) (by have := HU.out; omega)
  have hui := HUI.out
  obtain ⟨yb, yo, rfl, _, hyb, hyc, hy64⟩ := hui.at hyy
  have HR2 : Hid (R = if outB V y = true then 3 else if (x.drop (j + 1)).any (outB V) = true then 3 else S) := Lib.hid (by
    rw [HR.out, ey, List.any_cons]
    cases outB V y <;> simp)
  have hdj : decide ((j : Int) < un) = true := by simp; omega
  have hdj' : decide (j < un) = true := decide_eq_true hj
  have hHB := HB.out
  clear HR ey hyy hui
  by_cases h0 : y = 0
  · have HF : Hid (R = 3) := Lib.hid (by rw [HR2.out, outB, decide_eq_true h0]; rfl)
    have hd0 : (y == 0) = true := by simp [h0]
    clear h0 HR2
    go_upto_region 11 with fail
    go_quiet (fail)
    go_wp2
    try rw [Exit.noGoto_ret]
    go_ret
    exact ⟨by rw [HF.out]; rfl, by simp only [World.drewN_drewN]; exact below_drewN HB.out _⟩
  have hd0 : (y == 0) = false := by simp [h0]
  have HM := fun w => Lib.hid (lmagnitude_any y w hy64)
  have hov : outB V y = decide ((V : Int) < varM y) := by rw [outB, decide_eq_false h0]; rfl
  rw [hov] at HR2
  generalize varM y = m at *
  clear h0 hov
  by_cases h1 : (V : Int) < m
  · have HF : Hid (R = 3) := Lib.hid (by rw [HR2.out, decide_eq_true h1]; rfl)
    have hq : decide ((V : Int) < m) = true := decide_eq_true h1
    clear h1 HR2
    go_upto_region 11 with fail
    go_quiet ((go_at_call 18; exact quiet_add_same (HM _).out))
    go_wp2
    try rw [Exit.noGoto_ret]
    go_ret
    exact ⟨by rw [HF.out]; rfl, by simp only [World.drewN_drewN]; exact below_drewN HB.out _⟩
  · have HF : Hid (R = if (x.drop (j + 1)).any (outB V) = true then 3 else S) := Lib.hid (by rw [HR2.out, decide_eq_false h1]; rfl)
    have hq : decide ((V : Int) < m) = false := decide_eq_false h1
    clear h1 HR2
    go_upto_region 11 with fail
    go_quiet ((go_at_call 18; exact quiet_add_same (HM _).out))
    go_wp2
    go_roundg (gk - 1)
    case measure => omega
    case rel => exact ⟨j + 1, _, by omega, by go_num, rfl, HF⟩
end Go.Proofs.YthkpobipndifoaaGreatDoor
