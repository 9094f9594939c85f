/- Walks: cnf.outside and its closures. -/
import Derived.Test.YteadlkecngfcoaaGreatKf
import Derived.Test.YteadlkecngfcoaaGreatKp
import Derived.Test.YteadlkecngfcoaaGreatKz
namespace Go.Proofs.YteadlkecngfcoaaGreat
open Go.ChangeShapes Go.WideShapes Go.ChangeAt Go.RowKit
set_option linter.unusedVariables false

open Go.ChangeShapes Go.WideShapes Go.ChangeAt Go.RowKit
set_option linter.unusedVariables false

theorem out1_any (V g : Nat) (x : Int) (w : World) (hg : w.cell? ⟨g, 0, none⟩ = some (.int .i64 V)) (hV : V ≤ 1000000) (hx : I64 x) :
    Calls Tryz.prog 64 #[.int .i64 x, .pointer (some ⟨g, 0, none⟩)] w (QuietPost w (.bool (outB V x))) := by
  obtain ⟨R, hR⟩ : ∃ R, outB V x = R := ⟨_, rfl⟩
  rw [hR]
  have HR := Lib.hid hR
  have HX := Lib.hid hx
  clear hR hx
  by_cases h0 : x = 0
  · have HF : Hid (R = true) := Lib.hid (by rw [← HR.out, outB, decide_eq_true h0]; rfl)
    have hd : (x == 0) = true := by simp [h0]
    clear h0
    go_enter Tryz.func64, Tryz.ntmps64
    go_wp2
    go_quiet (fail)
    go_wp2
    go_ret
    exact ⟨by rw [HF.out]; rfl, _, rfl⟩
  have hd : (x == 0) = false := by simp [h0]
  have hv : 0 ≤ varM x := by unfold varM; split <;> omega
  have HM := fun w => Lib.hid (magnitude_any x w HX.out)
  generalize hvm : varM x = m at *
  have hw : IntKind.u64.wrap (V : Int) = (V : Int) := by simp [IntKind.wrap, IntKind.bits, IntKind.signed]; omega
  have HF : Hid (R = decide ((V : Int) < m)) := Lib.hid (by rw [← HR.out, outB, decide_eq_false h0, hvm]; rfl)
  have HVM := Lib.hid hvm
  clear h0 hvm
  go_enter Tryz.func64, Tryz.ntmps64
  go_wp2
  go_quiet ((go_at_call 65; exact Calls.quiet_of_same (HM _).out))
  go_wp2
  go_ret
  exact ⟨by rw [HF.out]; rfl, _, rfl⟩
def outGo (V : Nat) : List Int → Nat → Int
  | [], _ => -1
  | x :: r, i => if outB V x = true then i else outGo V r (i + 1)
theorem outGo_any (V : Nat) : ∀ (xs : List Int) (i : Nat), decide (0 ≤ outGo V xs i) = xs.any (outB V)
  | [], i => by simp [outGo]
  | x :: r, i => by
    rw [outGo, List.any_cons]
    by_cases h : outB V x = true
    · rw [if_pos h, h]; simp
    · rw [if_neg h, outGo_any V r]; simp [h]
set_option maxHeartbeats 1000000 in
theorem indexf1_any (F : Nat → Prop) (V g : Nat) (v : Value) (xs : List Int) (w : World) (hx : Ints F w v xs) (hg : w.cell? ⟨g, 0, none⟩ = some (.int .i64 V)) (hV : V ≤ 1000000) :
    Calls Tryz.prog 38 #[v, .func (.func 64) #[] #[.pointer (some ⟨g, 0, none⟩)]] w (QuietPost w (.int .i64 (outGo V xs 0))) := by
  obtain ⟨a, n, c, rfl, HN, hn⟩ := hx.form'
  obtain ⟨R, hR⟩ : ∃ R, outGo V xs 0 = R := ⟨_, rfl⟩
  have HR : Hid (R = outGo V (xs.drop 0) 0) := Lib.hid hR.symm
  rw [hR]
  have HX := Lib.hid hx
  have HG := Lib.hid hg
  clear hR hx hg
  go_enter Tryz.func38, Tryz.ntmps38
  go_wp2
  go_loopg [4, 8] n (fun g u4 u8 wx => ∃ k nq : Nat, k + g = n ∧ u8 = .int .i64 k ∧ u4 = .int .i64 0 ∧ wx = w.drewN nq ∧ Hid (R = outGo V (xs.drop k) k))
  case atStart => exact ⟨0, 0, by omega, rfl, rfl, rfl, HR⟩
  case round =>
    obtain ⟨k, nq, hk, rfl, rfl, rfl, hinv⟩ := hrel
    by_cases hlt : k < n
    · obtain ⟨y, hy, e⟩ := drop_at (xs := xs) (k := k) (by have := HN.out; omega)
      have hxs := HX.out
      obtain ⟨b, off, rfl, _, hb, hc, hyi⟩ := hxs.at hy
      have HI : Hid (R = if outB V y = true then (k : Int) else outGo V (xs.drop (k + 1)) (k + 1)) := Lib.hid (by rw [hinv.out, e]; rfl)
      obtain ⟨B, hB⟩ : ∃ B, outB V y = B := ⟨_, rfl⟩
      have hoc := fun nq => out1_any V g y (w.drewN nq) HG.out hV hyi
      rw [hB] at HI hoc
      have HOC := Lib.hid hoc
      clear hinv e hy hB hoc hxs hyi
      rcases bool2 B with rfl | rfl
      · have HF : Hid (R = k) := Lib.hid (by rw [HI.out, if_pos rfl])
        go_wp2_with fail
        refine (HOC.out _).mono ?_
        rintro e w' ⟨rfl, n1, rfl⟩
        go_wp2_with fail
        go_ret
        exact ⟨by rw [HF.out]; rfl, _, rfl⟩
      · have HF : Hid (R = outGo V (xs.drop (k + 1)) (k + 1)) := Lib.hid (by rw [HI.out, if_neg (by simp)])
        go_wp2_with fail
        refine (HOC.out _).mono ?_
        rintro e w' ⟨rfl, n1, rfl⟩
        go_wp2_with fail
        go_roundg (gk - 1)
        case measure => omega
        case rel => exact ⟨k + 1, _, by omega, by go_num, rfl, rfl, HF⟩
    · have HF : Hid (R = -1) := Lib.hid (by rw [hinv.out, List.drop_eq_nil_of_le (by have := HN.out; omega)]; rfl)
      clear hinv
      go_wp2
      go_ret
      exact ⟨by rw [HF.out]; rfl, nq, rfl⟩
theorem containsf1_any (F : Nat → Prop) (V g : Nat) (v : Value) (xs : List Int) (w : World) (hx : Ints F w v xs) (hg : w.cell? ⟨g, 0, none⟩ = some (.int .i64 V)) (hV : V ≤ 1000000) :
    Calls Tryz.prog 20 #[v, .func (.func 64) #[] #[.pointer (some ⟨g, 0, none⟩)]] w (QuietPost w (.bool (xs.any (outB V)))) := by
  have hc := outGo_any V xs 0
  have hI := indexf1_any F V g v xs w hx hg hV
  obtain ⟨R, hR⟩ : ∃ R, outGo V xs 0 = R := ⟨_, rfl⟩
  rw [hR] at hc hI
  rw [← hc]
  have HI := Lib.hid hI
  clear hc hR hI hx hg
  go_enter Tryz.func20, Tryz.ntmps20
  go_wp2_with fail
  refine HI.out.mono ?_
  rintro e w' ⟨rfl, n1, rfl⟩
  go_wp2_with fail
  go_ret
  exact ⟨rfl, _, rfl⟩
theorem out2_any (F : Nat → Prop) (V g : Nat) (v : Value) (xs : List Int) (w : World) (hx : Ints F w v xs) (hg : w.cell? ⟨g, 0, none⟩ = some (.int .i64 V)) (hV : V ≤ 1000000) :
    Calls Tryz.prog 63 #[v, .pointer (some ⟨g, 0, none⟩)] w (QuietPost w (.bool (xs.any (outB V)))) := by
  have HI := Lib.hid (containsf1_any F V g v xs w hx hg hV)
  clear hx hg
  go_enter Tryz.func63, Tryz.ntmps63
  go_wp2_with fail
  refine HI.out.mono ?_
  rintro e w' ⟨rfl, n1, rfl⟩
  go_wp2_with fail
  go_ret
  exact ⟨rfl, _, rfl⟩
def outsGo (V : Nat) : List (List Int) → Nat → Int
  | [], _ => -1
  | x :: r, i => if x.any (outB V) = true then i else outsGo V r (i + 1)
theorem outsGo_any (V : Nat) : ∀ (xs : List (List Int)) (i : Nat), decide (0 ≤ outsGo V xs i) = xs.any fun x => x.any (outB V)
  | [], i => by simp [outsGo]
  | x :: r, i => by
    rw [outsGo, List.any_cons]
    by_cases h : x.any (outB V) = true
    · rw [if_pos h, h]; simp
    · rw [if_neg h, outsGo_any V r]; simp [h]
set_option maxHeartbeats 1000000 in
theorem indexf2_any (F : Nat → Prop) (V g : Nat) (v : Value) (xs : List (List Int)) (w : World) (hx : Clss F w v xs) (hg : w.cell? ⟨g, 0, none⟩ = some (.int .i64 V)) (hV : V ≤ 1000000) :
    Calls Tryz.prog 79 #[v, .func (.func 63) #[] #[.pointer (some ⟨g, 0, none⟩)]] w (QuietPost w (.int .i64 (outsGo V xs 0))) := by
  obtain ⟨a, n, c, rfl, HN, hn⟩ := hx.form'
  obtain ⟨R, hR⟩ : ∃ R, outsGo V xs 0 = R := ⟨_, rfl⟩
  have HR : Hid (R = outsGo V (xs.drop 0) 0) := Lib.hid hR.symm
  rw [hR]
  have HX := Lib.hid hx
  have HG := Lib.hid hg
  clear hR hx hg
  go_enter Tryz.func79, Tryz.ntmps79
  go_wp2
  go_loopg [4, 8] n (fun g u4 u8 wx => ∃ k nq : Nat, k + g = n ∧ u8 = .int .i64 k ∧ u4 = .int .i64 0 ∧ wx = w.drewN nq ∧ Hid (R = outsGo V (xs.drop k) k))
  case atStart => exact ⟨0, 0, by omega, rfl, rfl, rfl, HR⟩
  case round =>
    obtain ⟨k, nq, hk, rfl, rfl, rfl, hinv⟩ := hrel
    by_cases hlt : k < n
    · obtain ⟨y, hy, e⟩ := drop_at (xs := xs) (k := k) (by have := HN.out; omega)
      have hxs := HX.out
      obtain ⟨b, off, yv, rfl, _, hb, hc, hyi⟩ := hxs.at hy
      obtain ⟨ya, yn, yc, rfl, HYN, hyn⟩ := hyi.form'
      have HI : Hid (R = if y.any (outB V) = true then (k : Int) else outsGo V (xs.drop (k + 1)) (k + 1)) := Lib.hid (by rw [hinv.out, e]; rfl)
      obtain ⟨B, hB⟩ : ∃ B, y.any (outB V) = B := ⟨_, rfl⟩
      have hoc := fun nq => out2_any _ V g _ y (w.drewN nq) (hyi.drewN nq) HG.out hV
      rw [hB] at HI hoc
      have HOC := Lib.hid hoc
      clear hinv e hy hB hoc hxs hyi
      rcases bool2 B with rfl | rfl
      · have HF : Hid (R = k) := Lib.hid (by rw [HI.out, if_pos rfl])
        go_wp2_with fail
        refine (HOC.out _).mono ?_
        rintro e w' ⟨rfl, n1, rfl⟩
        go_wp2_with fail
        go_ret
        exact ⟨by rw [HF.out]; rfl, _, rfl⟩
      · have HF : Hid (R = outsGo V (xs.drop (k + 1)) (k + 1)) := Lib.hid (by rw [HI.out, if_neg (by simp)])
        go_wp2_with fail
        refine (HOC.out _).mono ?_
        rintro e w' ⟨rfl, n1, rfl⟩
        go_wp2_with fail
        go_roundg (gk - 1)
        case measure => omega
        case rel => exact ⟨k + 1, _, by omega, by go_num, rfl, rfl, HF⟩
    · have HF : Hid (R = -1) := Lib.hid (by rw [hinv.out, List.drop_eq_nil_of_le (by have := HN.out; omega)]; rfl)
      clear hinv
      go_wp2
      go_ret
      exact ⟨by rw [HF.out]; rfl, nq, rfl⟩
theorem containsf2_any (F : Nat → Prop) (V g : Nat) (v : Value) (xs : List (List Int)) (w : World) (hx : Clss F w v xs) (hg : w.cell? ⟨g, 0, none⟩ = some (.int .i64 V)) (hV : V ≤ 1000000) :
    Calls Tryz.prog 62 #[v, .func (.func 63) #[] #[.pointer (some ⟨g, 0, none⟩)]] w (QuietPost w (.bool (xs.any fun x => x.any (outB V)))) := by
  have hc := outsGo_any V xs 0
  have hI := indexf2_any F V g v xs w hx hg hV
  obtain ⟨R, hR⟩ : ∃ R, outsGo V xs 0 = R := ⟨_, rfl⟩
  rw [hR] at hc hI
  rw [← hc]
  have HI := Lib.hid hI
  clear hc hR hI hx hg
  go_enter Tryz.func62, Tryz.ntmps62
  go_wp2_with fail
  refine HI.out.mono ?_
  rintro e w' ⟨rfl, n1, rfl⟩
  go_wp2_with fail
  go_ret
  exact ⟨rfl, _, rfl⟩
theorem outside_any (F : Nat → Prop) (V : Nat) (v : Value) (xs : List (List Int)) (w : World) (hx : Clss F w v xs) (hV : V ≤ 1000000) :
    Calls Tryz.prog 39 #[v, .int .i64 (V : Int)] w (BoolPost w (xs.any fun x => x.any (outB V))) := by
  have hb : Below w.heap.size w (w.alloc (.cells #[.int .i64 (V : Int)] 3)) := (Below.refl _ _).alloc (Nat.le_refl _) _
  have HB := Lib.hid hb
  obtain ⟨a, n, c, rfl, HN, hn⟩ := hx.form'
  have HI := Lib.hid (containsf2_any F V w.heap.size (.slice a n c) xs _ (hx.below hb) (by simp) hV)
  clear hx hb
  go_enter Tryz.func39, Tryz.ntmps39
  go_wp2_with fail
  refine HI.out.mono ?_
  rintro e w' ⟨rfl, n1, rfl⟩
  go_wp2_with fail
  go_ret
  exact ⟨rfl, below_drewN HB.out _⟩

def CodePost (W : World) (c : Int) (e : Ending) (w' : World) : Prop := e = .returned (.int .i64 c) ∧ Below W.heap.size W w'
end Go.Proofs.YteadlkecngfcoaaGreat
