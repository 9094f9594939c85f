/- (Counter seat) Walks: connected, components of the statements; the statement CounterComponents. No condition but that the table of powers lies as laid. -/
import Derived.Test.YthanfjpmcckbhaaGreatDoorZd
namespace Go.Proofs.YthanfjpmcckbhaaGreatDoor
open Go.ChangeShapes Go.WideShapes Go.ChangeAt Go.RowKit
set_option linter.unusedVariables false
set_option linter.unusedSimpArgs false

def qGo (P : Int → Bool) : List Int → Nat → Int
  | [], _ => -1
  | x :: r, i => if P x = true then i else qGo P r (i + 1)
theorem qGo_any (P : Int → Bool) : ∀ (xs : List Int) (i : Nat), decide (0 ≤ qGo P xs i) = xs.any P
  | [], i => by simp [qGo]
  | x :: r, i => by
    rw [qGo, List.any_cons]
    by_cases h : P x = true
    · rw [if_pos h, h]; simp
    · rw [if_neg h, qGo_any P r]; simp [h]
/-! ### connected -/
theorem conn2_any (g : Nat) (x y : Int) (w : World) (hc : w.cell? ⟨g, 0, none⟩ = some (.int .i64 x)) (hx : I64 x) (hy : I64 y) :
    Calls Tryz.prog 71 #[.int .i64 y, .pointer (some ⟨g, 0, none⟩)] w (BoolPost w (varM x == varM y)) := by
  have HMX := Lib.hid (fun W => lmag_any x W hx)
  have HMY := Lib.hid (fun W => lmag_any y W hy)
  obtain ⟨X, hX⟩ : ∃ X, varM x = X := ⟨_, rfl⟩
  obtain ⟨Y, hY⟩ : ∃ Y, varM y = Y := ⟨_, rfl⟩
  rw [hX] at HMX ⊢
  rw [hY] at HMY ⊢
  clear hX hY hx hy
  go_enter Tryz.func71, Tryz.ntmps71
  go_wp2_with fail
  refine (HMX.out _).mono ?_
  rintro e w1 ⟨rfl, hw1⟩
  have hw1 := hw1.symm
  subst hw1
  go_wp2_with fail
  refine (HMY.out _).mono ?_
  rintro e w1 ⟨rfl, hw1⟩
  have hw1 := hw1.symm
  subst hw1
  go_wp2_with fail
  go_ret
  exact ⟨rfl, Below.refl _ _⟩
set_option maxRecDepth 100000 in
set_option maxHeartbeats 2000000 in
theorem indexiCX_any (F : Nat → Prop) (P : Int → Bool) (g : Nat) (v : Value) (xs : List Int) (w : World) (hx : Ints F w v xs)
    (hp : ∀ (W : World) (y : Int), y ∈ xs → Below w.heap.size w W → Calls Tryz.prog 71 #[.int .i64 y, .pointer (some ⟨g, 0, none⟩)] W (BoolPost W (P y))) :
    Calls Tryz.prog 95 #[v, .func (.func 71) #[] #[.pointer (some ⟨g, 0, none⟩)]] w (IntPost w (qGo P xs 0)) := by
  obtain ⟨a, n, c, rfl, HN, hn⟩ := hx.form'
  obtain ⟨R, hR⟩ : ∃ R, qGo P xs 0 = R := ⟨_, rfl⟩
  have HR : Hid (R = qGo P (xs.drop 0) 0) := Lib.hid hR.symm
  rw [hR]
  have HX := Lib.hid hx.lt
  have HP := Lib.hid hp
  have HB0 : Hid (Below w.heap.size w w) := Lib.hid (Below.refl _ _)
  clear hR hx hp
  go_enter Tryz.func95, Tryz.ntmps95
  go_wp2
  go_loopg [4, 8] n (fun g u4 u8 wx => ∃ k : Nat, k + g = n ∧ u8 = .int .i64 k ∧ u4 = .int .i64 0 ∧ Hid (Below w.heap.size w wx) ∧ Hid (R = qGo P (xs.drop k) k))
  case atStart => exact ⟨0, by omega, rfl, rfl, HB0, HR⟩
  case round =>
    clear HB0 HR
    obtain ⟨k, hk, rfl, rfl, HB, hinv⟩ := hrel
    by_cases hlt : k < n
    · obtain ⟨y, hy, e⟩ := drop_at (xs := xs) (k := k) (by have := HN.out; omega)
      obtain ⟨b, off, hae, _, _, hc, _⟩ := (HX.out.move (w' := wr) fun b hb _ => HB.out.block b hb.2).at hy
      subst hae
      have HI : Hid (R = if P y = true then (k : Int) else qGo P (xs.drop (k + 1)) (k + 1)) := Lib.hid (by rw [hinv.out, e]; rfl)
      obtain ⟨B, hB⟩ : ∃ B, P y = B := ⟨_, rfl⟩
      have hoc := HP.out wr y (List.mem_of_getElem? hy) HB.out
      rw [hB] at HI hoc
      have HOC := Lib.hid hoc
      clear hinv e hy hB hoc
      rcases bool2 B with rfl | rfl
      · have HF : Hid (R = k) := Lib.hid (by rw [HI.out, if_pos rfl])
        go_wp2_with fail
        refine HOC.out.mono ?_
        rintro e w1 ⟨rfl, hb1⟩
        have HB1 : Hid (Below w.heap.size w w1) := Lib.hid (HB.out.trans (hb1.mono HB.out.size))
        clear hb1
        go_wp2_with fail
        go_ret
        exact ⟨by rw [HF.out]; rfl, HB1.out⟩
      · have HF : Hid (R = qGo P (xs.drop (k + 1)) (k + 1)) := Lib.hid (by rw [HI.out, if_neg (by simp)])
        go_wp2_with fail
        refine HOC.out.mono ?_
        rintro e w1 ⟨rfl, hb1⟩
        have HB1 : Hid (Below w.heap.size w w1) := Lib.hid (HB.out.trans (hb1.mono HB.out.size))
        clear hb1
        go_wp2_with fail
        go_roundg (gk - 1)
        case measure => omega
        case rel => exact ⟨k + 1, by omega, by go_num, rfl, HB1, HF⟩
    · have HF : Hid (R = -1) := Lib.hid (by rw [hinv.out, List.drop_eq_nil_of_le (by have := HN.out; omega)]; rfl)
      clear hinv
      go_wp2
      go_ret
      exact ⟨by rw [HF.out]; rfl, HB.out⟩
set_option maxRecDepth 100000 in
set_option maxHeartbeats 2000000 in
theorem containsiCX_any (F : Nat → Prop) (P : Int → Bool) (g : Nat) (v : Value) (xs : List Int) (w : World) (hx : Ints F w v xs)
    (hp : ∀ (W : World) (y : Int), y ∈ xs → Below w.heap.size w W → Calls Tryz.prog 71 #[.int .i64 y, .pointer (some ⟨g, 0, none⟩)] W (BoolPost W (P y))) :
    Calls Tryz.prog 69 #[v, .func (.func 71) #[] #[.pointer (some ⟨g, 0, none⟩)]] w (BoolPost w (xs.any P)) := by
  have hc := qGo_any P xs 0
  have hI := indexiCX_any F P g v xs w hx hp
  obtain ⟨R, hR⟩ : ∃ R, qGo P xs 0 = R := ⟨_, rfl⟩
  rw [hR] at hc hI
  rw [← hc]
  have HI := Lib.hid hI
  clear hc hR hI hx hp
  go_enter Tryz.func69, Tryz.ntmps69
  go_wp2_with fail
  refine HI.out.mono ?_
  rintro e w1 ⟨rfl, hb1⟩
  have HB1 := Lib.hid hb1
  clear hb1
  go_wp2_with fail
  go_ret
  exact ⟨rfl, HB1.out⟩
set_option maxRecDepth 100000 in
set_option maxHeartbeats 2000000 in
theorem conn1_any (F : Nat → Prop) (g : Nat) (x : Int) (bv : Value) (ys : List Int) (w : World) (hc : w.cell? ⟨g, 0, none⟩ = some bv) (hb : Ints F w bv ys) (hx : I64 x) :
    Calls Tryz.prog 70 #[.int .i64 x, .pointer (some ⟨g, 0, none⟩)] w (BoolPost w (ys.any fun y => varM x == varM y)) := by
  obtain ⟨ba, bn, bc, rfl, _, _⟩ := hb.form'
  obtain ⟨k, hk⟩ : ∃ k, w.heap.size = k := ⟨_, rfl⟩
  obtain ⟨W1, hW1⟩ : ∃ W, w.alloc (.cells #[.int .i64 x] 3) = W := ⟨_, rfl⟩
  have hb1 : Below w.heap.size w W1 := by rw [← hW1]; exact (Below.refl _ _).alloc (Nat.le_refl _) _
  have hr : W1.heap[k]? = some (.cells #[.int .i64 x] 3) := by rw [← hW1]; exact new_at' _ _ hk.symm
  have c0 : W1.cell? ⟨k, 0, none⟩ = some (.int .i64 x) := by rw [cell_of_row _ _ _ _ _ _ hr]; rfl
  have c1 := below_c hb1 (block_lt hc) hc
  have HCF := Lib.hid (containsiCX_any F (fun y => varM x == varM y) k _ ys W1 (hb.below hb1) fun W y hy hW => conn2_any k x y W (below_c hW (block_lt c0) c0) hx (hb.2 y hy))
  obtain ⟨B, hB⟩ : ∃ B, (ys.any fun y => varM x == varM y) = B := ⟨_, rfl⟩
  rw [hB] at HCF ⊢
  have HB1 := Lib.hid hb1
  clear hb hr hb1 hx hB
  go_enter Tryz.func70, Tryz.ntmps70
  go_wp2_with fail
  try rw [hW1]
  try rw [hk]
  refine HCF.out.mono ?_
  rintro e w2 ⟨rfl, hb2⟩
  have HB2 : Hid (Below w.heap.size w w2) := Lib.hid (HB1.out.trans (hb2.mono HB1.out.size))
  clear hb2 HCF
  go_wp2_with fail
  go_ret
  exact ⟨rfl, HB2.out⟩
set_option maxRecDepth 100000 in
set_option maxHeartbeats 2000000 in
theorem indexiCY_any (F : Nat → Prop) (P : Int → Bool) (g : Nat) (v : Value) (xs : List Int) (w : World) (hx : Ints F w v xs)
    (hp : ∀ (W : World) (y : Int), y ∈ xs → Below w.heap.size w W → Calls Tryz.prog 70 #[.int .i64 y, .pointer (some ⟨g, 0, none⟩)] W (BoolPost W (P y))) :
    Calls Tryz.prog 95 #[v, .func (.func 70) #[] #[.pointer (some ⟨g, 0, none⟩)]] w (IntPost w (qGo P xs 0)) := by
  obtain ⟨a, n, c, rfl, HN, hn⟩ := hx.form'
  obtain ⟨R, hR⟩ : ∃ R, qGo P xs 0 = R := ⟨_, rfl⟩
  have HR : Hid (R = qGo P (xs.drop 0) 0) := Lib.hid hR.symm
  rw [hR]
  have HX := Lib.hid hx.lt
  have HP := Lib.hid hp
  have HB0 : Hid (Below w.heap.size w w) := Lib.hid (Below.refl _ _)
  clear hR hx hp
  go_enter Tryz.func95, Tryz.ntmps95
  go_wp2
  go_loopg [4, 8] n (fun g u4 u8 wx => ∃ k : Nat, k + g = n ∧ u8 = .int .i64 k ∧ u4 = .int .i64 0 ∧ Hid (Below w.heap.size w wx) ∧ Hid (R = qGo P (xs.drop k) k))
  case atStart => exact ⟨0, by omega, rfl, rfl, HB0, HR⟩
  case round =>
    clear HB0 HR
    obtain ⟨k, hk, rfl, rfl, HB, hinv⟩ := hrel
    by_cases hlt : k < n
    · obtain ⟨y, hy, e⟩ := drop_at (xs := xs) (k := k) (by have := HN.out; omega)
      obtain ⟨b, off, hae, _, _, hc, _⟩ := (HX.out.move (w' := wr) fun b hb _ => HB.out.block b hb.2).at hy
      subst hae
      have HI : Hid (R = if P y = true then (k : Int) else qGo P (xs.drop (k + 1)) (k + 1)) := Lib.hid (by rw [hinv.out, e]; rfl)
      obtain ⟨B, hB⟩ : ∃ B, P y = B := ⟨_, rfl⟩
      have hoc := HP.out wr y (List.mem_of_getElem? hy) HB.out
      rw [hB] at HI hoc
      have HOC := Lib.hid hoc
      clear hinv e hy hB hoc
      rcases bool2 B with rfl | rfl
      · have HF : Hid (R = k) := Lib.hid (by rw [HI.out, if_pos rfl])
        go_wp2_with fail
        refine HOC.out.mono ?_
        rintro e w1 ⟨rfl, hb1⟩
        have HB1 : Hid (Below w.heap.size w w1) := Lib.hid (HB.out.trans (hb1.mono HB.out.size))
        clear hb1
        go_wp2_with fail
        go_ret
        exact ⟨by rw [HF.out]; rfl, HB1.out⟩
      · have HF : Hid (R = qGo P (xs.drop (k + 1)) (k + 1)) := Lib.hid (by rw [HI.out, if_neg (by simp)])
        go_wp2_with fail
        refine HOC.out.mono ?_
        rintro e w1 ⟨rfl, hb1⟩
        have HB1 : Hid (Below w.heap.size w w1) := Lib.hid (HB.out.trans (hb1.mono HB.out.size))
        clear hb1
        go_wp2_with fail
        go_roundg (gk - 1)
        case measure => omega
        case rel => exact ⟨k + 1, by omega, by go_num, rfl, HB1, HF⟩
    · have HF : Hid (R = -1) := Lib.hid (by rw [hinv.out, List.drop_eq_nil_of_le (by have := HN.out; omega)]; rfl)
      clear hinv
      go_wp2
      go_ret
      exact ⟨by rw [HF.out]; rfl, HB.out⟩
set_option maxRecDepth 100000 in
set_option maxHeartbeats 2000000 in
theorem containsiCY_any (F : Nat → Prop) (P : Int → Bool) (g : Nat) (v : Value) (xs : List Int) (w : World) (hx : Ints F w v xs)
    (hp : ∀ (W : World) (y : Int), y ∈ xs → Below w.heap.size w W → Calls Tryz.prog 70 #[.int .i64 y, .pointer (some ⟨g, 0, none⟩)] W (BoolPost W (P y))) :
    Calls Tryz.prog 69 #[v, .func (.func 70) #[] #[.pointer (some ⟨g, 0, none⟩)]] w (BoolPost w (xs.any P)) := by
  have hc := qGo_any P xs 0
  have hI := indexiCY_any F P g v xs w hx hp
  obtain ⟨R, hR⟩ : ∃ R, qGo P xs 0 = R := ⟨_, rfl⟩
  rw [hR] at hc hI
  rw [← hc]
  have HI := Lib.hid hI
  clear hc hR hI hx hp
  go_enter Tryz.func69, Tryz.ntmps69
  go_wp2_with fail
  refine HI.out.mono ?_
  rintro e w1 ⟨rfl, hb1⟩
  have HB1 := Lib.hid hb1
  clear hb1
  go_wp2_with fail
  go_ret
  exact ⟨rfl, HB1.out⟩
set_option maxRecDepth 100000 in
set_option maxHeartbeats 2000000 in
theorem connected_any (F G : Nat → Prop) (av bv : Value) (xs ys : List Int) (w : World) (ha : Ints F w av xs) (hb : Ints G w bv ys) :
    Calls Tryz.prog 44 #[av, bv] w (BoolPost w (xs.any fun x => ys.any fun y => varM x == varM y)) := by
  obtain ⟨aa, an, ac, rfl, _, _⟩ := ha.form'
  obtain ⟨ba, bn, bc, rfl, _, _⟩ := hb.form'
  obtain ⟨k, hk⟩ : ∃ k, w.heap.size = k := ⟨_, rfl⟩
  obtain ⟨W1, hW1⟩ : ∃ W, w.alloc (.cells #[.slice ba bn bc] 32) = W := ⟨_, rfl⟩
  have hb1 : Below w.heap.size w W1 := by rw [← hW1]; exact (Below.refl _ _).alloc (Nat.le_refl _) _
  have hr : W1.heap[k]? = some (.cells #[.slice ba bn bc] 32) := by rw [← hW1]; exact new_at' _ _ hk.symm
  have c0 : W1.cell? ⟨k, 0, none⟩ = some (.slice ba bn bc) := by rw [cell_of_row _ _ _ _ _ _ hr]; rfl
  have HCF := Lib.hid (containsiCY_any F (fun x => ys.any fun y => varM x == varM y) k _ xs W1 (ha.below hb1) fun W x hx hW => conn1_any G k x _ ys W (below_c hW (block_lt c0) c0) ((hb.below hb1).below hW) (ha.2 x hx))
  obtain ⟨B, hB⟩ : ∃ B, (xs.any fun x => ys.any fun y => varM x == varM y) = B := ⟨_, rfl⟩
  rw [hB] at HCF ⊢
  have HB1 := Lib.hid hb1
  clear ha hb hr hb1 hB
  go_enter Tryz.func44, Tryz.ntmps44
  go_wp2_with fail
  try rw [hW1]
  try rw [hk]
  refine HCF.out.mono ?_
  rintro e w2 ⟨rfl, hb2⟩
  have HB2 : Hid (Below w.heap.size w w2) := Lib.hid (HB1.out.trans (hb2.mono HB1.out.size))
  clear hb2 HCF
  go_wp2_with fail
  go_ret
  exact ⟨rfl, HB2.out⟩
/-! ### the closure of the comparison -/
theorem cc1_any {F G : Nat → Prop} (v u : Value) (xs ys : List Int) (w : World) (hx : Ints F w v xs) (hy : Ints G w u ys) :
    Calls Tryz.prog 23 #[v, u] w (QuietPost w (.bool (xs == ys))) := by
  obtain ⟨aa, an, ac, rfl, _, _⟩ := hx.form'
  obtain ⟨ba, bn, bc, rfl, _, _⟩ := hy.form'
  have HE := Lib.hid (equal_any _ _ xs ys w hx hy)
  obtain ⟨B, hB⟩ : ∃ B, (xs == ys) = B := ⟨_, rfl⟩
  rw [hB] at HE ⊢
  clear hx hy hB
  go_enter Tryz.func23, Tryz.ntmps23
  go_wp2_with fail
  refine HE.out.mono ?_
  rintro e w2 ⟨rfl, q, rfl⟩
  go_wp2_with fail
  go_ret
  exact ⟨rfl, q, rfl⟩
set_option maxHeartbeats 2000000 in
theorem equalc_any {F G : Nat → Prop} (v u : Value) (xs ys : List (List Int)) (w : World) (hx : Clss F w v xs) (hy : Clss G w u ys) :
    Calls Tryz.prog 20 #[v, u, .func (.func 23) #[] #[]] w (QuietPost w (.bool (xs == ys))) := by
  obtain ⟨a, n, c, rfl, HN, hn⟩ := hx.form'
  obtain ⟨b, m, d, rfl, HM, hm⟩ := hy.form'
  obtain ⟨R, hR⟩ : ∃ R, (xs == ys) = R := ⟨_, rfl⟩
  rw [hR]
  by_cases hnm : n = m
  case neg =>
    have hne : ((n : Int) != (m : Int)) = true := by rw [bne_iff_ne]; omega
    have HR : Hid (R = false) := Lib.hid (by
      rw [← hR, beq_eq_false_iff_ne]
      intro e
      exact hnm (by rw [HN.out, HM.out, e]))
    clear hR hnm hx hy
    go_enter Tryz.func20, Tryz.ntmps20
    go_wp2
    go_ret
    exact ⟨by rw [HR.out]; rfl, 0, rfl⟩
  subst hnm
  have hne : ((n : Int) != (n : Int)) = false := by simp
  have HR : Hid (R = (xs.drop 0 == ys.drop 0)) := Lib.hid hR.symm
  have HX := Lib.hid hx
  have HY := Lib.hid hy
  clear hR hx hy
  go_enter Tryz.func20, Tryz.ntmps20
  go_wp2
  go_loopg [17] n (fun g u17 wx => ∃ (k nq : Nat), k + g = n ∧ u17 = .int .i64 k ∧ wx = w.drewN nq ∧ Hid (R = (xs.drop k == ys.drop k)))
  case atStart => exact ⟨0, 0, by omega, rfl, rfl, HR⟩
  case round =>
  obtain ⟨k, nq, hkg, rfl, rfl, hinv⟩ := hrel
  by_cases hk : k < n
  case neg =>
    have HF : Hid (R = true) := Lib.hid (by rw [hinv.out, List.drop_eq_nil_of_le (by have := HN.out; omega), List.drop_eq_nil_of_le (by have := HM.out; omega)]; rfl)
    clear hinv
    go_wp2
    go_ret
    exact ⟨by rw [HF.out]; rfl, nq, rfl⟩
  obtain ⟨x, hxx, ex⟩ := drop_at (xs := xs) (k := k) (by have := HN.out; omega)
  obtain ⟨y, hyy, ey⟩ := drop_at (xs := ys) (k := k) (by have := HM.out; omega)
  obtain ⟨xb, xo, xu, rfl, _, _, hxc, hxi⟩ := HX.out.at hxx
  obtain ⟨yb, yo, yu, rfl, _, _, hyc, hyi⟩ := HY.out.at hyy
  obtain ⟨C, hC⟩ : ∃ C, (x == y) = C := ⟨_, rfl⟩
  have heq := cc1_any xu yu x y (w.drewN nq) (hxi.drewN nq) (hyi.drewN nq)
  rw [hC] at heq
  have HEQ := Lib.hid heq
  obtain ⟨xa, xn, xc2, rfl, _, _⟩ := hxi.form'
  obtain ⟨ya, yn, yc2, rfl, _, _⟩ := hyi.form'
  have HI : Hid (R = (C && (xs.drop (k + 1) == ys.drop (k + 1)))) := Lib.hid (by rw [hinv.out, ex, ey, ← hC]; rfl)
  have hk0 : (0 : Int) ≤ k := by omega
  have hk1 : (k : Int) < n := by omega
  clear hinv hxx hyy ex ey hC heq hxi hyi
  rcases bool2 C with rfl | rfl
  · have HF : Hid (R = (xs.drop (k + 1) == ys.drop (k + 1))) := Lib.hid (by rw [HI.out]; rfl)
    clear HI
    go_wp2_with fail
    refine HEQ.out.mono ?_
    rintro e w1 ⟨rfl, n1, rfl⟩
    go_wp2_with fail
    go_roundg (gk - 1)
    case measure => omega
    case rel => exact ⟨k + 1, _, by omega, by go_num, rfl, HF⟩
  · have HF : Hid (R = false) := Lib.hid (by rw [HI.out]; rfl)
    clear HI
    go_wp2_with fail
    refine HEQ.out.mono ?_
    rintro e w1 ⟨rfl, n1, rfl⟩
    go_wp2_with fail
    go_ret
    exact ⟨by rw [HF.out]; rfl, _, rfl⟩
end Go.Proofs.YthanfjpmcckbhaaGreatDoor
