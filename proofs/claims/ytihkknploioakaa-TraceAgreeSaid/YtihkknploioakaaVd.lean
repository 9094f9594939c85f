/- (Trace seat) Walks: ContainsFunc over clauses at the closures of unit and follows. No condition. -/
import Derived.Test.YtihkknploioakaaVc
import Derived.Test.YtihkknploioakaaKv
namespace Go.Proofs.Ytihkknploioakaa
open Go.ChangeShapes Go.WideShapes Go.ChangeAt Go.RowKit
set_option linter.unusedVariables false

def pGo (P : List Int → Bool) : List (List Int) → Nat → Int
  | [], _ => -1
  | x :: r, i => if P x = true then i else pGo P r (i + 1)
theorem pGo_any (P : List Int → Bool) : ∀ (xs : List (List Int)) (i : Nat), decide (0 ≤ pGo P xs i) = xs.any P
  | [], i => by simp [pGo]
  | x :: r, i => by
    rw [pGo, List.any_cons]
    by_cases h : P x = true
    · rw [if_pos h, h]; simp
    · rw [if_neg h, pGo_any P r]; simp [h]
set_option maxHeartbeats 1000000 in
theorem indexfU_any (F : Nat → Prop) (P : List Int → Bool) (g : Nat) (v : Value) (xs : List (List Int)) (w : World) (hx : Clss F w v xs)
    (hp : ∀ (nq : Nat) (u : Value) (y : List Int), y ∈ xs → Ints F (w.drewN nq) u y → Calls Try.prog 43 #[u, .pointer (some ⟨g, 0, none⟩)] (w.drewN nq) (QuietPost (w.drewN nq) (.bool (P y)))) :
    Calls Try.prog 41 #[v, .func (.func 43) #[] #[.pointer (some ⟨g, 0, none⟩)]] w (QuietPost w (.int .i64 (pGo P xs 0))) := by
  obtain ⟨a, n, c, rfl, HN, hn⟩ := hx.form'
  obtain ⟨R, hR⟩ : ∃ R, pGo P xs 0 = R := ⟨_, rfl⟩
  have HR : Hid (R = pGo P (xs.drop 0) 0) := Lib.hid hR.symm
  rw [hR]
  have HX := Lib.hid hx
  have HP := Lib.hid hp
  clear hR hx hp
  go_enter Try.func41, Try.ntmps41
  go_wp2
  go_loopg [4, 8] n (fun g u4 u8 wx => ∃ k nq : Nat, k + g = n ∧ u8 = .int .i64 k ∧ u4 = .int .i64 0 ∧ wx = w.drewN nq ∧ Hid (R = pGo P (xs.drop k) k))
  case atStart => exact ⟨0, 0, by omega, rfl, rfl, rfl, HR⟩
  case round =>
    obtain ⟨k, nq, hk, rfl, rfl, rfl, hinv⟩ := hrel
    by_cases hlt : k < n
    · obtain ⟨y, hy, e⟩ := drop_at (xs := xs) (k := k) (by have := HN.out; omega)
      have hxs := HX.out
      obtain ⟨b, off, yv, rfl, _, hb, hc, hyi⟩ := hxs.at hy
      obtain ⟨ya, yn, yc, rfl, HYN, hyn⟩ := hyi.form'
      have HI : Hid (R = if P y = true then (k : Int) else pGo P (xs.drop (k + 1)) (k + 1)) := Lib.hid (by rw [hinv.out, e]; rfl)
      obtain ⟨B, hB⟩ : ∃ B, P y = B := ⟨_, rfl⟩
      have hoc := fun nq => HP.out nq _ y (List.mem_of_getElem? hy) (hyi.drewN nq)
      rw [hB] at HI hoc
      have HOC := Lib.hid hoc
      clear hinv e hy hB hoc hxs hyi
      rcases bool2 B with rfl | rfl
      · have HF : Hid (R = k) := Lib.hid (by rw [HI.out, if_pos rfl])
        go_wp2_with fail
        refine (HOC.out _).mono ?_
        rintro e w' ⟨rfl, n1, rfl⟩
        go_wp2_with fail
        go_ret
        exact ⟨by rw [HF.out]; rfl, _, rfl⟩
      · have HF : Hid (R = pGo P (xs.drop (k + 1)) (k + 1)) := Lib.hid (by rw [HI.out, if_neg (by simp)])
        go_wp2_with fail
        refine (HOC.out _).mono ?_
        rintro e w' ⟨rfl, n1, rfl⟩
        go_wp2_with fail
        go_roundg (gk - 1)
        case measure => omega
        case rel => exact ⟨k + 1, _, by omega, by go_num, rfl, rfl, HF⟩
    · have HF : Hid (R = -1) := Lib.hid (by rw [hinv.out, List.drop_eq_nil_of_le (by have := HN.out; omega)]; rfl)
      clear hinv
      go_wp2
      go_ret
      exact ⟨by rw [HF.out]; rfl, nq, rfl⟩
theorem containsfU_any (F : Nat → Prop) (P : List Int → Bool) (g : Nat) (v : Value) (xs : List (List Int)) (w : World) (hx : Clss F w v xs)
    (hp : ∀ (nq : Nat) (u : Value) (y : List Int), y ∈ xs → Ints F (w.drewN nq) u y → Calls Try.prog 43 #[u, .pointer (some ⟨g, 0, none⟩)] (w.drewN nq) (QuietPost (w.drewN nq) (.bool (P y)))) :
    Calls Try.prog 24 #[v, .func (.func 43) #[] #[.pointer (some ⟨g, 0, none⟩)]] w (QuietPost w (.bool (xs.any P))) := by
  have hc := pGo_any P xs 0
  have hI := indexfU_any F P g v xs w hx hp
  obtain ⟨R, hR⟩ : ∃ R, pGo P xs 0 = R := ⟨_, rfl⟩
  rw [hR] at hc hI
  rw [← hc]
  have HI := Lib.hid hI
  clear hc hR hI hx hp
  go_enter Try.func24, Try.ntmps24
  go_wp2_with fail
  refine HI.out.mono ?_
  rintro e w' ⟨rfl, n1, rfl⟩
  go_wp2_with fail
  go_ret
  exact ⟨rfl, _, rfl⟩

set_option maxHeartbeats 1000000 in
theorem indexfE_any (F : Nat → Prop) (P : List Int → Bool) (v : Value) (xs : List (List Int)) (w : World) (hx : Clss F w v xs)
    (hp : ∀ (nq : Nat) (u : Value) (y : List Int), y ∈ xs → Ints F (w.drewN nq) u y → Calls Try.prog 25 #[u] (w.drewN nq) (QuietPost (w.drewN nq) (.bool (P y)))) :
    Calls Try.prog 41 #[v, .func (.func 25) #[] #[]] w (QuietPost w (.int .i64 (pGo P xs 0))) := by
  obtain ⟨a, n, c, rfl, HN, hn⟩ := hx.form'
  obtain ⟨R, hR⟩ : ∃ R, pGo P xs 0 = R := ⟨_, rfl⟩
  have HR : Hid (R = pGo P (xs.drop 0) 0) := Lib.hid hR.symm
  rw [hR]
  have HX := Lib.hid hx
  have HP := Lib.hid hp
  clear hR hx hp
  go_enter Try.func41, Try.ntmps41
  go_wp2
  go_loopg [4, 8] n (fun g u4 u8 wx => ∃ k nq : Nat, k + g = n ∧ u8 = .int .i64 k ∧ u4 = .int .i64 0 ∧ wx = w.drewN nq ∧ Hid (R = pGo P (xs.drop k) k))
  case atStart => exact ⟨0, 0, by omega, rfl, rfl, rfl, HR⟩
  case round =>
    obtain ⟨k, nq, hk, rfl, rfl, rfl, hinv⟩ := hrel
    by_cases hlt : k < n
    · obtain ⟨y, hy, e⟩ := drop_at (xs := xs) (k := k) (by have := HN.out; omega)
      have hxs := HX.out
      obtain ⟨b, off, yv, rfl, _, hb, hc, hyi⟩ := hxs.at hy
      obtain ⟨ya, yn, yc, rfl, HYN, hyn⟩ := hyi.form'
      have HI : Hid (R = if P y = true then (k : Int) else pGo P (xs.drop (k + 1)) (k + 1)) := Lib.hid (by rw [hinv.out, e]; rfl)
      obtain ⟨B, hB⟩ : ∃ B, P y = B := ⟨_, rfl⟩
      have hoc := fun nq => HP.out nq _ y (List.mem_of_getElem? hy) (hyi.drewN nq)
      rw [hB] at HI hoc
      have HOC := Lib.hid hoc
      clear hinv e hy hB hoc hxs hyi
      rcases bool2 B with rfl | rfl
      · have HF : Hid (R = k) := Lib.hid (by rw [HI.out, if_pos rfl])
        go_wp2_with fail
        refine (HOC.out _).mono ?_
        rintro e w' ⟨rfl, n1, rfl⟩
        go_wp2_with fail
        go_ret
        exact ⟨by rw [HF.out]; rfl, _, rfl⟩
      · have HF : Hid (R = pGo P (xs.drop (k + 1)) (k + 1)) := Lib.hid (by rw [HI.out, if_neg (by simp)])
        go_wp2_with fail
        refine (HOC.out _).mono ?_
        rintro e w' ⟨rfl, n1, rfl⟩
        go_wp2_with fail
        go_roundg (gk - 1)
        case measure => omega
        case rel => exact ⟨k + 1, _, by omega, by go_num, rfl, rfl, HF⟩
    · have HF : Hid (R = -1) := Lib.hid (by rw [hinv.out, List.drop_eq_nil_of_le (by have := HN.out; omega)]; rfl)
      clear hinv
      go_wp2
      go_ret
      exact ⟨by rw [HF.out]; rfl, nq, rfl⟩
theorem containsfE_any (F : Nat → Prop) (P : List Int → Bool) (v : Value) (xs : List (List Int)) (w : World) (hx : Clss F w v xs)
    (hp : ∀ (nq : Nat) (u : Value) (y : List Int), y ∈ xs → Ints F (w.drewN nq) u y → Calls Try.prog 25 #[u] (w.drewN nq) (QuietPost (w.drewN nq) (.bool (P y)))) :
    Calls Try.prog 24 #[v, .func (.func 25) #[] #[]] w (QuietPost w (.bool (xs.any P))) := by
  have hc := pGo_any P xs 0
  have hI := indexfE_any F P v xs w hx hp
  obtain ⟨R, hR⟩ : ∃ R, pGo P xs 0 = R := ⟨_, rfl⟩
  rw [hR] at hc hI
  rw [← hc]
  have HI := Lib.hid hI
  clear hc hR hI hx hp
  go_enter Try.func24, Try.ntmps24
  go_wp2_with fail
  refine HI.out.mono ?_
  rintro e w' ⟨rfl, n1, rfl⟩
  go_wp2_with fail
  go_ret
  exact ⟨rfl, _, rfl⟩

theorem one_iff (y : List Int) (lit : Int) : (y == [lit]) = (decide ((y.length : Int) = 1) && (y.getD 0 0 == lit)) := by
  match y with
  | [] => rfl
  | [x] => simp
  | x :: z :: r => simp; omega
set_option maxRecDepth 100000 in
set_option maxHeartbeats 1000000 in
theorem unit1_any (F : Nat → Prop) (b g : Nat) (lit : Int) (u : Value) (y : List Int) (w : World) (hg : w.cell? ⟨g, 0, none⟩ = some (.pointer (some ⟨b, 0, none⟩))) (hc : w.cell? ⟨b, 3, none⟩ = some (.int .i64 lit)) (hy : Ints F w u y) :
    Calls Try.prog 43 #[u, .pointer (some ⟨g, 0, none⟩)] w (QuietPost w (.bool (y == [lit]))) := by
  obtain ⟨a, n, c, rfl, HN, hn⟩ := hy.form'
  rw [one_iff]
  by_cases h1 : n = 1
  · have hl : y.length = 1 := by rw [← HN.out]; exact h1
    obtain ⟨x, hx⟩ : ∃ x, y[0]? = some x := ⟨_, List.getElem?_eq_getElem (by omega)⟩
    obtain ⟨xb, xo, rfl, _, hxb, hcx, _⟩ := hy.at hx
    rw [Nat.add_zero] at hcx
    have hgd : y.getD 0 0 = x := by rw [List.getD_eq_getElem?_getD, hx]; rfl
    rw [hgd, hl]
    have e1 : ((n : Int) == 1) = true := by simp; omega
    have h0 : (0 : Int) < n := by omega
    have h00 : 0 < n := by omega
    rw [show (decide (((1 : Nat) : Int) = 1) && (x == lit)) = (x == lit) by simp]
    clear hy hx hgd hl HN h1
    go_enter Try.func43, Try.ntmps43
    go_wp2_with fail
    go_quiet (fail)
    go_wp2_with fail
    go_ret
    exact ⟨rfl, _, rfl⟩
  · have hd : decide ((y.length : Int) = 1) = false := decide_eq_false (by have := HN.out; omega)
    rw [hd, Bool.false_and]
    have e1 : ((n : Int) == 1) = false := by simp; omega
    have e2 : decide ((n : Int) = 1) = false := decide_eq_false (by omega)
    clear hy hd
    go_enter Try.func43, Try.ntmps43
    go_wp2_with fail
    go_quiet (fail)
    go_wp2_with fail
    go_ret
    exact ⟨rfl, _, rfl⟩
theorem fol1_any (F : Nat → Prop) (u : Value) (y : List Int) (w : World) (hy : Ints F w u y) :
    Calls Try.prog 25 #[u] w (QuietPost w (.bool (decide (y.length = 0)))) := by
  obtain ⟨a, n, c, rfl, HN, hn⟩ := hy.form'
  rw [← HN.out]
  clear hy
  go_enter Try.func25, Try.ntmps25
  go_wp2_with fail
  go_ret
  exact ⟨by rw [show decide (n = 0) = ((n : Int) == 0) by by_cases h : n = 0 <;> simp [h]]; rfl, 0, rfl⟩
end Go.Proofs.Ytihkknploioakaa
