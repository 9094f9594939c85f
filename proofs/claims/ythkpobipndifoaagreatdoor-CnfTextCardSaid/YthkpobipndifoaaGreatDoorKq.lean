/- Walk: the statement's few. No condition but the bounds' size. -/
import Derived.Test.YthkpobipndifoaaGreatDoorKo
namespace Go.Proofs.YthkpobipndifoaaGreatDoor
open Go.ChangeShapes Go.WideShapes Go.ChangeAt Go.RowKit
set_option linter.unusedVariables false

/-- few's loop -/
def fewGo : List (List Int) → Int → Bool
  | [], _ => true
  | c :: r, l => if l - min (c.length : Int) (l + 1) < 0 then false else fewGo r (l - min (c.length : Int) (l + 1))
theorem fewGo_len : ∀ (cs : List (List Int)) (l : Int), fewGo cs l = true → ∀ c ∈ cs, (c.length : Int) ≤ l
  | [], _, _, _, h => by cases h
  | c :: r, l, h, d, hd => by
    rw [fewGo] at h
    split at h
    · cases h
    · rename_i h1
      rcases List.mem_cons.1 hd with rfl | hd
      · omega
      · have := fewGo_len r _ h d hd
        omega
/-- few -/
def fewC (cs : List (List Int)) (m l : Int) : Bool := decide ((cs.length : Int) ≤ m) && fewGo cs l
set_option maxHeartbeats 1000000 in
theorem lfew_any (F : Nat → Prop) (v : Value) (cs : List (List Int)) (m l : Int) (w : World) (hx : Clss F w v cs) (hm : 0 ≤ m ∧ m ≤ 1000000) (hl : 0 ≤ l ∧ l ≤ 1000000) :
    Calls Tryz.prog 9 #[v, .int .i64 m, .int .i64 l] w fun e w' => e = .returned (.bool (fewC cs m l)) ∧ w' = w := by
  obtain ⟨a, n, c, rfl, HN, hn⟩ := hx.form'
  have HX := Lib.hid hx
  obtain ⟨R, hR⟩ : ∃ R, fewC cs m l = R := ⟨_, rfl⟩
  have HR : Hid (R = (decide ((cs.length : Int) ≤ m) && fewGo (cs.drop 0) l)) := Lib.hid hR.symm
  rw [hR]
  clear hx hR
  by_cases h1 : m < (n : Int)
  · have HF : Hid (R = false) := Lib.hid (by rw [HR.out, decide_eq_false (by have := HN.out; omega)]; rfl)
    have hd : decide (m < (n : Int)) = true := decide_eq_true h1
    clear HR
    go_enter Tryz.func9, Tryz.ntmps9
    go_wp2
    go_ret
    exact ⟨by rw [HF.out]; rfl, rfl⟩
  have HR2 : Hid (R = fewGo (cs.drop 0) l) := Lib.hid (by rw [HR.out, decide_eq_true (by have := HN.out; omega)]; rfl)
  have hd : decide (m < (n : Int)) = false := decide_eq_false h1
  clear HR
  go_enter Tryz.func9, Tryz.ntmps9
  go_wp2
  go_loopg [2, 15] n (fun g u2 u15 wx => ∃ (k : Nat) (r : Int), k + g = n ∧ u15 = .int .i64 k ∧ u2 = .int .i64 r ∧ 0 ≤ r ∧ r ≤ 1000000 ∧ w = wx ∧ Hid (R = fewGo (cs.drop k) r))
  case atStart => exact ⟨0, l, by omega, rfl, rfl, hl.1, hl.2, rfl, HR2⟩
  case round =>
  obtain ⟨k, r, hkg, rfl, rfl, hr0, hr1, rfl, hinv⟩ := hrel
  by_cases hk : k < n
  case neg =>
    have HF : Hid (R = true) := Lib.hid (by rw [hinv.out, List.drop_eq_nil_of_le (by have := HN.out; omega)]; rfl)
    clear hinv
    go_wp2
    go_ret
    exact ⟨by rw [HF.out]; rfl, rfl⟩
  obtain ⟨x, hxx, ex⟩ := drop_at (xs := cs) (k := k) (by have := HN.out; omega)
  obtain ⟨xb, xo, xu, rfl, _, _, hxc, hxi⟩ := HX.out.at hxx
  obtain ⟨xa, xn, xc2, rfl, HXN, hxn⟩ := hxi.form'
  have hk0 : (0 : Int) ≤ k := by omega
  have hk1 : (k : Int) < n := by omega
  have hw1 : IntKind.i64.wrap (r + 1) = r + 1 := IntWalk.i64_in _ ⟨by omega, by omega⟩
  by_cases hm2 : r + 1 < (xn : Int)
  · have HF : Hid (R = false) := Lib.hid (by rw [hinv.out, ex, fewGo, ← HXN.out, if_pos (by omega)])
    have hif : (if r + 1 < (xn : Int) then r + 1 else (xn : Int)) = r + 1 := if_pos hm2
    have hif2 : min (xn : Int) (r + 1) = r + 1 := by omega
    have hd1 : decide (r + 1 < (xn : Int)) = true := decide_eq_true hm2
    have hw2 : IntKind.i64.wrap (r - (r + 1)) = -1 := by rw [IntWalk.i64_in _ ⟨by omega, by omega⟩]; omega
    have hd2 : decide (r - (r + 1) < 0) = true := decide_eq_true (by omega)
    clear hinv hxx ex hxi
    go_wp2
    all_goals first | omega | skip
    go_ret
    exact ⟨by rw [HF.out]; rfl, rfl⟩
  · have hif : (if r + 1 < (xn : Int) then r + 1 else (xn : Int)) = xn := if_neg hm2
    have hif2 : min (xn : Int) (r + 1) = xn := by omega
    have hd1 : decide (r + 1 < (xn : Int)) = false := decide_eq_false hm2
    have hw2 : IntKind.i64.wrap (r - (xn : Int)) = r - xn := IntWalk.i64_in _ ⟨by omega, by omega⟩
    by_cases hq0 : r - (xn : Int) < 0
    · have HF : Hid (R = false) := Lib.hid (by rw [hinv.out, ex, fewGo, ← HXN.out, if_pos (by omega)])
      have hd2 : decide (r - (xn : Int) < 0) = true := decide_eq_true hq0
      clear hinv hxx ex hxi
      go_wp2
      all_goals first | omega | skip
      go_ret
      exact ⟨by rw [HF.out]; rfl, rfl⟩
    · have HF : Hid (R = fewGo (cs.drop (k + 1)) (r - (xn : Int))) := Lib.hid (by rw [hinv.out, ex, fewGo, ← HXN.out, if_neg (by omega), hif2])
      have hd2 : decide (r - (xn : Int) < 0) = false := decide_eq_false hq0
      clear hinv hxx ex hxi
      go_wp2
      all_goals first | omega | skip
      go_roundg (gk - 1)
      case measure => omega
      case rel => exact ⟨k + 1, r - xn, by omega, by go_num, by go_num, by omega, by omega, rfl, HF⟩
end Go.Proofs.YthkpobipndifoaaGreatDoor
