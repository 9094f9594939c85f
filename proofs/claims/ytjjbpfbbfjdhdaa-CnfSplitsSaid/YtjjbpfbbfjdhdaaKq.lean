/- Walk: the statement's few. No condition but the bounds' size. -/
import Derived.Test.YtjjbpfbbfjdhdaaKo
namespace Go.Proofs.Ytjjbpfbbfjdhdaa
open Go.ChangeShapes Go.WideShapes Go.ChangeAt Go.RowKit
set_option linter.unusedVariables false

/-- few's loop -/
def fewGo : List (List Int) → Int → Bool
  | [], _ => true
  | c :: r, l => if l - min (c.length : Int) (l + 1) < 0 then false else fewGo r (l - min (c.length : Int) (l + 1))
theorem fewGo_len : ∀ (cs : List (List Int)) (l : Int), fewGo cs l = true → ∀ c ∈ cs, (c.length : Int) ≤ l
  | [], _, _, _, h => by cases h
  | c :: r, l, h, d, hd => by
    rw [fewGo] at h
    split at h
    · cases h
    · rename_i h1
      rcases List.mem_cons.1 hd with rfl | hd
      · omega
      · have := fewGo_len r _ h d hd
        omega
/-- few -/
def fewC (cs : List (List Int)) (m l : Int) : Bool := decide ((cs.length : Int) ≤ m) && fewGo cs l
set_option maxHeartbeats 1000000 in
theorem lfew_any (F : Nat → Prop) (v : Value) (cs : List (List Int)) (m l : Int) (w : World) (hx : Clss F w v cs) (hm : 0 ≤ m ∧ m ≤ 1000000) (hl : 0 ≤ l ∧ l ≤ 1000000) :
    Calls Try.prog 11 #[v, .int .i64 m, .int .i64 l] w fun e w' => e = .returned (.bool (fewC cs m l)) ∧ w' = w := by
  obtain ⟨a, n, c, rfl, HN, hn⟩ := hx.form'
  have HX := Lib.hid hx
  obtain ⟨R, hR⟩ : ∃ R, fewC cs m l = R := ⟨_, rfl⟩
  have HR : Hid (R = (decide ((cs.length : Int) ≤ m) && fewGo (cs.drop 0) l)) := Lib.hid hR.symm
  rw [hR]
  clear hx hR
  by_cases h1 : m < (n : Int)
  · have HF : Hid (R = false) := Lib.hid (by rw [HR.out, decide_eq_false (by have := HN.out; omega)]; rfl)
    have hd : decide (m < (n : Int)) = true := decide_eq_true h1
    clear HR
    go_enter Try.func11, Try.ntmps11
    go_wp2
    go_ret
    exact ⟨by rw [HF.out]; rfl, rfl⟩
  have HR2 : Hid (R = fewGo (cs.drop 0) l) := Lib.hid (by rw [HR.out, decide_eq_true (by have := HN.out; omega)]; rfl)
  have hd : decide (m < (n : Int)) = false := decide_eq_false h1
  clear HR
  go_enter Try.func11, Try.ntmps11
  go_wp2
  go_loopg [2, 15] n (fun g u2 u15 wx => ∃ (k : Nat) (r : Int), k + g = n ∧ u15 = .int .i64 k ∧ u2 = .int .i64 r ∧ 0 ≤ r ∧ r ≤ 1000000 ∧ w = wx ∧ Hid (R = fewGo (cs.drop k) r))
  case atStart => exact ⟨0, l, by omega, rfl, rfl, hl.1, hl.2, rfl, HR2⟩
  case round =>
  obtain ⟨k, r, hkg, rfl, rfl, hr0, hr1, rfl, hinv⟩ := hrel
  by_cases hk : k < n
  case neg =>
    have HF : Hid (R = true) := Lib.hid (by rw [hinv.out, List.drop_eq_nil_of_le (by have := HN.out; omega)]; rfl)
    clear hinv
    go_wp2
    go_ret
    exact ⟨by rw [HF.out]; rfl, rfl⟩
  obtain ⟨x, hxx, ex⟩ := drop_at (xs := cs) (k := k) (by have := HN.out; omega)
  obtain ⟨xb, xo, xu, rfl, _, _, hxc, hxi⟩ := HX.out.at hxx
  obtain ⟨xa, xn, xc2, rfl, HXN, hxn⟩ := hxi.form'
  obtain ⟨q, hq⟩ : ∃ q, r - min (xn : Int) (r + 1) = q := ⟨_, rfl⟩
  have HI : Hid (R = if q < 0 then false else fewGo (cs.drop (k + 1)) q) := Lib.hid (by rw [hinv.out, ex, fewGo, ← HXN.out, hq])
  have hw1 : IntKind.i64.wrap (r + 1) = r + 1 := IntWalk.i64_in _ ⟨by omega, by omega⟩
  have hw2 : IntKind.i64.wrap (r - min (xn : Int) (r + 1)) = q := by rw [IntWalk.i64_in _ ⟨by omega, by omega⟩, hq]
  have hk0 : (0 : Int) ≤ k := by omega
  have hk1 : (k : Int) < n := by omega
  have hq1 : q ≤ r := by omega
  clear hinv hxx ex hxi
  by_cases hq0 : q < 0
  · have HF : Hid (R = false) := Lib.hid (by rw [HI.out, if_pos hq0])
    have hd2 : decide (q < 0) = true := decide_eq_true hq0
    clear HI hq0
    go_wp2
    go_ret
    exact ⟨by rw [HF.out]; rfl, rfl⟩
  · have HF : Hid (R = fewGo (cs.drop (k + 1)) q) := Lib.hid (by rw [HI.out, if_neg hq0])
    have hd2 : decide (q < 0) = false := decide_eq_false hq0
    clear HI
    go_wp2
    go_roundg (gk - 1)
    case measure => omega
    case rel => exact ⟨k + 1, q, by omega, by go_num, by go_num, by omega, by omega, rfl, HF⟩
end Go.Proofs.Ytjjbpfbbfjdhdaa
