/- Walk: the statement's least. -/
import Derived.Test.YtjbhglmmakkkgaaSz2
import Derived.Test.YtjbhglmmakkkgaaSw9
namespace Go.Proofs.Ytjbhglmmakkkgaa
open Go.ChangeShapes Go.WideShapes Go.ChangeAt Go.RowKit
set_option linter.unusedVariables false

def leastGo (V : Nat) (cs : List (List Int)) (ks : List Bool) : Nat → Nat → Int
  | 0, _ => -1
  | f + 1, k => if holdsGo (asgM V k) cs ks = true then (k : Int) else leastGo V cs ks f (k + 1)
def leastM (V : Nat) (cs : List (List Int)) (ks : List Bool) : Int := leastGo V cs ks (2 ^ V) 0
def IntPost (W : World) (r : Int) (e : Ending) (w' : World) : Prop := e = .returned (.int .i64 r) ∧ Below W.heap.size W w'
theorem pow24 {V : Nat} (h : V ≤ 24) : 2 ^ V ≤ 16777216 := by
  have : (2 : Nat) ^ V ≤ 2 ^ 24 := Nat.pow_le_pow_right (by decide) h
  omega

set_option maxHeartbeats 4000000 in
theorem least_any {F G : Nat → Prop} (V : Nat) (keep : Int) (cv kv : Value) (cs : List (List Int)) (ks : List Bool) (w : World) (hc : Clss F w cv cs) (hkf : Flags G w kv ks cs.length) (hlo : LitsOk V cs) (hV : V ≤ 24) :
    Calls Try.prog 20 #[.agg #[.int .i64 (V : Int), .int .i64 keep, cv], kv] w (IntPost w (leastM V cs ks)) := by
  obtain ⟨a, n, c, rfl, HN, hn⟩ := hc.form'
  have hb : Below w.heap.size w (w.alloc (.cells #[.int .i64 (V : Int), .int .i64 keep, .slice a n c] 24)) := (Below.refl _ _).alloc (Nat.le_refl _) _
  have HB := Lib.hid hb
  have HX := Lib.hid (hc.below hb)
  have HFL := Lib.hid (hkf.below hb)
  obtain ⟨ka, kn, kc, rfl⟩ : ∃ a n c, kv = .slice a n c := by
    obtain ⟨_, ⟨h, _⟩ | ⟨ad, c, h, _⟩⟩ := hkf
    · exact ⟨_, _, _, h⟩
    · exact ⟨_, _, _, h⟩
  obtain ⟨R, hR⟩ : ∃ R, leastM V cs ks = R := ⟨_, rfl⟩
  rw [hR]
  obtain ⟨P, hP⟩ : ∃ P, 2 ^ V = P := ⟨_, rfl⟩
  have HR : Hid (R = leastGo V cs ks P 0) := Lib.hid (by rw [← hR, leastM, hP])
  have hPI : (2 : Int) ^ V = (P : Int) := by rw [← hP]; simp
  have hP24 : P ≤ 16777216 := by rw [← hP]; exact pow24 hV
  have hpw := fun w => power_any V w hV
  simp only [hPI] at hpw
  have HPW := Lib.hid hpw
  have HLO := Lib.hid hlo
  clear hR hb hc hkf hlo hP hPI hpw
  go_enter Try.func20, Try.ntmps20
  go_wp2_with fail
  refine (HPW.out _).mono ?_
  rintro e w1 ⟨rfl, rfl⟩
  have c0 : (w.alloc (.cells #[.int .i64 (V : Int), .int .i64 keep, .slice a n c] 24)).cell? ⟨w.heap.size, 0, none⟩ = some (.int .i64 V) := by simp
  have c1 : (w.alloc (.cells #[.int .i64 (V : Int), .int .i64 keep, .slice a n c] 24)).cell? ⟨w.heap.size, 1, none⟩ = some (.int .i64 keep) := by simp
  have c2 : (w.alloc (.cells #[.int .i64 (V : Int), .int .i64 keep, .slice a n c] 24)).cell? ⟨w.heap.size, 2, none⟩ = some (.slice a n c) := by simp
  generalize w.alloc (.cells #[.int .i64 (V : Int), .int .i64 keep, .slice a n c] 24) = w0 at *
  have hs0 := block_lt c0
  have hsw := HB.out.size
  go_wp2
  go_loopg [9] P (fun gg u9 wx => ∃ k : Nat, k + gg = P ∧ u9 = .int .i64 k ∧ Hid (Below w0.heap.size w0 wx) ∧ Hid (R = leastGo V cs ks gg k))
  case atStart => exact ⟨0, by omega, rfl, Lib.hid (Below.refl _ _), HR⟩
  case round =>
  clear HR
  obtain ⟨k, hkg, rfl, HBX, HRX⟩ := hrel
  by_cases hk : k < P
  case neg =>
    have HF : Hid (R = -1) := Lib.hid (by rw [HRX.out, show gk = 0 by omega]; rfl)
    have hk2 : P ≤ k := by omega
    clear HRX hk
    go_wp2
    go_ret
    exact ⟨by rw [HF.out]; rfl, HB.out.trans (HBX.out.mono hsw)⟩
  obtain ⟨f, rfl⟩ : ∃ f, gk = f + 1 := ⟨gk - 1, by omega⟩
  have f0 := below_c HBX.out hs0 c0
  have f1 := below_c HBX.out hs0 c1
  have f2 := below_c HBX.out hs0 c2
  have hho := holds_any V k keep (.slice a n c) (.slice ka kn kc) cs ks wr (HX.out.below HBX.out) (HFL.out.below HBX.out) HLO.out hV (by omega)
  obtain ⟨T, hT⟩ : ∃ T, holdsGo (asgM V k) cs ks = T := ⟨_, rfl⟩
  have HE : Hid (R = if T = true then (k : Int) else leastGo V cs ks f (k + 1)) := Lib.hid (by rw [HRX.out, leastGo, hT])
  rw [hT] at hho
  have HHO := Lib.hid hho
  have hsx := HBX.out.size
  clear hT hho HRX
  go_wp2_with fail
  refine HHO.out.mono ?_
  rintro e w2 ⟨rfl, hb2⟩
  have HB2 : Hid (Below w0.heap.size w0 w2) := Lib.hid (HBX.out.trans (hb2.mono hsx))
  clear hb2 HHO
  rcases bool2 T with rfl | rfl
  · have HF : Hid (R = (k : Int)) := Lib.hid (by rw [HE.out, if_pos rfl])
    clear HE
    go_wp2_with fail
    go_ret
    exact ⟨by rw [HF.out]; rfl, HB.out.trans (HB2.out.mono hsw)⟩
  · have HF : Hid (R = leastGo V cs ks f (k + 1)) := Lib.hid (by rw [HE.out, if_neg (by simp)])
    clear HE
    go_wp2_with fail
    go_roundg f
    case measure => omega
    case rel => exact ⟨k + 1, by omega, by go_num, HB2, HF⟩
end Go.Proofs.Ytjbhglmmakkkgaa
