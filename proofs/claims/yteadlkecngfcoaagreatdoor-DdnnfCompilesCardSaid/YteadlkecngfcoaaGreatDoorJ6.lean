/- (Ddnnf) Walks: proper and satisfied, of the statements. No condition but the ranges. -/
import Derived.Test.YteadlkecngfcoaaGreatDoorJ1
import Derived.Test.YteadlkecngfcoaaGreatDoorKf
import Derived.Shelf.Slices.CompactI
import Derived.Deep.LoopGhost
import Derived.Deep.DeepCutAuto
import Derived.Deep.QuietTactic
import Derived.BigQuiet
namespace Go.Proofs.YteadlkecngfcoaaGreatDoor
open Go.ChangeShapes Go.WideShapes Go.ChangeAt Go.RowKit Go.Lib
set_option linter.unusedVariables false
set_option linter.unusedSimpArgs false

def LitsIn (V : Nat) (cs : List (List Int)) : Prop := ∀ c ∈ cs, ∀ x ∈ c, x ≠ 0 ∧ -(V : Int) ≤ x ∧ x ≤ V
set_option maxRecDepth 100000 in
set_option maxHeartbeats 4000000 in
theorem proper_any (F : Nat → Prop) (V : Nat) (cv : Value) (cs : List (List Int)) (w : World) (hx : Clss F w cv cs) (hl : LitsIn V cs) (hV : V ≤ 1000) :
    Calls Tryz.prog 7 #[cv, .int .i64 V] w fun e w' => e = .returned (.bool true) ∧ w' = w := by
  obtain ⟨ca, cn, cc, rfl, HCN, _⟩ := hx.form'
  have HX := Lib.hid hx
  have HL := Lib.hid hl
  have hnV : wrap64 (-(V : Int)) = -(V : Int) := IntWalk.wrap64_in _ ⟨by omega, by omega⟩
  clear hx hl
  go_enter Tryz.func7, Tryz.ntmps7
  go_wp2_with fail
  go_loopg [11] cn (fun gg u11 wx => ∃ k : Nat, k + gg = cn ∧ u11 = .int .i64 k ∧ wx = w)
  case atStart => exact ⟨0, by omega, rfl, rfl⟩
  case round =>
  obtain ⟨k, hkg, rfl, rfl⟩ := hrel
  by_cases hk : k < cn
  case neg =>
    have hdk : decide ((k : Int) < cn) = false := by simp; omega
    have hdk' : decide (k < cn) = false := decide_eq_false hk
    go_wp2_with fail
    go_ret
    exact ⟨rfl, rfl⟩
  obtain ⟨c, hc⟩ : ∃ c, cs[k]? = some c := ⟨_, List.getElem?_eq_getElem (by rw [← HCN.out]; exact hk)⟩
  obtain ⟨xb, xo, xv, rfl, _, hxb, hxc, hxi⟩ := HX.out.at hc
  obtain ⟨xa, xn, xcp, rfl, HXN, _⟩ := hxi.form'
  have hdk : decide ((k : Int) < cn) = true := by simp; omega
  have hdk' : decide (k < cn) = true := decide_eq_true hk
  have HXI := Lib.hid hxi
  have HLC := Lib.hid (HL.out c (List.mem_of_getElem? hc))
  obtain ⟨GK, hGK⟩ : ∃ G, G = gk := ⟨_, rfl⟩
  subst hGK
  obtain ⟨WO, hWO⟩ : ∃ W, W = wr := ⟨_, rfl⟩
  subst hWO
  clear hc hxi
  go_wp2_with fail
  go_loopg [17] xn (fun gg u17 wx => ∃ j : Nat, j + gg = xn ∧ u17 = .int .i64 j ∧ wx = WO)
  case atStart => exact ⟨0, by omega, rfl, rfl⟩
  case round =>
  obtain ⟨j, hjg, rfl, hww⟩ := hrel
  subst hww
  by_cases hj : j < xn
  case neg =>
    have hdj : decide ((j : Int) < xn) = false := by simp; omega
    have hdj' : decide (j < xn) = false := decide_eq_false hj
    go_wp2_with fail
    go_roundg (GK - 1)
    case measure => omega
    case rel => exact ⟨k + 1, by omega, by go_num, rfl⟩
  obtain ⟨x, hxj⟩ : ∃ x, c[j]? = some x := ⟨_, List.getElem?_eq_getElem (by rw [← HXN.out]; exact hj)⟩
  obtain ⟨zb, zo, rfl, _, hzb, hzc, hx64⟩ := HXI.out.at hxj
  obtain ⟨h0, h1, h2⟩ := HLC.out x (List.mem_of_getElem? hxj)
  have hdj : decide ((j : Int) < xn) = true := by simp; omega
  have hdj' : decide (j < xn) = true := decide_eq_true hj
  have e0 : (x == 0) = false := by simp; exact h0
  have e1 : decide ((V : Int) < x) = false := decide_eq_false (by omega)
  have e2 : decide (x < -(V : Int)) = false := decide_eq_false (by omega)
  clear hxj hx64 h0 h1 h2
  go_wp2_with fail
  go_roundg (gk - 1)
  case measure => omega
  case rel => exact ⟨j + 1, by omega, by go_num, rfl⟩
theorem evR_take {f : Int → Bool} {cs : List (List Int)} {k : Nat} {c : List Int} (h : cs[k]? = some c) : evR f (cs.take (k + 1)) = (evR f (cs.take k) && c.any (litR f)) := by
  rw [List.take_add_one, h]
  simp [evR]
theorem evR_no {f : Int → Bool} {cs : List (List Int)} {c : List Int} (h : c ∈ cs) (hc : c.any (litR f) = false) : evR f cs = false := by
  unfold evR
  rw [List.all_eq_false]
  exact ⟨c, h, by simp [hc]⟩
theorem litR_at {inp : List Bool} {x : Int} (h0 : x ≠ 0) : (inp.getD ((varM x).toNat - 1) false == decide (0 < x)) = litR (fI inp) x := by
  unfold litR fI varM
  by_cases h : 0 < x
  · rw [if_pos h]
    have e : (if x < 0 then -x else x) = x := by rw [if_neg (by omega)]
    rw [e, decide_eq_true h]
    simp
  · rw [if_neg h]
    have e : (if x < 0 then -x else x) = -x := by rw [if_pos (by omega)]
    rw [e, decide_eq_false h]
    simp
set_option maxRecDepth 100000 in
set_option maxHeartbeats 4000000 in
theorem satisfied_any (F G : Nat → Prop) (cv iv : Value) (cs : List (List Int)) (inp : List Bool) (w : World) (hx : Clss F w cv cs) (hy : Bools G w iv inp) (hl : LitsIn inp.length cs) (hV : inp.length ≤ 1000) :
    Calls Tryz.prog 11 #[cv, iv] w fun e w' => e = .returned (.bool (evR (fI inp) cs)) ∧ w' = w := by
  obtain ⟨ca, cn, cc, rfl, HCN, _⟩ := hx.form'
  obtain ⟨ia, ic, rfl, _⟩ := hy.form
  obtain ⟨N, hN⟩ : ∃ N, inp.length = N := ⟨_, rfl⟩
  rw [hN] at hl hV
  have HX := Lib.hid hx
  have HY := Lib.hid hy
  rw [hN] at HY
  have HL := Lib.hid hl
  have HN := Lib.hid hN
  obtain ⟨R, hR⟩ : ∃ R, evR (fI inp) cs = R := ⟨_, rfl⟩
  have HR := Lib.hid hR
  rw [hR, hN]
  have HE0 : Hid (evR (fI inp) (cs.take 0) = true) := Lib.hid rfl
  clear hx hl hy hN hR
  go_enter Tryz.func11, Tryz.ntmps11
  go_wp2_with fail
  go_loopg [12] cn (fun gg u12 wx => ∃ k : Nat, k + gg = cn ∧ u12 = .int .i64 k ∧ wx = w ∧ Hid (evR (fI inp) (cs.take k) = true))
  case atStart => exact ⟨0, by omega, rfl, rfl, HE0⟩
  case round =>
  clear HE0
  obtain ⟨k, hkg, rfl, rfl, HEK⟩ := hrel
  by_cases hk : k < cn
  case neg =>
    have hdk : decide ((k : Int) < cn) = false := by simp; omega
    have hdk' : decide (k < cn) = false := decide_eq_false hk
    have hRT : R = true := by
      have h := HEK.out
      rw [List.take_of_length_le (by rw [← HCN.out]; omega), HR.out] at h
      exact h
    subst hRT
    clear HEK
    go_wp2_with fail
    go_ret
    exact ⟨rfl, rfl⟩
  obtain ⟨c, hc⟩ : ∃ c, cs[k]? = some c := ⟨_, List.getElem?_eq_getElem (by rw [← HCN.out]; exact hk)⟩
  obtain ⟨xb, xo, xv, rfl, _, hxb, hxc, hxi⟩ := HX.out.at hc
  obtain ⟨xa, xn, xcp, rfl, HXN, _⟩ := hxi.form'
  have hdk : decide ((k : Int) < cn) = true := by simp; omega
  have hdk' : decide (k < cn) = true := decide_eq_true hk
  have HXI := Lib.hid hxi
  have HLC := Lib.hid (HL.out c (List.mem_of_getElem? hc))
  have HME := Lib.hid (List.mem_of_getElem? hc)
  have HTK := Lib.hid (evR_take (f := fI inp) hc)
  obtain ⟨GK, hGK⟩ : ∃ G, G = gk := ⟨_, rfl⟩
  subst hGK
  obtain ⟨WO, hWO⟩ : ∃ W, W = wr := ⟨_, rfl⟩
  subst hWO
  have HA0 : Hid ((c.take 0).any (litR (fI inp)) = false) := Lib.hid rfl
  clear hc hxi
  go_wp2_with fail
  go_loopg [7, 18] xn (fun gg u7 u18 wx => ∃ (j : Nat) (B : Bool), j + gg = xn ∧ u18 = .int .i64 j ∧ u7 = .bool B ∧ wx = WO ∧ Hid ((c.take j).any (litR (fI inp)) = B))
  case atStart => exact ⟨0, false, by omega, rfl, rfl, rfl, HA0⟩
  case round =>
  clear HA0
  obtain ⟨j, B, hjg, rfl, rfl, hww, HAJ⟩ := hrel
  subst hww
  by_cases hj : j < xn
  case neg =>
    have hdj : decide ((j : Int) < xn) = false := by simp; omega
    have hdj' : decide (j < xn) = false := decide_eq_false hj
    have hcB : c.any (litR (fI inp)) = B := by
      have h := HAJ.out
      rw [List.take_of_length_le (by rw [← HXN.out]; omega)] at h
      exact h
    rcases bool2 B with rfl | rfl
    · have HN2 : Hid (evR (fI inp) (cs.take (k + 1)) = true) := Lib.hid (by rw [HTK.out, HEK.out, hcB]; rfl)
      clear hcB HEK HAJ
      go_wp2_with fail
      go_roundg (GK - 1)
      case measure => omega
      case rel => exact ⟨k + 1, by omega, by go_num, rfl, HN2⟩
    · have hRF : R = false := by rw [← HR.out]; exact evR_no HME.out hcB
      subst hRF
      clear hcB HEK HAJ
      go_wp2_with fail
      go_ret
      exact ⟨rfl, rfl⟩
  obtain ⟨x, hxj⟩ : ∃ x, c[j]? = some x := ⟨_, List.getElem?_eq_getElem (by rw [← HXN.out]; exact hj)⟩
  obtain ⟨zb, zo, rfl, _, hzb, hzc, hx64⟩ := HXI.out.at hxj
  obtain ⟨h0, h1, h2⟩ := HLC.out x (List.mem_of_getElem? hxj)
  have hdj : decide ((j : Int) < xn) = true := by simp; omega
  have hdj' : decide (j < xn) = true := decide_eq_true hj
  obtain ⟨m, hm⟩ : ∃ m : Nat, (varM x).toNat - 1 = m := ⟨_, rfl⟩
  have hvm : varM x = (m : Int) + 1 := by unfold varM at hm ⊢; split at hm <;> split <;> omega
  have hmN : m < N := by unfold varM at hvm; split at hvm <;> omega
  have hnx : wrap64 (-x) = -x := IntWalk.wrap64_in _ ⟨by omega, by omega⟩
  have hmx : max x (-x) = (m : Int) + 1 := by unfold varM at hvm; split at hvm <;> omega
  have hsub : wrap64 ((m : Int) + 1 - 1) = (m : Int) := by rw [IntWalk.wrap64_in _ ⟨by omega, by omega⟩]; omega
  have hsub' : (m : Int) + 1 - 1 = (m : Int) := by omega
  obtain ⟨b, hb⟩ : ∃ b, inp[m]? = some b := ⟨_, List.getElem?_eq_getElem (by rw [HN.out]; exact hmN)⟩
  obtain ⟨yb, yo, rfl, _, hyb, hyc⟩ := HY.out.at hb
  have hlit : (b == decide (0 < x)) = litR (fI inp) x := by rw [← litR_at h0, hm, List.getD, hb]; rfl
  have hp0 : (0 : Int) ≤ m := by omega
  have hpN : (m : Int) < N := by omega
  have HTJ : Hid ((c.take (j + 1)).any (litR (fI inp)) = (B || (b == decide (0 < x)))) := Lib.hid (by rw [List.take_add_one, hxj, hlit]; simp [HAJ.out])
  clear hxj hx64 h1 h2 hm hvm hlit hb HAJ
  obtain ⟨y, hy⟩ : ∃ y, (b == decide (0 < x)) = y := ⟨_, rfl⟩
  rw [hy] at HTJ
  rcases bool2 y with rfl | rfl
  · have HT2 : Hid ((c.take (j + 1)).any (litR (fI inp)) = true) := Lib.hid (by rw [HTJ.out]; simp)
    go_wp2_with fail
    go_roundg (gk - 1)
    case measure => omega
    case rel => exact ⟨j + 1, true, by omega, by go_num, rfl, rfl, HT2⟩
  · have HT2 : Hid ((c.take (j + 1)).any (litR (fI inp)) = B) := Lib.hid (by rw [HTJ.out]; simp)
    go_wp2_with fail
    go_roundg (gk - 1)
    case measure => omega
    case rel => exact ⟨j + 1, B, by omega, by go_num, rfl, rfl, HT2⟩
end Go.Proofs.YteadlkecngfcoaaGreatDoor
