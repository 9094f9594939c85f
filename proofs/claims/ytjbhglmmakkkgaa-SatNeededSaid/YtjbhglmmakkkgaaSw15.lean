/- Walk: sat.Backbone. -/
import Derived.Test.YtjbhglmmakkkgaaSw14
namespace Go.Proofs.Ytjbhglmmakkkgaa
open Go.ChangeShapes Go.WideShapes Go.ChangeAt Go.RowKit
set_option linter.unusedVariables false

theorem litsOk_app {V : Nat} {cs : List (List Int)} {lits : List Int} (hcs : LitsOk V cs) (h : ∀ l ∈ lits, LitOk V l) : LitsOk V (cs ++ lits.map fun l => [l]) := by
  intro c hc l hl
  rcases List.mem_append.1 hc with h1 | h1
  · exact hcs c h1 l hl
  · obtain ⟨y, hy, rfl⟩ := List.mem_map.1 h1
    simp at hl
    subst hl
    exact h l hy
theorem solveM_ok {V : Nat} {cs : List (List Int)} {lits : List Int} (hcs : LitsOk V cs) (h : ∀ l ∈ lits, LitOk V l) : RunOk V (cs ++ lits.map fun l => [l]) [] (solveM V cs lits) := runM_ok (litsOk_app hcs h) V [] (Dec.nil V _)
theorem solveM_len {V : Nat} {cs : List (List Int)} {lits : List Int} {x : List Bool} (hcs : LitsOk V cs) (h : ∀ l ∈ lits, LitOk V l) (hx : (solveM V cs lits).1 = some x) : x.length = V := ((solveM_ok hcs h).found x hx).1.1
def bitLit (x : List Bool) (v : Nat) : Int := if x.getD (v - 1) false = true then (v : Int) else -(v : Int)
def backGo (V : Nat) (cs : List (List Int)) (x : List Bool) : Nat → Nat → List Int
  | 0, _ => []
  | f + 1, v => (if (solveM V cs [-(bitLit x v)]).1.isSome = true then [] else [bitLit x v]) ++ backGo V cs x f (v + 1)
def backboneM (vars keep : Int) (cs : List (List Int)) : List Int × Int :=
  if checkM vars keep cs ≠ 0 then ([], 1) else match (solveM vars.toNat cs []).1 with
    | none => ([], 11)
    | some x => (backGo vars.toNat cs x vars.toNat 1, 0)
def IntsCPost (W : World) (r : List Int × Int) (e : Ending) (w' : World) : Prop :=
  ∃ lv, e = .returned (.tuple #[lv, .int .i64 r.2]) ∧ Ints (fun _ => True) w' lv r.1 ∧ Below W.heap.size W w'

set_option maxRecDepth 100000 in
set_option maxHeartbeats 8000000 in
theorem Backbone_any {F : Nat → Prop} (vars keep : Int) (cv : Value) (cs : List (List Int)) (w : World) (hc : Clss F w cv cs) (hv : I64 vars) (hk : I64 keep) (hV : vars ≤ 24) :
    Calls Try.prog 23 #[.agg #[.int .i64 vars, .int .i64 keep, cv]] w (IntsCPost w (backboneM vars keep cs)) := by
  obtain ⟨a, n, c, rfl, HN, hn⟩ := hc.form'
  have hb : Below w.heap.size w (w.alloc (.cells #[.int .i64 vars, .int .i64 keep, .slice a n c] 24)) := (Below.refl _ _).alloc (Nat.le_refl _) _
  have HB := Lib.hid hb
  have HX := Lib.hid (hc.below hb)
  have hck := Solve_any vars keep (.slice a n c) cs _ (hc.below hb) hv hk hV
  obtain ⟨R, hR⟩ : ∃ R, backboneM vars keep cs = R := ⟨_, rfl⟩
  have HR := Lib.hid hR
  rw [hR]
  obtain ⟨S, hS⟩ : ∃ C, solvesM vars keep cs = C := ⟨_, rfl⟩
  have HS := Lib.hid hS
  rw [hS] at hck
  have HCK := Lib.hid hck
  clear hck hR hS hb hc
  go_enter Try.func23, Try.ntmps23
  go_wp2_with fail
  refine HCK.out.mono ?_
  rintro e w1 ⟨mv, rfl, hm, hb1⟩
  have HB1 : Hid (Below w.heap.size w w1) := Lib.hid (HB.out.trans (hb1.mono (by simp)))
  have c0 := below_c hb1 (show w.heap.size < _ by simp) (o := 0) (v := .int .i64 vars) (by simp)
  have c2 := below_c hb1 (show w.heap.size < _ by simp) (o := 2) (v := .slice a n c) (by simp)
  have HX1 := Lib.hid (HX.out.below hb1)
  have hs1 := block_lt c0
  have HM := Lib.hid hm
  obtain ⟨ma, mn, mc, rfl, HMN⟩ : ∃ a n c, mv = .slice a n c ∧ Hid (n = S.1.length) := by
    obtain ⟨a, c, h, _⟩ := hm.form
    exact ⟨a, _, c, h, rfl⟩
  clear hb1 HX HCK HB hm
  by_cases h0 : checkM vars keep cs = 0
  case neg =>
    have HF : Hid (R = ([], 1)) := Lib.hid (by rw [← HR.out, backboneM, if_pos h0])
    obtain rfl : S = ([], false, 1) := by rw [← HS.out, solvesM, if_pos h0]
    simp only
    clear h0
    go_wp2_with fail
    go_ret2
    exact ⟨_, by rw [HF.out]; rfl, by rw [HF.out]; exact Ints.nil _ _, HB1.out⟩
  obtain ⟨V, rfl, hV2, _, _, hcl, hlo, _⟩ := check_ok h0
  have HF : Hid (R = match (solveM V cs []).1 with | none => ([], 11) | some x => (backGo V cs x V 1, 0)) := Lib.hid (by rw [← HR.out, backboneM, if_neg (by omega)]; rfl)
  have HSS : Hid (S = match (solveM V cs []).1 with | some x => (x, true, 0) | none => ([], false, 0)) := Lib.hid (by rw [← HS.out, solvesM, if_neg (by omega)]; rfl)
  have hxl := fun x => solveM_len (x := x) (lits := []) hlo (by simp)
  have HLO := Lib.hid hlo
  obtain ⟨r, hr⟩ : ∃ r, (solveM V cs []).1 = r := ⟨_, rfl⟩
  rw [hr] at HF HSS hxl
  clear h0 HS HR hr hlo
  rcases r with _ | x
  · have HF2 : Hid (R = ([], 11)) := Lib.hid HF.out
    obtain rfl : S = ([], false, 0) := HSS.out
    simp only
    clear hxl HF HSS
    go_wp2_with fail
    go_ret2
    exact ⟨_, by rw [HF2.out]; rfl, by rw [HF2.out]; exact Ints.nil _ _, HB1.out⟩
  have hxV := hxl x rfl
  have HF2 : Hid (R = ([] ++ backGo V cs x V 1, 0)) := Lib.hid HF.out
  obtain rfl : S = (x, true, 0) := HSS.out
  simp only at HM HMN ⊢
  have hmn : mn = V := by rw [HMN.out]; exact hxV
  have HXV := Lib.hid hxV
  have hinfo : (Try.prog.info? 3).map (fun i => (i.zero, i.size, i.bytes)) = some (some (.int .i64 0), 1, 8) := by kernel_rfl
  have HI := Lib.hid hinfo
  have hown0 : Hid (OwnI w1 w1.heap.size (.slice none 0 0) []) := Lib.hid (OwnI.nil _ _)
  clear hxl HF HSS HMN hxV hinfo
  subst hmn
  go_wp2
  go_loopg [7, 8] mn (fun gg u7 u8 wx => ∃ (v : Nat) (acc : List Int), 1 ≤ v ∧ v + gg = mn + 1 ∧ u8 = .int .i64 v ∧ Hid (OwnI wx w1.heap.size u7 acc) ∧ Hid (Below w1.heap.size w1 wx) ∧ Hid (R = (acc ++ backGo mn cs x gg v, 0)) ∧ acc.length + 1 ≤ v ∧ Hid (∀ x ∈ acc, I64 x))
  case atStart => exact ⟨1, [], by omega, by omega, rfl, hown0, Lib.hid (Below.refl _ _), HF2, by simp, Lib.hid (by simp)⟩
  case round =>
  clear hown0 HF2
  obtain ⟨v, acc, hv1, hvg, rfl, HOW, HBX, HRX, hal, HAX⟩ := hrel
  obtain ⟨GK, hGK⟩ : ∃ G, G = gk := ⟨_, rfl⟩
  subst hGK
  have f0 := below_c HBX.out hs1 c0
  have f2 := below_c HBX.out hs1 c2
  have hsx := HBX.out.size
  by_cases hv : v ≤ mn
  case neg =>
    have HFF : Hid (R = (acc, 0)) := Lib.hid (by rw [HRX.out, show GK = 0 by omega, backGo, List.append_nil])
    have hv3 : mn < v := by omega
    clear hv HRX
    go_wp2_with fail
    go_ret2
    exact ⟨_, by rw [HFF.out]; rfl, by rw [HFF.out]; exact (HOW.out.ints (by omega) HAX.out).mono fun _ _ => trivial, HB1.out.trans (HBX.out.mono (by omega))⟩
  obtain ⟨f, rfl⟩ : ∃ f, GK = f + 1 := ⟨GK - 1, by omega⟩
  obtain ⟨v', hv'⟩ : ∃ v', v' + 1 = v := ⟨v - 1, by omega⟩
  obtain ⟨bt, hbt⟩ : ∃ b, x[v']? = some b := ⟨_, List.getElem?_eq_getElem (by have := HXV.out; omega)⟩
  obtain ⟨LT, hLT⟩ : ∃ l, bitLit x v = l := ⟨_, rfl⟩
  have hLT2 : LT = if bt = true then (v : Int) else -(v : Int) := by
    rw [← hLT, bitLit, show v - 1 = v' by omega, List.getD, hbt]; rfl
  have HRS : Hid (R = (acc ++ ((if (solveM mn cs [-LT]).1.isSome = true then [] else [LT]) ++ backGo mn cs x f (v + 1)), 0)) := Lib.hid (by rw [HRX.out, backGo, hLT])
  have hmx := Bools.below HM.out HBX.out
  obtain ⟨mb, mo, rfl, _, hmb, hmc⟩ := hmx.at hbt
  obtain ⟨ua, uc, rfl⟩ : ∃ a c, u7 = .slice a acc.length c := own_form HOW.out
  have HLT2 := Lib.hid hLT2
  have hLTb : -1000000 ≤ LT ∧ LT ≤ 1000000 ∧ LT ≠ 0 ∧ -(mn : Int) ≤ LT ∧ LT ≤ mn := by rw [hLT2]; split <;> omega
  have hw1 : IntKind.i64.wrap ((v : Int) - 1) = (v' : Int) := by rw [IntWalk.i64_in _ ⟨by omega, by omega⟩]; omega
  have hw0 : wrap64 ((v : Int) - 1) = (v' : Int) := by rw [IntWalk.wrap64_in _ ⟨by omega, by omega⟩]; omega
  have hw2 : ((v : Int) - 1) = (v' : Int) := by omega
  have hv2 : v' < mn := by omega
  clear hv' hbt hLT hLT2 HRX hmx
  go_upto_if 35 with fail
  go_cut [9] (fun u9 wx => u9 = .int .i64 LT ∧ wr = wx)
  case first =>
    rcases bool2 bt with rfl | rfl
    · have HL3 : Hid (LT = (v : Int)) := Lib.hid (by rw [HLT2.out, if_pos rfl])
      go_wp2
      go_meet
      exact ⟨by rw [HL3.out], rfl⟩
    · have HL3 : Hid (LT = -(v : Int)) := Lib.hid (by rw [HLT2.out, if_neg (by simp)])
      go_wp2
      go_meet
      exact ⟨by rw [HL3.out], rfl⟩
  case rest =>
  obtain ⟨rfl, rfl⟩ := hcut
  clear hw0 hw1 hw2 hv2 HLT2 hmc
  have hba : Below wr.heap.size wr (wr.alloc (.cells #[.int .i64 (-LT)] 3)) := (Below.refl _ _).alloc (Nat.le_refl _) _
  have HBA := Lib.hid hba
  have hsol := solve_any (F := F) (G := fun _ => True) mn (.slice a n c) (.slice (some ⟨wr.heap.size, 0, none⟩) 1 1) cs [-LT] (wr.alloc (.cells #[.int .i64 (-LT)] 3)) ((HX1.out.below HBX.out).below hba)
    ((ints_block [-LT] 1 (new_at wr _) (by simp) (by simp) (by unfold I64; simp; omega)).mono fun _ _ => trivial) (by omega) HLO.out (by unfold LitOk; simp; omega) (by omega) (by simp)
  obtain ⟨r, hr⟩ : ∃ r, solveM mn cs [-LT] = r := ⟨_, rfl⟩
  rw [hr] at hsol HRS
  have HSOL := Lib.hid hsol
  clear hsol hr hba
  go_wp2_with fail
  refine HSOL.out.mono ?_
  rintro e w5 ⟨p, o, L, cv5, lv5, mv5, rfl, ho, _, _, _, _, hb5⟩
  have HBY : Hid (Below w1.heap.size w1 w5) := Lib.hid (HBX.out.trans ((HBA.out.trans (hb5.mono HBA.out.size)).mono hsx))
  have HOW5 : Hid (OwnI w5 w1.heap.size (.slice ua acc.length uc) acc) := Lib.hid (own_below (own_below HOW.out HBA.out) hb5)
  have hs5 := HBY.out.size
  clear hb5 HSOL
  obtain ⟨r1, r2⟩ := r
  rcases r1 with _ | y
  · obtain rfl : o = 0 := ho
    have HRU : Hid (R = ((acc ++ [LT]) ++ backGo mn cs x f (v + 1), 0)) := Lib.hid (by rw [HRS.out, List.append_assoc]; rfl)
    have hown := HOW5.out
    unfold OwnI at hown
    clear HRS
    go_wp2_with (at_builtin; go_loud (refine wpList_push1 rfl _ _ 25 rfl 3 (.int .i64 0) 8 Try.underlying25 HI.out rfl w1.heap.size (.slice ua acc.length uc) acc.length _ w5 (.int .i64 LT) rfl rfl hown rfl (by omega) (by omega) (by omega) ?_); intro g6 cap6 w6 hown6 hg6 hs6 hgb hgl hat; have HB6 := Lib.hid (HBY.out.grown hg6 (by omega) (fun k hk => (hown.lt k hk).1)); have HO6 := Lib.hid (OwnI.snoc rfl hown6); clear hown6 hg6 hown)
    go_roundg f
    case measure => omega
    case rel =>
      refine ⟨v + 1, acc ++ [LT], by omega, by omega, by go_num, HO6, HB6, HRU, by simp; omega, Lib.hid (fun x hx => ?_)⟩
      rcases List.mem_append.1 hx with hx | hx
      · exact HAX.out x hx
      · simp at hx; subst hx; unfold I64; omega
  · obtain rfl : o = 1 := ho
    have HRU : Hid (R = (acc ++ backGo mn cs x f (v + 1), 0)) := Lib.hid (by rw [HRS.out]; rfl)
    clear HRS
    go_wp2_with fail
    go_roundg f
    case measure => omega
    case rel => exact ⟨v + 1, acc, by omega, by omega, by go_num, HOW5, HBY, HRU, by omega, HAX⟩
end Go.Proofs.Ytjbhglmmakkkgaa
