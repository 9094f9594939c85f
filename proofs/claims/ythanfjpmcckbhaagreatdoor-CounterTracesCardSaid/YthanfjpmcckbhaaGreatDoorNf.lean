/- Walks: the statement's Satisfiable. Canonical clauses over a set of variables that is smaller than the fuel. -/
import Derived.Test.YthanfjpmcckbhaaGreatDoorNc
import Derived.Test.YthanfjpmcckbhaaGreatDoorQu
namespace Go.Proofs.YthanfjpmcckbhaaGreatDoor
open Go.ChangeShapes Go.WideShapes Go.ChangeAt Go.RowKit
set_option linter.unusedVariables false

theorem canM_ln (cs : List (List Int)) : (canM cs).length ≤ cs.length := by
  have h1 := cptG_len none (srtC clsC ((cs.map claM).filter fun c => !oppM c))
  rw [(srtC_perm clsC _).length_eq] at h1
  have h2 := List.length_filter_le (fun c => !oppM c) (cs.map claM)
  rw [List.length_map] at h2
  exact Nat.le_trans h1 h2
theorem resM_ln (cs : List (List Int)) (lit : Int) : (resM cs lit).length ≤ cs.length := Nat.le_trans (canM_ln _) (resG_len lit cs)
theorem resM_ea {cs : List (List Int)} {lit : Int} {d : List Int} {m : Nat} (hm : ∀ c ∈ cs, c.length ≤ m) (h : d ∈ resM cs lit) : d.length ≤ m := by
  unfold resM at h
  obtain ⟨_, c, hc, rfl⟩ := canM_iff.1 h
  obtain ⟨x, hx, h1, rfl⟩ := resG_mem lit cs c hc
  exact Nat.le_trans (claM_len _) (Nat.le_trans (rstM_len lit x) (hm x hx))
/-- sizes -/
def SzOk (cs : List (List Int)) : Prop := cs.length ≤ 1048576 ∧ ∀ c ∈ cs, c.length ≤ 16777216
theorem SzOk.res {cs : List (List Int)} (h : SzOk cs) (x : Int) : SzOk (resM cs x) := ⟨Nat.le_trans (resM_ln cs x) h.1, fun _ hd => resM_ea h.2 hd⟩
def BoolB (w : World) (b : Bool) (e : Ending) (w' : World) : Prop := e = .returned (.bool b) ∧ Below w.heap.size w w'
def satF (k : Nat) (cs : List (List Int)) (N : Bool) : Option (List Int) → Bool
  | some u => satM k (resM cs (u.headD 0))
  | none => N
theorem satM_some {k : Nat} {x : Int} {s : List Int} {r : List (List Int)} : satM (k + 1) ((x :: s) :: r) = satF k ((x :: s) :: r) (satM k (resM ((x :: s) :: r) x) || satM k (resM ((x :: s) :: r) (-x))) (((x :: s) :: r).find? fun c => c.length == 1) := by
  rw [satM, if_neg (by simp), if_neg (by simp)]
  rcases ((x :: s) :: r).find? (fun c => c.length == 1) with _ | u <;> rfl
theorem Vs.resn {S : List Int} {cs : List (List Int)} {x : Int} (hv : Vs S cs) (hs : Sm x) (h0 : x ≠ 0) : Vs (S.erase (varM x)) (resM cs (-x)) := by
  have hvn : varM (-x) = varM x := by unfold varM; split <;> split <;> omega
  have := hv.res (x := -x) (by unfold Sm at *; omega) (by omega)
  rwa [hvn] at this
set_option maxRecDepth 100000 in
set_option maxHeartbeats 4000000 in
theorem sat_any : ∀ (k : Nat) (S : List Int) (F : Nat → Prop) (v : Value) (cs : List (List Int)) (w : World), Vs S cs → (∀ v ∈ S, v ≤ 1000000) → S.length < k → Clss F w v cs → SzOk cs →
    Calls Tryz.prog 58 #[v] w (BoolB w (satM k cs))
  | 0, S, F, v, cs, w, _, _, h, _, _ => by omega
  | k + 1, S, F, v, cs, w, hv, hS, hk, hx, hok => by
    have ih := sat_any k
    have hstep : ∀ c ∈ cs, ∀ x ∈ c, Sm x ∧ (∀ F v w, Clss F w v (resM cs x) → Calls Tryz.prog 58 #[v] w (BoolB w (satM k (resM cs x)))) ∧ ∀ F v w, Clss F w v (resM cs (-x)) → Calls Tryz.prog 58 #[v] w (BoolB w (satM k (resM cs (-x)))) := fun c hc x hxc => by
      obtain ⟨hs, h0, hm⟩ := hv.sm hS hc hxc
      have hE : ∀ v ∈ S.erase (varM x), v ≤ 1000000 := fun v h => hS v (List.mem_of_mem_erase h)
      exact ⟨hs, fun F v w h => ih _ F v _ w (hv.res hs h0) hE (erase_len hm hk) h (hok.res x), fun F v w h => ih _ F v _ w (hv.resn hs h0) hE (erase_len hm hk) h (hok.res (-x))⟩
    obtain ⟨a, n, c, rfl, HN, hn⟩ := hx.form'
    have hn2 : n ≤ 1048576 := by rw [HN.out]; exact hok.1
    obtain ⟨R, hR⟩ : ∃ R, satM (k + 1) cs = R := ⟨_, rfl⟩
    rw [hR]
    have HX := Lib.hid hx
    have HST := Lib.hid hstep
    have HOK := Lib.hid hok
    clear ih hv hS hk hstep
    rcases cs with _ | ⟨c0, r⟩
    · have hn0 : n = 0 := HN.out
      subst hn0
      have HF : Hid (R = true) := Lib.hid (by rw [← hR, satM, if_pos rfl])
      clear hR hx hok hn hn2
      go_enter Tryz.func58, Tryz.ntmps58
      go_wp2
      go_ret
      exact ⟨by rw [HF.out]; rfl, Below.refl _ _⟩
    have hnp : 0 < n := by rw [HN.out]; simp
    have hnz : ((n : Int) == 0) = false := by rw [beq_eq_false_iff_ne]; omega
    have hnz2 : (n == 0) = false := by rw [beq_eq_false_iff_ne]; omega
    have hnp2 : (0 : Int) < n := by omega
    obtain ⟨b, o, u, rfl, _, hb, hcc, hu⟩ := hx.at (k := 0) (x := c0) rfl
    rw [Nat.add_zero] at hcc
    obtain ⟨ua, un, uc, rfl, HUN, hun⟩ := hu.form'
    rcases c0 with _ | ⟨x, s⟩
    · have hu0 : un = 0 := HUN.out
      subst hu0
      have HF : Hid (R = false) := Lib.hid (by rw [← hR, satM, if_neg (by simp), if_pos (by simp)])
      clear hR hx hok hn hu hun
      go_enter Tryz.func58, Tryz.ntmps58
      go_wp2
      go_ret
      exact ⟨by rw [HF.out]; rfl, Below.refl _ _⟩
    have hup : 0 < un := by rw [HUN.out]; simp
    have huz : ((un : Int) == 0) = false := by rw [beq_eq_false_iff_ne]; omega
    have huz2 : (un == 0) = false := by rw [beq_eq_false_iff_ne]; omega
    have hup2 : (0 : Int) < un := by omega
    obtain ⟨yb, yo, rfl, _, hyb, hyc, hy64⟩ := hu.at (k := 0) (x := x) rfl
    rw [Nat.add_zero] at hyc
    obtain ⟨N, hN⟩ : ∃ N, (satM k (resM ((x :: s) :: r) x) || satM k (resM ((x :: s) :: r) (-x))) = N := ⟨_, rfl⟩
    have HR0 : Hid (R = satF k ((x :: s) :: r) N ((((x :: s) :: r).drop 0).find? fun c => c.length == 1)) := Lib.hid (by rw [← hR, satM_some, hN, List.drop_zero])
    have HNN := Lib.hid hN
    obtain ⟨cs, hcs⟩ : ∃ cs, (x :: s) :: r = cs := ⟨_, rfl⟩
    have HC0 : Hid (∃ c ∈ cs, x ∈ c) := Lib.hid ⟨x :: s, by rw [← hcs]; simp, by simp⟩
    rw [hcs] at HN HX HST HOK HR0 HNN
    clear hR hx hok hu hun hN hcs
    go_enter Tryz.func58, Tryz.ntmps58
    go_wp2
    go_loopg [21] n (fun gg u21 wx => ∃ (j : Nat), j + gg = n ∧ u21 = .int .i64 j ∧ w = wx ∧ Hid (R = satF k cs N ((cs.drop j).find? fun c => c.length == 1)))
    case atStart => exact ⟨0, by omega, rfl, rfl, HR0⟩
    case round =>
    clear HR0
    obtain ⟨j, hjg, rfl, rfl, HR⟩ := hrel
    by_cases hj : j < n
    case neg =>
      have hd : decide ((j : Int) < n) = false := by simp; omega
      have hd2 : decide (j < n) = false := decide_eq_false hj
      have HF : Hid (R = (satM k (resM cs x) || satM k (resM cs (-x)))) := Lib.hid (by
        rw [HR.out, List.drop_eq_nil_of_le (by have := HN.out; omega), HNN.out]; rfl)
      have HQ : Hid (∃ c ∈ cs, x ∈ c) := HC0
      obtain ⟨cx, hcx, hxc⟩ := HC0.out
      obtain ⟨hsm, h1, h2⟩ := HST.out cx hcx x hxc
      have H1 := Lib.hid h1
      have H2 := Lib.hid h2
      have hwn := hsm.neg
      have HRS := Lib.hid (lresidual_any _ _ cs x w HX.out hy64 HOK.out.1 HOK.out.2)
      have HI : Hid (I64 (-x)) := Lib.hid ⟨by have := hsm.1; have := hsm.2; omega, by have := hsm.1; have := hsm.2; omega⟩
      obtain ⟨B1, hB1⟩ : ∃ B1, satM k (resM cs x) = B1 := ⟨_, rfl⟩
      have HB1 := Lib.hid hB1
      rw [hB1] at HF H1
      clear HR hsm h1 h2 hB1 HNN HC0 HQ HST hcx hxc
      go_wp2_with fail
      refine HRS.out.mono ?_
      rintro e w1 ⟨v1, rfl, hc1, hb1⟩
      obtain ⟨qa, qn, qc, rfl, _, _⟩ := hc1.form'
      have HS1 := Lib.hid (H1.out _ _ w1 hc1)
      have HBB1 := Lib.hid hb1
      clear hc1 hb1 HRS H1
      go_wp2_with fail
      refine HS1.out.mono ?_
      rintro e w2 ⟨rfl, hb2⟩
      have HBB2 : Hid (Below w.heap.size w w2) := Lib.hid (HBB1.out.trans (hb2.mono HBB1.out.size))
      clear hb2 HS1
      rcases bool2 B1 with rfl | rfl
      · go_wp2_with fail
        go_ret
        exact ⟨by rw [HF.out]; rfl, HBB2.out⟩
      have HX2 := Lib.hid (HX.out.below HBB2.out)
      have HRS := Lib.hid (lresidual_any _ _ cs (-x) w2 HX2.out HI.out HOK.out.1 HOK.out.2)
      clear HX2
      go_wp2_with fail
      refine HRS.out.mono ?_
      rintro e w3 ⟨v3, rfl, hc3, hb3⟩
      obtain ⟨ra, rn, rc, rfl, _, _⟩ := hc3.form'
      have HS3 := Lib.hid (H2.out _ _ w3 hc3)
      have HBB3 : Hid (Below w.heap.size w w3) := Lib.hid (HBB2.out.trans (hb3.mono HBB2.out.size))
      clear hc3 hb3 HRS H2
      go_wp2_with fail
      refine HS3.out.mono ?_
      rintro e w4 ⟨rfl, hb4⟩
      have HBB4 : Hid (Below w.heap.size w w4) := Lib.hid (HBB3.out.trans (hb4.mono HBB3.out.size))
      clear hb4 HS3
      go_wp2_with fail
      go_ret
      exact ⟨by rw [HF.out]; rfl, HBB4.out⟩
    obtain ⟨d, hdd, ed⟩ := drop_at (xs := cs) (k := j) (by have := HN.out; omega)
    obtain ⟨b', o', u', hbo, _, hb', hcc', hu'⟩ := HX.out.at hdd
    injection hbo with hbo
    injection hbo with hb1 hb2
    subst hb1 hb2
    obtain ⟨va, vn, vc, rfl, HVN, hvn⟩ := hu'.form'
    have hdj : decide ((j : Int) < n) = true := by simp; omega
    have hdj2 : decide (j < n) = true := decide_eq_true hj
    have HU := Lib.hid hu'
    clear hu'
    by_cases h1 : vn = 1
    · subst h1
      obtain ⟨y, rfl⟩ : ∃ y, d = [y] := by
        have := HVN.out
        match d, this with
        | [y], _ => exact ⟨y, rfl⟩
      have HF : Hid (R = satM k (resM cs y)) := Lib.hid (by rw [HR.out, ed, List.find?_cons_of_pos (by rfl)]; rfl)
      obtain ⟨hsm, h1, h2⟩ := HST.out _ (List.mem_of_getElem? hdd) y (List.mem_cons_self ..)
      have H1 := Lib.hid h1
      obtain ⟨zb, zo, rfl, _, hzb, hzc, hz64⟩ := HU.out.at (k := 0) (x := y) rfl
      rw [Nat.add_zero] at hzc
      have HRS := Lib.hid (lresidual_any _ _ cs y w HX.out hz64 HOK.out.1 HOK.out.2)
      clear HR hdd ed hsm h1 h2 HU HST HNN HC0
      go_wp2_with fail
      refine HRS.out.mono ?_
      rintro e w1 ⟨v1, rfl, hc1, hb1⟩
      obtain ⟨qa, qn, qc, rfl, _, _⟩ := hc1.form'
      have HS1 := Lib.hid (H1.out _ _ w1 hc1)
      have HBB1 := Lib.hid hb1
      clear hc1 hb1 HRS H1
      go_wp2_with fail
      refine HS1.out.mono ?_
      rintro e w2 ⟨rfl, hb2⟩
      have HBB2 : Hid (Below w.heap.size w w2) := Lib.hid (HBB1.out.trans (hb2.mono HBB1.out.size))
      clear hb2 HS1
      go_wp2_with fail
      go_ret
      exact ⟨by rw [HF.out]; rfl, HBB2.out⟩
    · have HF : Hid (R = satF k cs N ((cs.drop (j + 1)).find? fun c => c.length == 1)) := Lib.hid (by
        rw [HR.out, ed, List.find?_cons_of_neg (by have := HVN.out; simp; omega)])
      have hv1 : ((vn : Int) == 1) = false := by rw [beq_eq_false_iff_ne]; omega
      have hv2 : (vn == 1) = false := by rw [beq_eq_false_iff_ne]; exact h1
      clear HR hdd ed HU h1
      go_wp2
      go_roundg (gk - 1)
      case measure => omega
      case rel => exact ⟨j + 1, by omega, by go_num, rfl, HF⟩
end Go.Proofs.YthanfjpmcckbhaaGreatDoor
