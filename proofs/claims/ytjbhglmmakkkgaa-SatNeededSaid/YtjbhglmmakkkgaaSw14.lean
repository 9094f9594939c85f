/- Walk: sat.Propagate. -/
import Derived.Test.YtjbhglmmakkkgaaSw13
namespace Go.Proofs.Ytjbhglmmakkkgaa
open Go.ChangeShapes Go.WideShapes Go.ChangeAt Go.RowKit
set_option linter.unusedVariables false

/-- not a literal of V variables -/
def badB (V : Nat) (l : Int) : Bool := decide (l = 0) || decide (l < -(V : Int)) || decide ((V : Int) < l)
/-- the set literals from the variable v on -/
def outGo2 (m : List Bool) : Nat → Nat → List Int
  | 0, _ => []
  | f + 1, v => (if m.getD (v * 2) false = true then [-(v : Int)] else []) ++ ((if m.getD (v * 2 + 1) false = true then [(v : Int)] else []) ++ outGo2 m f (v + 1))
def propagateM (vars keep : Int) (cs : List (List Int)) (lits : List Int) : List Int × Bool × Int :=
  if checkM vars keep cs ≠ 0 then ([], false, 1) else if lits.any (badB vars.toNat) = true then ([], false, 3)
  else if okM vars.toNat cs lits = false then ([], true, 0) else (outGo2 (marksM vars.toNat cs lits) vars.toNat 1, false, 0)
def PropsPost (W : World) (r : List Int × Bool × Int) (e : Ending) (w' : World) : Prop :=
  ∃ mv, e = .returned (.tuple #[mv, .bool r.2.1, .int .i64 r.2.2]) ∧ Ints (fun _ => True) w' mv r.1 ∧ Below W.heap.size W w'
/-- a slice of ints that the call owns -/
def OwnI (w : World) (base : Nat) (v : Value) (xs : List Int) : Prop := w.ownsRow base 3 1 v xs.length (xs.map (.int .i64))
theorem OwnI.nil (w : World) (base : Nat) : OwnI w base (.slice none 0 0) [] := World.ownsRow_nil _ _ _ _
theorem OwnI.snoc {w : World} {base g cap n : Nat} {xs : List Int} {x : Int} (hn : n = xs.length) (h : w.ownsRow base 3 1 (.slice (some ⟨g, 0, none⟩) (n + 1) cap) (n + 1) (xs.map (.int .i64) ++ [.int .i64 x])) : OwnI w base (.slice (some ⟨g, 0, none⟩) (n + 1) cap) (xs ++ [x]) := by
  subst hn
  unfold OwnI
  rw [List.length_append, List.map_append]
  exact h
theorem OwnI.ints {w : World} {base : Nat} {v : Value} {xs : List Int} (h : OwnI w base v xs) (hn : xs.length ≤ 9223372036854775807) (hx : ∀ x ∈ xs, I64 x) : Ints (fun b => base ≤ b) w v xs := ⟨(ownsRow_sl1 h hn).mono fun b hb => hb.1, hx⟩

set_option maxRecDepth 100000 in
set_option maxHeartbeats 8000000 in
theorem Propagate_any {F G : Nat → Prop} (vars keep : Int) (cv lv : Value) (cs : List (List Int)) (lits : List Int) (w : World) (hc : Clss F w cv cs) (hl : Ints G w lv lits) (hv : I64 vars) (hk : I64 keep) :
    Calls Try.prog 14 #[.agg #[.int .i64 vars, .int .i64 keep, cv], lv] w (PropsPost w (propagateM vars keep cs lits)) := by
  obtain ⟨a, n, c, rfl, HN, hn⟩ := hc.form'
  obtain ⟨la, ln, lc, rfl, HLN, hln⟩ := hl.form'
  have hb : Below w.heap.size w (w.alloc (.cells #[.int .i64 vars, .int .i64 keep, .slice a n c] 24)) := (Below.refl _ _).alloc (Nat.le_refl _) _
  have HB := Lib.hid hb
  have HX := Lib.hid (hc.below hb)
  have HL := Lib.hid (hl.below hb)
  have hck := check_any F vars keep (.slice a n c) cs _ (hc.below hb) hv hk
  obtain ⟨R, hR⟩ : ∃ R, propagateM vars keep cs lits = R := ⟨_, rfl⟩
  have HR := Lib.hid hR
  rw [hR]
  obtain ⟨C, hC⟩ : ∃ C, checkM vars keep cs = C := ⟨_, rfl⟩
  have HC := Lib.hid hC
  rw [hC] at hck
  have HCK := Lib.hid hck
  clear hck hR hC hb hc hl
  go_enter Try.func14, Try.ntmps14
  go_wp2_with fail
  refine HCK.out.mono ?_
  rintro e w1 ⟨rfl, hb1⟩
  have HB1 : Hid (Below w.heap.size w w1) := Lib.hid (HB.out.trans (hb1.mono (by simp)))
  have c0 := below_c hb1 (show w.heap.size < _ by simp) (o := 0) (v := .int .i64 vars) (by simp)
  have c2 := below_c hb1 (show w.heap.size < _ by simp) (o := 2) (v := .slice a n c) (by simp)
  have HX1 := Lib.hid (HX.out.below hb1)
  have HL1 := Lib.hid (HL.out.below hb1)
  have hs1 := block_lt c0
  clear hb1 HX HL HCK HB
  by_cases h0 : C = 0
  case neg =>
    have HF : Hid (R = ([], false, 1)) := Lib.hid (by rw [← HR.out, propagateM, HC.out, if_pos h0])
    have hd : (C != 0) = true := by simp [h0]
    clear h0
    go_wp2_with fail
    go_ret3
    exact ⟨_, by rw [HF.out]; rfl, by rw [HF.out]; exact Ints.nil _ _, HB1.out⟩
  obtain ⟨V, rfl, hV2, _, _, hcl, hlo, _⟩ := check_ok (HC.out.trans h0)
  have HR2 : Hid (R = if (lits.drop 0).any (badB V) = true then ([], false, 3) else if okM V cs lits = false then ([], true, 0) else (outGo2 (marksM V cs lits) V 1, false, 0)) := Lib.hid (by rw [← HR.out, propagateM, HC.out, if_neg (by omega)]; rfl)
  have hd : (C != 0) = false := by simp [h0]
  have HLO := Lib.hid hlo
  clear h0 hlo HC HR
  go_wp2
  go_loopg [18] ln (fun gg u18 wx => ∃ k : Nat, k + gg = ln ∧ u18 = .int .i64 k ∧ w1 = wx ∧ Hid (R = if (lits.drop k).any (badB V) = true then ([], false, 3) else if okM V cs lits = false then ([], true, 0) else (outGo2 (marksM V cs lits) V 1, false, 0)) ∧ Hid (∀ l ∈ lits.take k, LitOk V l))
  case atStart => exact ⟨0, by omega, rfl, rfl, HR2, Lib.hid (by simp)⟩
  case round =>
  clear HR2
  obtain ⟨k, hkg, rfl, rfl, HI, HT⟩ := hrel
  by_cases hk : k < ln
  case pos =>
    obtain ⟨x, hx, e⟩ := drop_at (xs := lits) (k := k) (by have := HLN.out; omega)
    have hll := HL1.out
    obtain ⟨xb, xo, rfl, _, hxb, hxc, hx64⟩ := hll.at hx
    obtain ⟨hx1, hx2⟩ := hx64
    have HE : Hid (R = if (badB V x || (lits.drop (k + 1)).any (badB V)) = true then ([], false, 3) else if okM V cs lits = false then ([], true, 0) else (outGo2 (marksM V cs lits) V 1, false, 0)) := Lib.hid (by rw [HI.out, e, List.any_cons])
    have HTK : Hid (LitOk V x → ∀ l ∈ lits.take (k + 1), LitOk V l) := Lib.hid (fun h l hl => by
      rw [List.take_succ_eq_append_getElem (by have := HLN.out; omega)] at hl
      rcases List.mem_append.1 hl with hl | hl
      · exact HT.out l hl
      · have h2 : lits[k]'(by have := HLN.out; omega) = x := by rw [List.getElem?_eq_getElem (by have := HLN.out; omega)] at hx; injection hx
        rw [h2] at hl
        simp at hl
        exact hl ▸ h)
    clear HI HT e hx hll
    by_cases h0 : x = 0
    · have HF : Hid (R = ([], false, 3)) := Lib.hid (by rw [HE.out, badB, decide_eq_true h0]; rfl)
      have hd : (x == 0) = true := by simp [h0]
      clear h0
      go_wp2_with fail
      try rw [Exit.noGoto_ret]
      go_ret3
      exact ⟨_, by rw [HF.out]; rfl, by rw [HF.out]; exact Ints.nil _ _, HB1.out⟩
    have hd : (x == 0) = false := by simp [h0]
    by_cases h1 : x < -(V : Int)
    · have HF : Hid (R = ([], false, 3)) := Lib.hid (by rw [HE.out, badB, decide_eq_true h1]; simp)
      have hd : decide (x < -(V : Int)) = true := by simp [h1]
      clear h0
      go_wp2_with fail
      try rw [Exit.noGoto_ret]
      go_ret3
      exact ⟨_, by rw [HF.out]; rfl, by rw [HF.out]; exact Ints.nil _ _, HB1.out⟩
    have hd1 : decide (x < -(V : Int)) = false := decide_eq_false h1
    by_cases h2 : (V : Int) < x
    · have HF : Hid (R = ([], false, 3)) := Lib.hid (by rw [HE.out, badB, decide_eq_true h2]; simp)
      have hd : decide ((V : Int) < x) = true := by simp [h2]
      clear h0 h1
      go_wp2_with fail
      try rw [Exit.noGoto_ret]
      go_ret3
      exact ⟨_, by rw [HF.out]; rfl, by rw [HF.out]; exact Ints.nil _ _, HB1.out⟩
    have hd2 : decide ((V : Int) < x) = false := decide_eq_false h2
    have HF : Hid (R = if (lits.drop (k + 1)).any (badB V) = true then ([], false, 3) else if okM V cs lits = false then ([], true, 0) else (outGo2 (marksM V cs lits) V 1, false, 0)) := Lib.hid (by
      rw [HE.out, show badB V x = false by unfold badB; rw [decide_eq_false h0, decide_eq_false h1, decide_eq_false h2]; rfl, Bool.false_or])
    have HT2 := Lib.hid (HTK.out (by unfold LitOk; omega))
    clear h0 h1 h2 HE HTK
    go_wp2_with fail
    go_roundg (gk - 1)
    case measure => omega
    case rel => exact ⟨k + 1, by omega, by go_num, rfl, HF, HT2⟩
  have HLT : Hid (∀ l ∈ lits, LitOk V l) := Lib.hid (by
    have := HT.out
    rwa [List.take_of_length_le (by have := HLN.out; omega)] at this)
  have HF : Hid (R = if okM V cs lits = false then ([], true, 0) else (outGo2 (marksM V cs lits) V 1, false, 0)) := Lib.hid (by rw [HI.out, List.drop_eq_nil_of_le (by have := HLN.out; omega), if_neg (by simp)])
  have hk2 : ln ≤ k := by omega
  obtain ⟨OK, hOK⟩ : ∃ x, okM V cs lits = x := ⟨_, rfl⟩
  obtain ⟨MM, hMM⟩ : ∃ x, marksM V cs lits = x := ⟨_, rfl⟩
  rw [hOK, hMM] at HF
  have HOK := Lib.hid hOK
  have HMM := Lib.hid hMM
  have hst := start_any G V (.slice la ln lc) lits w1 HL1.out (by omega) HLT.out
  obtain ⟨S, hS⟩ : ∃ S, startM V lits = S := ⟨_, rfl⟩
  rw [hS] at hst
  have HS := Lib.hid hS
  have HST := Lib.hid hst
  clear HI HT hk hOK hMM hst hS
  go_wp2_with fail
  refine HST.out.mono ?_
  rintro e w2 ⟨g, rfl, hm, hb2⟩
  have HM1 := Lib.hid hm
  have HB2 := Lib.hid hb2
  have hg := hm.lt
  have d0 := below_c hb2 hs1 c0
  have d2 := below_c hb2 hs1 c2
  have hs2 := hb2.size
  have C0 := Lib.hid c0
  clear hm hb2 HST c0 c2
  obtain ⟨m0, ok⟩ := S
  simp only
  go_upto_region 10 with fail
  go_cut [53] (fun u53 wx => u53 = .bool (!OK) ∧ Hid (Below w1.heap.size w1 wx) ∧ Hid (OK = true → Marks wx w1.heap.size g V MM))
  case first =>
    rcases bool2 ok with rfl | rfl
    · have hpr := propagate_any (F := fun b => b < w1.heap.size) (base := w1.heap.size) (g := g) (V := V) (HX1.out.lt.below HB2.out) HM1.out (fun k hk => by omega) (by omega) HLO.out
      have HO : Hid (OK = (propM cs m0).1) := Lib.hid (by rw [← HOK.out, okM, HS.out]; rfl)
      have HO2 : Hid (MM = (propM cs m0).2) := Lib.hid (by rw [← HMM.out, marksM, HS.out])
      have HPR := Lib.hid hpr
      clear hpr
      go_wp2_with fail
      refine HPR.out.mono ?_
      rintro e w3 ⟨rfl, hm3, hb3⟩
      have HM3 := Lib.hid hm3
      have HB3 := Lib.hid hb3
      clear hm3 hb3
      go_wp2
      go_meet
      exact ⟨by rw [HO.out], Lib.hid (HB2.out.trans (HB3.out.mono hg.1)), Lib.hid (fun _ => by rw [HO2.out]; exact HM3.out)⟩
    · have HO : Hid (OK = false) := Lib.hid (by rw [← HOK.out, okM, HS.out]; rfl)
      go_wp2
      go_meet
      exact ⟨by rw [HO.out]; rfl, HB2, Lib.hid (fun h => by rw [HO.out] at h; cases h)⟩
  case rest =>
  obtain ⟨rfl, HB3, HMK⟩ := hcut
  have e0 := below_c HB3.out hs1 C0.out
  have hs3 := HB3.out.size
  have HB4 : Hid (Below w.heap.size w wc) := Lib.hid (HB1.out.trans (HB3.out.mono HB1.out.size))
  clear d0 d2 HM1 HB2 HS
  rcases bool2 OK with rfl | rfl
  case inr =>
    have HFF : Hid (R = ([], true, 0)) := Lib.hid (by rw [HF.out, if_pos rfl])
    go_wp2_with fail
    go_ret3
    exact ⟨_, by rw [HFF.out]; rfl, by rw [HFF.out]; exact Ints.nil _ _, HB4.out⟩
  have hmk := HMK.out rfl
  have hgw := hmk.lt.2
  have HMB : Hid (∀ i, i < (V + 1) * 2 → wc.cell? ⟨g, i, none⟩ = some (.bool (MM.getD i false))) := Lib.hid hmk.cell
  have HF2 : Hid (R = ([] ++ outGo2 MM V 1, false, 0)) := Lib.hid (by rw [HF.out, if_neg (by simp)]; rfl)
  have hinfo : (Try.prog.info? 3).map (fun i => (i.zero, i.size, i.bytes)) = some (some (.int .i64 0), 1, 8) := by kernel_rfl
  have HI := Lib.hid hinfo
  have hown0 : Hid (OwnI wc wc.heap.size (.slice none 0 0) []) := Lib.hid (OwnI.nil _ _)
  have hsw : w.heap.size < wc.heap.size := by omega
  obtain ⟨w4, rfl⟩ : ∃ x, x = wc := ⟨_, rfl⟩
  clear hmk HMK HF hinfo
  go_wp2
  go_loopg [11, 12] V (fun gg u11 u12 wx => ∃ (v : Nat) (acc : List Int), 1 ≤ v ∧ v + gg = V + 1 ∧ u12 = .int .i64 v ∧ Hid (OwnI wx w4.heap.size u11 acc) ∧ Hid (Below w4.heap.size w4 wx) ∧ Hid (R = (acc ++ outGo2 MM gg v, false, 0)) ∧ acc.length + 2 ≤ 2 * v ∧ Hid (∀ x ∈ acc, I64 x))
  case atStart => exact ⟨1, [], by omega, by omega, rfl, hown0, Lib.hid (Below.refl _ _), HF2, by simp, Lib.hid (by simp)⟩
  case round =>
  clear hown0 HF2
  obtain ⟨v, acc, hv1, hvg, rfl, HOW, HBX, HRX, hal, HAX⟩ := hrel
  obtain ⟨GK, hGK⟩ : ∃ G, G = gk := ⟨_, rfl⟩
  subst hGK
  have f0 := below_c HBX.out hsw e0
  have hsx := HBX.out.size
  have hh : GK = GK := rfl
  by_cases hv : v ≤ V
  case neg =>
    have HFF : Hid (R = (acc, false, 0)) := Lib.hid (by rw [HRX.out, show GK = 0 by omega, outGo2, List.append_nil])
    have hv3 : V < v := by omega
    clear hv HRX
    go_wp2_with fail
    go_ret3
    exact ⟨_, by rw [HFF.out]; rfl, by rw [HFF.out]; exact (HOW.out.ints (by omega) HAX.out).mono fun _ _ => trivial, HB4.out.trans (HBX.out.mono (by omega))⟩
  obtain ⟨f, rfl⟩ : ∃ f, GK = f + 1 := ⟨GK - 1, by omega⟩
  have hx := below_c HBX.out hgw (HMB.out (v * 2) (by omega))
  have hy := below_c HBX.out hgw (HMB.out (v * 2 + 1) (by omega))
  obtain ⟨bx, hbx⟩ : ∃ x, MM.getD (v * 2) false = x := ⟨_, rfl⟩
  obtain ⟨bq, hby⟩ : ∃ x, MM.getD (v * 2 + 1) false = x := ⟨_, rfl⟩
  have HRS : Hid (R = (acc ++ ((if bx = true then [-(v : Int)] else []) ++ ((if bq = true then [(v : Int)] else []) ++ outGo2 MM f (v + 1))), false, 0)) := Lib.hid (by rw [HRX.out, outGo2, hbx, hby])
  rw [hbx] at hx
  rw [hby] at hy
  have HY : Hid (w4.cell? ⟨g, v * 2 + 1, none⟩ = some (.bool bq)) := Lib.hid (by rw [← hby]; exact HMB.out (v * 2 + 1) (by omega))
  obtain ⟨ua, uc, rfl⟩ : ∃ a c, u11 = .slice a acc.length c := own_form HOW.out
  clear hbx hby HRX hh
  go_upto_if 64 with fail
  go_cut [11] (fun u11 wx => ∃ acc1, Hid (acc1 = acc ++ (if bx = true then [-(v : Int)] else [])) ∧ Hid (OwnI wx w4.heap.size u11 acc1) ∧ Hid (Below w4.heap.size w4 wx) ∧ acc1.length ≤ acc.length + 1 ∧ Hid (∀ x ∈ acc1, I64 x) ∧ wx.cell? ⟨g, v * 2 + 1, none⟩ = some (.bool bq))
  case first =>
    rcases bool2 bx with rfl | rfl
    · have hown := HOW.out
      unfold OwnI at hown
      go_wp2_with (at_builtin; go_loud (refine wpList_push1 rfl _ _ 25 rfl 3 (.int .i64 0) 8 Try.underlying25 HI.out rfl w4.heap.size (.slice ua acc.length uc) acc.length _ wr (.int .i64 (-(v : Int))) rfl rfl hown rfl (by omega) (by omega) (by omega) ?_); intro g5 cap5 w5 hown5 hg5 hs5 hgb hgl hat; have HB5 := Lib.hid (HBX.out.grown hg5 (by omega) (fun k hk => (hown.lt k hk).1)); have HO5 := Lib.hid (OwnI.snoc rfl hown5); clear hown5 hg5 hown)
      go_meet
      refine ⟨acc ++ [-(v : Int)], Lib.hid (by simp), HO5, HB5, by simp, Lib.hid (fun x hx => ?_), below_c HB5.out hgw HY.out⟩
      rcases List.mem_append.1 hx with hx | hx
      · exact HAX.out x hx
      · simp at hx; subst hx; unfold I64; omega
    · go_wp2
      go_meet
      exact ⟨acc, Lib.hid (by simp), HOW, HBX, by omega, HAX, hy⟩
  case rest =>
  clear HOW HBX hx hy hsx f0
  obtain ⟨acc1, HA1, HOW, HBX, hal1, HAX1, hy⟩ := hcut
  have hsx := HBX.out.size
  have f0 := below_c HBX.out hsw e0
  obtain ⟨ub, ud, rfl⟩ : ∃ a c, u11 = .slice a acc1.length c := own_form HOW.out
  have HRT : Hid (R = (acc1 ++ ((if bq = true then [(v : Int)] else []) ++ outGo2 MM f (v + 1)), false, 0)) := Lib.hid (by rw [HRS.out, HA1.out, List.append_assoc])
  clear HRS HA1 HAX
  rcases bool2 bq with rfl | rfl
  · have HRU : Hid (R = ((acc1 ++ [(v : Int)]) ++ outGo2 MM f (v + 1), false, 0)) := Lib.hid (by rw [HRT.out, if_pos rfl, List.append_assoc])
    have hown := HOW.out
    unfold OwnI at hown
    go_wp2_with (at_builtin; go_loud (refine wpList_push1 rfl _ _ 25 rfl 3 (.int .i64 0) 8 Try.underlying25 HI.out rfl w4.heap.size (.slice ub acc1.length ud) acc1.length _ wc (.int .i64 (v : Int)) rfl rfl hown rfl (by omega) (by omega) (by omega) ?_); intro g5 cap5 w5 hown5 hg5 hs5 hgb hgl hat; have HB5 := Lib.hid (HBX.out.grown hg5 (by omega) (fun k hk => (hown.lt k hk).1)); have HO5 := Lib.hid (OwnI.snoc rfl hown5); clear hown5 hg5 hown)
    go_roundg f
    case measure => omega
    case rel =>
      refine ⟨v + 1, acc1 ++ [(v : Int)], by omega, by omega, by go_num, HO5, HB5, HRU, by simp; omega, Lib.hid (fun x hx => ?_)⟩
      rcases List.mem_append.1 hx with hx | hx
      · exact HAX1.out x hx
      · simp at hx; subst hx; unfold I64; omega
  · have HRU : Hid (R = (acc1 ++ outGo2 MM f (v + 1), false, 0)) := Lib.hid (by rw [HRT.out, if_neg (by simp)]; rfl)
    go_wp2
    go_roundg f
    case measure => omega
    case rel => exact ⟨v + 1, acc1, by omega, by omega, by go_num, HOW, HBX, HRU, by omega, HAX1⟩
end Go.Proofs.Ytjbhglmmakkkgaa
