/- (Counter seat) Walk: sat.Propagate. No condition but the sizes. -/
import Derived.Test.YthanfjpmcckbhaaGreatDoorYs0
import Derived.Test.YthanfjpmcckbhaaGreatDoorKu
import Derived.Test.YthanfjpmcckbhaaGreatDoorYe
import Derived.Test.YthanfjpmcckbhaaGreatDoorYi
namespace Go.Proofs.YthanfjpmcckbhaaGreatDoor
open Go.ChangeShapes Go.WideShapes Go.ChangeAt Go.RowKit
set_option linter.unusedVariables false
def okM (V : Nat) (cs : List (List Int)) (ds : List Int) : Bool := (startM V ds).2 && (propM cs (startM V ds).1).1
def marksM (V : Nat) (cs : List (List Int)) (ds : List Int) : List Bool := (propM cs (startM V ds).1).2
theorem outB_false {V : Nat} {cs : List (List Int)} (h : (cs.any fun c => c.any (outB V)) = false) : ∀ c ∈ cs, ∀ l ∈ c, LitOk V l := by
  intro c hc l hl
  have h1 := List.any_eq_false.1 h c hc
  have h2 : c.any (outB V) = false := by simpa using h1
  have h3 := List.any_eq_false.1 h2 l hl
  unfold outB varM at h3
  simp at h3
  obtain ⟨h4, h5⟩ := h3
  unfold LitOk
  split at h5 <;> omega
theorem check_okS {vars keep : Int} {cs : List (List Int)} (h : checkM vars keep cs = 0) : ∃ V : Nat, vars = V ∧ V ≤ 20000 ∧ 0 ≤ keep ∧ keep ≤ V ∧ cs.length ≤ 60000 ∧ LitsOk V cs ∧ canGo none cs = true := by
  unfold checkM at h
  by_cases h1 : vars < 0 ∨ keep < 0 ∨ vars < keep
  · rw [if_pos h1] at h; cases h
  rw [if_neg h1] at h
  by_cases h2 : 20000 < vars ∨ 60000 < cs.length
  · rw [if_pos h2] at h; cases h
  rw [if_neg h2] at h
  obtain ⟨V, rfl⟩ := Int.eq_ofNat_of_zero_le (show 0 ≤ vars by omega)
  rcases h3 : cs.any fun c => c.any (outB (V : Int).toNat) with _ | _
  case true => rw [h3, if_pos rfl] at h; cases h
  rw [h3, if_neg (by simp)] at h
  rcases h4 : canGo none cs with _ | _
  case false => rw [h4, if_pos rfl] at h; cases h
  exact ⟨V, rfl, by omega, by omega, by omega, by omega, outB_false (by simpa using h3), rfl⟩

theorem clss_ltS {F : Nat → Prop} {w : World} {v : Value} {cs : List (List Int)} (h : Clss F w v cs) : Clss (fun b => b < w.heap.size) w v cs := by
  obtain ⟨us, h1, h2, h3⟩ := h
  exact ⟨us, h1.lt.mono fun b hb => hb.2, h2, fun j u x hu hx => ((h3 j u x hu hx).lt).mono fun b hb => hb.2⟩
/-- not a literal of V variables -/
def badB (V : Nat) (l : Int) : Bool := decide (l = 0) || decide (l < -(V : Int)) || decide ((V : Int) < l)
/-- the set literals from the variable v on -/
def outGo2 (m : List Bool) : Nat → Nat → List Int
  | 0, _ => []
  | f + 1, v => (if m.getD (v * 2) false = true then [-(v : Int)] else []) ++ ((if m.getD (v * 2 + 1) false = true then [(v : Int)] else []) ++ outGo2 m f (v + 1))
def propagateM (vars keep : Int) (cs : List (List Int)) (lits : List Int) : List Int × Bool × Int :=
  if checkM vars keep cs ≠ 0 then ([], false, 1) else if lits.any (badB vars.toNat) = true then ([], false, 3)
  else if okM vars.toNat cs lits = false then ([], true, 0) else (outGo2 (marksM vars.toNat cs lits) vars.toNat 1, false, 0)
def PropsPost (W : World) (r : List Int × Bool × Int) (e : Ending) (w' : World) : Prop :=
  ∃ mv, e = .returned (.tuple #[mv, .bool r.2.1, .int .i64 r.2.2]) ∧ Ints (fun _ => True) w' mv r.1 ∧ Below W.heap.size W w'
/-- a slice of ints that the call owns -/
def OwnI (w : World) (base : Nat) (v : Value) (xs : List Int) : Prop := w.ownsRow base 3 1 v xs.length (xs.map (.int .i64))
theorem OwnI.nil (w : World) (base : Nat) : OwnI w base (.slice none 0 0) [] := World.ownsRow_nil _ _ _ _
theorem OwnI.snoc {w : World} {base g cap n : Nat} {xs : List Int} {x : Int} (hn : n = xs.length) (h : w.ownsRow base 3 1 (.slice (some ⟨g, 0, none⟩) (n + 1) cap) (n + 1) (xs.map (.int .i64) ++ [.int .i64 x])) : OwnI w base (.slice (some ⟨g, 0, none⟩) (n + 1) cap) (xs ++ [x]) := by
  subst hn
  unfold OwnI
  rw [List.length_append, List.map_append]
  exact h
theorem OwnI.ints {w : World} {base : Nat} {v : Value} {xs : List Int} (h : OwnI w base v xs) (hn : xs.length ≤ 9223372036854775807) (hx : ∀ x ∈ xs, I64 x) : Ints (fun b => base ≤ b) w v xs := ⟨(ownsRow_sl1 h hn).mono fun b hb => hb.1, hx⟩

set_option maxRecDepth 100000 in
set_option maxHeartbeats 8000000 in
theorem Propagate_any {F G : Nat → Prop} (vars keep : Int) (cv lv : Value) (cs : List (List Int)) (lits : List Int) (w : World) (hc : Clss F w cv cs) (hl : Ints G w lv lits) (hv : I64 vars) (hk : I64 keep) :
    Calls Tryz.prog 37 #[.agg #[.int .i64 vars, .int .i64 keep, cv], lv] w (PropsPost w (propagateM vars keep cs lits)) := by
  obtain ⟨a, n, c, rfl, HN, hn⟩ := hc.form'
  obtain ⟨la, ln, lc, rfl, HLN, hln⟩ := hl.form'
  have hb : Below w.heap.size w (w.alloc (.cells #[.int .i64 vars, .int .i64 keep, .slice a n c] 24)) := (Below.refl _ _).alloc (Nat.le_refl _) _
  have HB := Lib.hid hb
  have HX := Lib.hid (hc.below hb)
  have HL := Lib.hid (hl.below hb)
  have hck := check_any F vars keep (.slice a n c) cs _ (hc.below hb) hv hk
  obtain ⟨R, hR⟩ : ∃ R, propagateM vars keep cs lits = R := ⟨_, rfl⟩
  have HR := Lib.hid hR
  rw [hR]
  obtain ⟨C, hC⟩ : ∃ C, checkM vars keep cs = C := ⟨_, rfl⟩
  have HC := Lib.hid hC
  rw [hC] at hck
  have HCK := Lib.hid hck
  clear hck hR hC hb hc hl
  go_enter Tryz.func37, Tryz.ntmps37
  go_wp2_with fail
  refine HCK.out.mono ?_
  rintro e w1 ⟨rfl, hb1⟩
  have HB1 : Hid (Below w.heap.size w w1) := Lib.hid (HB.out.trans (hb1.mono (by simp)))
  have c0 := below_c hb1 (show w.heap.size < _ by simp) (o := 0) (v := .int .i64 vars) (by simp)
  have c2 := below_c hb1 (show w.heap.size < _ by simp) (o := 2) (v := .slice a n c) (by simp)
  have HX1 := Lib.hid (HX.out.below hb1)
  have HL1 := Lib.hid (HL.out.below hb1)
  have hs1 := block_lt c0
  clear hb1 HX HL HCK HB
  by_cases h0 : C = 0
  case neg =>
    have HF : Hid (R = ([], false, 1)) := Lib.hid (by rw [← HR.out, propagateM, HC.out, if_pos h0])
    have hd : (C != 0) = true := by simp [h0]
    clear h0
    go_wp2_with fail
    go_ret3
    exact ⟨_, by rw [HF.out]; rfl, by rw [HF.out]; exact Ints.nil _ _, HB1.out⟩
  obtain ⟨V, rfl, hV2, _, _, hcl, hlo, _⟩ := check_okS (HC.out.trans h0)
  have HR2 : Hid (R = if (lits.drop 0).any (badB V) = true then ([], false, 3) else if okM V cs lits = false then ([], true, 0) else (outGo2 (marksM V cs lits) V 1, false, 0)) := Lib.hid (by rw [← HR.out, propagateM, HC.out, if_neg (by omega)]; rfl)
  have hd : (C != 0) = false := by simp [h0]
  have HLO := Lib.hid hlo
  clear h0 hlo HC HR
  go_wp2
  go_loopg [18] ln (fun gg u18 wx => ∃ k : Nat, k + gg = ln ∧ u18 = .int .i64 k ∧ w1 = wx ∧ Hid (R = if (lits.drop k).any (badB V) = true then ([], false, 3) else if okM V cs lits = false then ([], true, 0) else (outGo2 (marksM V cs lits) V 1, false, 0)) ∧ Hid (∀ l ∈ lits.take k, LitOk V l))
  case atStart => exact ⟨0, by omega, rfl, rfl, HR2, Lib.hid (by simp)⟩
  case round =>
  clear HR2
  obtain ⟨k, hkg, rfl, rfl, HI, HT⟩ := hrel
  by_cases hk : k < ln
  case pos =>
    obtain ⟨x, hx, e⟩ := drop_at (xs := lits) (k := k) (by have := HLN.out; omega)
    have hll := HL1.out
    obtain ⟨xb, xo, rfl, _, hxb, hxc, hx64⟩ := hll.at hx
    obtain ⟨hx1, hx2⟩ := hx64
    have HE : Hid (R = if (badB V x || (lits.drop (k + 1)).any (badB V)) = true then ([], false, 3) else if okM V cs lits = false then ([], true, 0) else (outGo2 (marksM V cs lits) V 1, false, 0)) := Lib.hid (by rw [HI.out, e, List.any_cons])
    have HTK : Hid (LitOk V x → ∀ l ∈ lits.take (k + 1), LitOk V l) := Lib.hid (fun h l hl => by
      rw [List.take_succ_eq_append_getElem (by have := HLN.out; omega)] at hl
      rcases List.mem_append.1 hl with hl | hl
      · exact HT.out l hl
      · have h2 : lits[k]'(by have := HLN.out; omega) = x := by rw [List.getElem?_eq_getElem (by have := HLN.out; omega)] at hx; injection hx
        rw [h2] at hl
        simp at hl
        exact hl ▸ h)
    clear HI HT e hx hll
    by_cases h0 : x = 0
    · have HF : Hid (R = ([], false, 3)) := Lib.hid (by rw [HE.out, badB, decide_eq_true h0]; rfl)
      have hd : (x == 0) = true := by simp [h0]
      clear h0
      go_wp2_with fail
      try rw [Exit.noGoto_ret]
      go_ret3
      exact ⟨_, by rw [HF.out]; rfl, by rw [HF.out]; exact Ints.nil _ _, HB1.out⟩
    have hd : (x == 0) = false := by simp [h0]
    by_cases h1 : x < -(V : Int)
    · have HF : Hid (R = ([], false, 3)) := Lib.hid (by rw [HE.out, badB, decide_eq_true h1]; simp)
      have hd : decide (x < -(V : Int)) = true := by simp [h1]
      clear h0
      go_wp2_with fail
      try rw [Exit.noGoto_ret]
      go_ret3
      exact ⟨_, by rw [HF.out]; rfl, by rw [HF.out]; exact Ints.nil _ _, HB1.out⟩
    have hd1 : decide (x < -(V : Int)) = false := decide_eq_false h1
    by_cases h2 : (V : Int) < x
    · have HF : Hid (R = ([], false, 3)) := Lib.hid (by rw [HE.out, badB, decide_eq_true h2]; simp)
      have hd : decide ((V : Int) < x) = true := by simp [h2]
      clear h0 h1
      go_wp2_with fail
      try rw [Exit.noGoto_ret]
      go_ret3
      exact ⟨_, by rw [HF.out]; rfl, by rw [HF.out]; exact Ints.nil _ _, HB1.out⟩
    have hd2 : decide ((V : Int) < x) = false := decide_eq_false h2
    have HF : Hid (R = if (lits.drop (k + 1)).any (badB V) = true then ([], false, 3) else if okM V cs lits = false then ([], true, 0) else (outGo2 (marksM V cs lits) V 1, false, 0)) := Lib.hid (by
      rw [HE.out, show badB V x = false by unfold badB; rw [decide_eq_false h0, decide_eq_false h1, decide_eq_false h2]; rfl, Bool.false_or])
    have HT2 := Lib.hid (HTK.out (by unfold LitOk; omega))
    clear h0 h1 h2 HE HTK
    go_wp2_with fail
    go_roundg (gk - 1)
    case measure => omega
    case rel => exact ⟨k + 1, by omega, by go_num, rfl, HF, HT2⟩
  have HLT : Hid (∀ l ∈ lits, LitOk V l) := Lib.hid (by
    have := HT.out
    rwa [List.take_of_length_le (by have := HLN.out; omega)] at this)
  have HF : Hid (R = if okM V cs lits = false then ([], true, 0) else (outGo2 (marksM V cs lits) V 1, false, 0)) := Lib.hid (by rw [HI.out, List.drop_eq_nil_of_le (by have := HLN.out; omega), if_neg (by simp)])
  have hk2 : ln ≤ k := by omega
  obtain ⟨OK, hOK⟩ : ∃ x, okM V cs lits = x := ⟨_, rfl⟩
  obtain ⟨MM, hMM⟩ : ∃ x, marksM V cs lits = x := ⟨_, rfl⟩
  rw [hOK, hMM] at HF
  have HOK := Lib.hid hOK
  have HMM := Lib.hid hMM
  have hst := start_any G V (.slice la ln lc) lits w1 HL1.out (by omega) HLT.out
  obtain ⟨S, hS⟩ : ∃ S, startM V lits = S := ⟨_, rfl⟩
  rw [hS] at hst
  have HS := Lib.hid hS
  have HST := Lib.hid hst
  clear HI HT hk hOK hMM hst hS
  go_wp2_with fail
  refine HST.out.mono ?_
  rintro e w2 ⟨g, rfl, hm, hb2⟩
  have HM1 := Lib.hid hm
  have HB2 := Lib.hid hb2
  have hg := hm.lt
  have d0 := below_c hb2 hs1 c0
  have d2 := below_c hb2 hs1 c2
  have hs2 := hb2.size
  have C0 := Lib.hid c0
  clear hm hb2 HST c0 c2
  obtain ⟨m0, ok⟩ := S
  simp only
  go_upto_region 10 with fail
  go_cut [53] (fun u53 wx => u53 = .bool (!OK) ∧ Hid (Below w1.heap.size w1 wx) ∧ Hid (OK = true → Marks wx w1.heap.size g V MM))
  case first =>
    rcases bool2 ok with rfl | rfl
    · have hpr := propagate_any (F := fun b => b < w1.heap.size) (base := w1.heap.size) (g := g) (V := V) ((clss_ltS HX1.out).below HB2.out) HM1.out (fun k hk => by omega) (by omega) HLO.out
      have HO : Hid (OK = (propM cs m0).1) := Lib.hid (by rw [← HOK.out, okM, HS.out]; rfl)
      have HO2 : Hid (MM = (propM cs m0).2) := Lib.hid (by rw [← HMM.out, marksM, HS.out])
      have HPR := Lib.hid hpr
      clear hpr
      go_wp2_with fail
      refine HPR.out.mono ?_
      rintro e w3 ⟨rfl, hm3, hb3⟩
      have HM3 := Lib.hid hm3
      have HB3 := Lib.hid hb3
      clear hm3 hb3
      go_wp2
      go_meet
      exact ⟨by rw [HO.out], Lib.hid (HB2.out.trans (HB3.out.mono hg.1)), Lib.hid (fun _ => by rw [HO2.out]; exact HM3.out)⟩
    · have HO : Hid (OK = false) := Lib.hid (by rw [← HOK.out, okM, HS.out]; rfl)
      go_wp2
      go_meet
      exact ⟨by rw [HO.out]; rfl, HB2, Lib.hid (fun h => by rw [HO.out] at h; cases h)⟩
  case rest =>
  obtain ⟨rfl, HB3, HMK⟩ := hcut
  have e0 := below_c HB3.out hs1 C0.out
  have hs3 := HB3.out.size
  have HB4 : Hid (Below w.heap.size w wc) := Lib.hid (HB1.out.trans (HB3.out.mono HB1.out.size))
  clear d0 d2 HM1 HB2 HS
  rcases bool2 OK with rfl | rfl
  case inr =>
    have HFF : Hid (R = ([], true, 0)) := Lib.hid (by rw [HF.out, if_pos rfl])
    go_wp2_with fail
    go_ret3
    exact ⟨_, by rw [HFF.out]; rfl, by rw [HFF.out]; exact Ints.nil _ _, HB4.out⟩
  have hmk := HMK.out rfl
  have hgw := hmk.lt.2
  have HMB : Hid (∀ i, i < (V + 1) * 2 → wc.cell? ⟨g, i, none⟩ = some (.bool (MM.getD i false))) := Lib.hid hmk.cell
  have HF2 : Hid (R = ([] ++ outGo2 MM V 1, false, 0)) := Lib.hid (by rw [HF.out, if_neg (by simp)]; rfl)
  have hinfo : (Tryz.prog.info? 3).map (fun i => (i.zero, i.size, i.bytes)) = some (some (.int .i64 0), 1, 8) := by kernel_rfl
  have HI := Lib.hid hinfo
  have hown0 : Hid (OwnI wc wc.heap.size (.slice none 0 0) []) := Lib.hid (OwnI.nil _ _)
  have hsw : w.heap.size < wc.heap.size := by omega
  obtain ⟨w4, rfl⟩ : ∃ x, x = wc := ⟨_, rfl⟩
  clear hmk HMK HF hinfo
  go_wp2
  go_loopg [11, 12] V (fun gg u11 u12 wx => ∃ (v : Nat) (acc : List Int), 1 ≤ v ∧ v + gg = V + 1 ∧ u12 = .int .i64 v ∧ Hid (OwnI wx w4.heap.size u11 acc) ∧ Hid (Below w4.heap.size w4 wx) ∧ Hid (R = (acc ++ outGo2 MM gg v, false, 0)) ∧ acc.length + 2 ≤ 2 * v ∧ Hid (∀ x ∈ acc, I64 x))
  case atStart => exact ⟨1, [], by omega, by omega, rfl, hown0, Lib.hid (Below.refl _ _), HF2, by simp, Lib.hid (by simp)⟩
  case round =>
  clear hown0 HF2
  obtain ⟨v, acc, hv1, hvg, rfl, HOW, HBX, HRX, hal, HAX⟩ := hrel
  obtain ⟨GK, hGK⟩ : ∃ G, G = gk := ⟨_, rfl⟩
  subst hGK
  have f0 := below_c HBX.out hsw e0
  have hsx := HBX.out.size
  have hh : GK = GK := rfl
  by_cases hv : v ≤ V
  case neg =>
    have HFF : Hid (R = (acc, false, 0)) := Lib.hid (by rw [HRX.out, show GK = 0 by omega, outGo2, List.append_nil])
    have hv3 : V < v := by omega
    clear hv HRX
    go_wp2_with fail
    go_ret3
    exact ⟨_, by rw [HFF.out]; rfl, by rw [HFF.out]; exact (HOW.out.ints (by omega) HAX.out).mono fun _ _ => trivial, HB4.out.trans (HBX.out.mono (by omega))⟩
  obtain ⟨f, rfl⟩ : ∃ f, GK = f + 1 := ⟨GK - 1, by omega⟩
  have hx := below_c HBX.out hgw (HMB.out (v * 2) (by omega))
  have hy := below_c HBX.out hgw (HMB.out (v * 2 + 1) (by omega))
  obtain ⟨bx, hbx⟩ : ∃ x, MM.getD (v * 2) false = x := ⟨_, rfl⟩
  obtain ⟨bq, hby⟩ : ∃ x, MM.getD (v * 2 + 1) false = x := ⟨_, rfl⟩
  have HRS : Hid (R = (acc ++ ((if bx = true then [-(v : Int)] else []) ++ ((if bq = true then [(v : Int)] else []) ++ outGo2 MM f (v + 1))), false, 0)) := Lib.hid (by rw [HRX.out, outGo2, hbx, hby])
  rw [hbx] at hx
  rw [hby] at hy
  have HY : Hid (w4.cell? ⟨g, v * 2 + 1, none⟩ = some (.bool bq)) := Lib.hid (by rw [← hby]; exact HMB.out (v * 2 + 1) (by omega))
  obtain ⟨ua, uc, rfl⟩ : ∃ a c, u11 = .slice a acc.length c := own_form HOW.out
  clear hbx hby HRX hh
  go_upto_if 64 with fail
  go_cut [11] (fun u11 wx => ∃ acc1, Hid (acc1 = acc ++ (if bx = true then [-(v : Int)] else [])) ∧ Hid (OwnI wx w4.heap.size u11 acc1) ∧ Hid (Below w4.heap.size w4 wx) ∧ acc1.length ≤ acc.length + 1 ∧ Hid (∀ x ∈ acc1, I64 x) ∧ wx.cell? ⟨g, v * 2 + 1, none⟩ = some (.bool bq))
  case first =>
    rcases bool2 bx with rfl | rfl
    · have hown := HOW.out
      unfold OwnI at hown
      go_wp2_with (at_builtin; go_loud (refine wpList_push1 rfl _ _ 32 rfl 3 (.int .i64 0) 8 Tryz.underlying32 HI.out rfl w4.heap.size (.slice ua acc.length uc) acc.length _ wr (.int .i64 (-(v : Int))) rfl rfl hown rfl (by omega) (by omega) (by omega) ?_); intro g5 cap5 w5 hown5 hg5 hs5 hgb hgl hat; have HB5 := Lib.hid (HBX.out.grown hg5 (by omega) (fun k hk => (hown.lt k hk).1)); have HO5 := Lib.hid (OwnI.snoc rfl hown5); clear hown5 hg5 hown)
      go_meet
      refine ⟨acc ++ [-(v : Int)], Lib.hid (by simp), HO5, HB5, by simp, Lib.hid (fun x hx => ?_), below_c HB5.out hgw HY.out⟩
      rcases List.mem_append.1 hx with hx | hx
      · exact HAX.out x hx
      · simp at hx; subst hx; unfold I64; omega
    · go_wp2
      go_meet
      exact ⟨acc, Lib.hid (by simp), HOW, HBX, by omega, HAX, hy⟩
  case rest =>
  clear HOW HBX hx hy hsx f0
  obtain ⟨acc1, HA1, HOW, HBX, hal1, HAX1, hy⟩ := hcut
  have hsx := HBX.out.size
  have f0 := below_c HBX.out hsw e0
  obtain ⟨ub, ud, rfl⟩ : ∃ a c, u11 = .slice a acc1.length c := own_form HOW.out
  have HRT : Hid (R = (acc1 ++ ((if bq = true then [(v : Int)] else []) ++ outGo2 MM f (v + 1)), false, 0)) := Lib.hid (by rw [HRS.out, HA1.out, List.append_assoc])
  clear HRS HA1 HAX
  rcases bool2 bq with rfl | rfl
  · have HRU : Hid (R = ((acc1 ++ [(v : Int)]) ++ outGo2 MM f (v + 1), false, 0)) := Lib.hid (by rw [HRT.out, if_pos rfl, List.append_assoc])
    have hown := HOW.out
    unfold OwnI at hown
    go_wp2_with (at_builtin; go_loud (refine wpList_push1 rfl _ _ 32 rfl 3 (.int .i64 0) 8 Tryz.underlying32 HI.out rfl w4.heap.size (.slice ub acc1.length ud) acc1.length _ wc (.int .i64 (v : Int)) rfl rfl hown rfl (by omega) (by omega) (by omega) ?_); intro g5 cap5 w5 hown5 hg5 hs5 hgb hgl hat; have HB5 := Lib.hid (HBX.out.grown hg5 (by omega) (fun k hk => (hown.lt k hk).1)); have HO5 := Lib.hid (OwnI.snoc rfl hown5); clear hown5 hg5 hown)
    go_roundg f
    case measure => omega
    case rel =>
      refine ⟨v + 1, acc1 ++ [(v : Int)], by omega, by omega, by go_num, HO5, HB5, HRU, by simp; omega, Lib.hid (fun x hx => ?_)⟩
      rcases List.mem_append.1 hx with hx | hx
      · exact HAX1.out x hx
      · simp at hx; subst hx; unfold I64; omega
  · have HRU : Hid (R = (acc1 ++ outGo2 MM f (v + 1), false, 0)) := Lib.hid (by rw [HRT.out, if_neg (by simp)]; rfl)
    go_wp2
    go_roundg f
    case measure => omega
    case rel => exact ⟨v + 1, acc1, by omega, by omega, by go_num, HOW, HBX, HRU, by omega, HAX1⟩

/- (Counter seat) Plain: what CountWith computes: propagation's conflicts, the literals that are left to visit. No program in sight. -/
open Go.RowKit
set_option linter.unusedVariables false

theorem cn_of_check {vars keep : Int} {cs : List (List Int)} (h : checkM vars keep cs = 0) : Cn' cs := by
  obtain ⟨V, rfl, hV, _, _, _, hl, hcan⟩ := check_okS h
  exact ⟨(canGo_canM cs).1 hcan, fun c hc x hx => by
    obtain ⟨h1, h2, h3⟩ := hl c hc x hx
    exact ⟨h1, by omega, by omega⟩⟩
theorem occ_of_check {vars keep : Int} {cs : List (List Int)} (h : checkM vars keep cs = 0) : ∀ v ∈ occM cs, 1 ≤ v ∧ v ≤ vars := fun v hv => by
  obtain ⟨V, rfl, hV, _, _, _, hl, _⟩ := check_okS h
  obtain ⟨c, hc, x, hx, e⟩ := (cn_of_check h).mem.1 hv
  obtain ⟨h1, h2, h3⟩ := hl c hc x hx
  unfold varM at e
  split at e <;> omega
theorem occ_len {cs : List (List Int)} {V : Nat} (h : ∀ v ∈ occM cs, 1 ≤ v ∧ v ≤ (V : Int)) : (occM cs).length ≤ V := by
  have h1 := nodup_len_le (occM_nodup cs) (m := ivl 0 V) fun x hx => by
    have := h x hx
    exact (ivl_mem _ _ _).2 ⟨by omega, by omega⟩
  rwa [ivl_len] at h1
/-! ### a conflict by propagation -/
def bitsOf (f : Asg) (V : Nat) : List Bool := (List.range V).map fun i : Nat => f ((i : Int) + 1)
theorem bits_lit {f : Asg} {V : Nat} {l : Int} (h : LitOk V l) : litT (bitsOf f V) l = litR f l := by
  obtain ⟨h0, h1, h2⟩ := h
  have hb : (bitsOf f V).getD (l.natAbs - 1) false = f (varM l) := by
    unfold bitsOf
    rw [List.getD_eq_getElem?_getD, List.getElem?_map, List.getElem?_range (by omega)]
    simp only [Option.map_some, Option.getD_some]
    congr 1
    unfold varM
    split <;> omega
  have e := lit_true (f := f) h0
  unfold litT
  rw [hb]
  rcases hq : litR f l with _ | _
  · rw [hq] at e
    rw [beq_eq_false_iff_ne]
    intro h
    exact absurd (e.2 h) (by simp)
  · rw [hq] at e
    simp only [beq_iff_eq]
    exact e.1 rfl
theorem conf_none {V : Nat} {cs : List (List Int)} {ls : List Int} (hcs : LitsOk V cs) (hl : ∀ l ∈ ls, LitOk V l) (h : okM V cs ls = false) (S : List Int) : cntN (fun f => Ev cs f ∧ LitsT ls f) S = 0 :=
  cnt_none (fun f hf => by
    have hc := (marks_spec hcs hl).1 h
    refine Conf.no (x := bitsOf f V) hc hcs hl ?_ fun l h => by rw [bits_lit (hl l h)]; exact hf.2 l h
    have he : evR f cs = true := hf.1
    unfold evR at he
    unfold modelB
    rw [List.all_eq_true] at he ⊢
    intro c hc
    have h1 := he c hc
    rw [List.any_eq_true] at h1 ⊢
    obtain ⟨x, hx, h2⟩ := h1
    exact ⟨x, hx, by rw [bits_lit (hcs c hc x hx)]; exact h2⟩) S
/-! ### the literals that are left to visit -/
def cntL (ls : List Int) (N : Nat) (left : Int → Bool) : Nat := ((ivl 0 N).filter fun v => fixB ls v && !(left v || left (-v))).length
theorem cntL_start {ls : List Int} {N : Nat} {left : Int → Bool} (hN : N ≤ 1000000) (h : ∀ x, -1000000 ≤ x → x ≤ 1000000 → left x = decide (x ∈ ls)) : cntL ls N left = 0 := by
  unfold cntL
  rw [List.length_eq_zero_iff, List.filter_eq_nil_iff]
  intro v hv
  have hv := (ivl_mem _ _ _).1 hv
  rw [h v (by omega) (by omega), h (-v) (by omega) (by omega)]
  simp only [Bool.and_eq_true, Bool.not_eq_true', not_and, Bool.not_eq_false]
  intro hf
  obtain ⟨x, hx, e⟩ := fixB_iff.1 hf
  have : x = v ∨ x = -v := by unfold varM at e; split at e <;> omega
  rcases this with rfl | rfl
  · simp [hx]
  · simp [hx]
theorem cntL_end {ls : List Int} {N : Nat} {left : Int → Bool} (h : ∀ x, left x = false) : cntL ls N left = ((ivl 0 N).filter (fixB ls)).length := by
  unfold cntL
  congr 1
  refine List.filter_congr fun v _ => ?_
  rw [h, h]
  simp
theorem filter_or_len {p : Int → Bool} {a : Int} (ha : p a = false) : ∀ {S : List Int}, S.Nodup → (S.filter fun v => p v || v == a).length = (S.filter p).length + if a ∈ S then 1 else 0
  | [], _ => rfl
  | x :: r, h => by
    obtain ⟨h1, h2⟩ := List.nodup_cons.1 h
    have ih := filter_or_len (p := p) ha h2
    rw [List.filter_cons, List.filter_cons]
    by_cases e : x = a
    · subst e
      rw [if_pos (by simp), if_neg (by rw [ha]; simp), if_pos (List.mem_cons_self ..)]
      rw [if_neg h1] at ih
      rw [List.length_cons, ih]
    · have e2 : (x == a) = false := by simpa using e
      rw [e2, Bool.or_false]
      have e3 : (a ∈ x :: r) ↔ a ∈ r := by
        rw [List.mem_cons]
        exact ⟨fun h => h.resolve_left fun q => e q.symm, .inr⟩
      simp only [e3]
      split
      · rw [List.length_cons, List.length_cons, ih]; omega
      · exact ih
theorem cntL_step {ls : List Int} {N : Nat} {left : Int → Bool} {x : Int} (hc : Consist ls) (hx : x ∈ ls) (hl : left x = true) (hsub : left (-x) = true → -x ∈ ls) : cntL ls N (fun z => left z && !(z == x)) = cntL ls N left + if varM x ≤ N then 1 else 0 := by
  have hx0 := hc.1 x hx
  have hnx : left (-x) = false := by
    rcases h : left (-x) with _ | _
    · rfl
    · exact absurd (hsub h) (hc.2 x hx)
  have hvp := varM_pos (x := x)
  have hv1 : 1 ≤ varM x := by unfold varM at hvp ⊢; split <;> omega
  have hpa : (fixB ls (varM x) && !(left (varM x) || left (-(varM x)))) = false := by
    have : varM x = x ∨ -(varM x) = x := by unfold varM; split <;> omega
    rcases this with h | h
    · rw [h, hl]; simp
    · rw [h, hl]; simp
  have h1 := filter_or_len (p := fun v => fixB ls v && !(left v || left (-v))) hpa (ivl_nodup N 0)
  have e : (varM x ∈ ivl 0 N) ↔ varM x ≤ N := by rw [ivl_mem]; omega
  simp only [e] at h1
  unfold cntL
  rw [← h1]
  congr 1
  refine List.filter_congr fun v hv => ?_
  have hv := (ivl_mem _ _ _).1 hv
  by_cases ev : v = varM x
  · subst ev
    have hfx : fixB ls (varM x) = true := fixB_iff.2 ⟨x, hx, rfl⟩
    have : (varM x = x ∧ varM x ≠ -x) ∨ (varM x = -x ∧ varM x ≠ x) := by unfold varM; split <;> omega
    rcases this with ⟨h, h'⟩ | ⟨h, h'⟩
    · rw [h] at hfx ⊢
      have : (-x == x) = false := by simp; omega
      simp [hfx, hl, hnx]
    · have h5 : -(varM x) = x := by omega
      rw [h5]
      rw [h] at hfx ⊢
      have : (-x == x) = false := by simp; omega
      simp [hfx, hl, hnx]
  · have e1 : (v == varM x) = false := by simpa using ev
    have e2 : (v == x) = false := by
      simp
      intro h
      apply ev
      rw [h]
      unfold varM
      split <;> omega
    have e3 : (-v == x) = false := by
      simp
      intro h
      apply ev
      rw [← h]
      unfold varM
      split <;> omega
    simp only [e1, e2, e3, Bool.not_false, Bool.and_true, Bool.or_false]
/-! ### the number -/
theorem cnt_top : ∀ (S : List Int) (C : Asg → Prop), cntN C S ≤ 2 ^ S.length
  | [], C => by rw [cntN]; split <;> simp
  | v :: r, C => by
    rw [cntN, List.length_cons, Nat.pow_succ]
    have h1 := cnt_top r fun f => C f ∧ f v = true
    have h2 := cnt_top r fun f => C f ∧ f v = false
    exact Nat.le_trans (Nat.add_le_add h1 h2) (by omega)
/-- the number of CountWith -/
noncomputable def cwN (keep : Int) (cs : List (List Int)) (ls : List Int) : Int := ((cntN (fun f => Ev cs f ∧ LitsT ls f) (ivl 0 keep.toNat) : Nat) : Int)
theorem cwN_le {keep : Int} {cs : List (List Int)} {ls : List Int} (h : keep ≤ 40) : 0 ≤ cwN keep cs ls ∧ cwN keep cs ls ≤ 1099511627776 := by
  unfold cwN
  have h1 := cnt_top (ivl 0 keep.toNat) (fun f => Ev cs f ∧ LitsT ls f)
  rw [ivl_len] at h1
  have h2 : 2 ^ keep.toNat ≤ 2 ^ 40 := Nat.pow_le_pow_right (by omega) (by omega)
  have h3 : 2 ^ 40 = 1099511627776 := by decide
  generalize cntN (fun f => Ev cs f ∧ LitsT ls f) (ivl 0 keep.toNat) = x at *
  omega
theorem open_pos {cs : List (List Int)} {ls : List Int} (h : Cn' cs) (hs : SmL ls) (N : Nat) : (keptM N (occM (resL cs ls))).length + ((ivl 0 N).filter (fixB ls)).length ≤ N := by
  obtain ⟨h1, h2, h3⟩ := resL_cn h hs
  have hn : (keptM N (occM (resL cs ls)) ++ (ivl 0 N).filter (fixB ls)).Nodup := by
    refine List.nodup_append.2 ⟨kept_nodup _ _, (ivl_nodup N 0).filter _, fun a ha b hb e => ?_⟩
    subst e
    obtain ⟨q1, _⟩ := kept_mem.1 ha
    obtain ⟨x, hx, e⟩ := fixB_iff.1 (List.mem_filter.1 hb).2
    exact (h2 a q1).2 x hx e.symm
  have h4 := nodup_len_le hn (m := ivl 0 N) fun x hx => by
    rcases List.mem_append.1 hx with hx | hx
    · obtain ⟨q1, q2⟩ := kept_mem.1 hx
      have := occM_range q1
      exact (ivl_mem _ _ _).2 ⟨by omega, by omega⟩
    · exact (List.mem_filter.1 hx).1
  rw [List.length_append, ivl_len] at h4
  exact h4
/-- the shift -/
theorem cw_shift {keep : Int} {cs : List (List Int)} {ls : List Int} (h : Cn' cs) (hs : SmL ls) (hc : Consist ls) (hk : 0 ≤ keep) {O : Int} (hO : O = keep - (keptM keep (occM (resL cs ls))).length - ((ivl 0 keep.toNat).filter (fixB ls)).length) :
    0 ≤ O ∧ (Pc keep (resL cs ls) : Int) * 2 ^ O.toNat = cwN keep cs ls := by
  obtain ⟨N, rfl⟩ := Int.eq_ofNat_of_zero_le hk
  have h1 := open_pos h hs N
  have h2 := with_count h hs hc N
  simp only [Int.toNat_natCast] at hO
  subst hO
  refine ⟨by omega, ?_⟩
  unfold cwN
  rw [Int.toNat_natCast]
  exact h2.symm
end Go.Proofs.YthanfjpmcckbhaaGreatDoor
