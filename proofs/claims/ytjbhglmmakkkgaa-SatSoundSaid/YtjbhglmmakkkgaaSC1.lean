/- Walks: sat.formed, sat.Refutes. -/
import Derived.Test.YtjbhglmmakkkgaaSf
import Derived.Test.YtjbhglmmakkkgaaSA1
namespace Go.Proofs.Ytjbhglmmakkkgaa
open Go.ChangeShapes Go.WideShapes Go.ChangeAt Go.RowKit
set_option linter.unusedVariables false

set_option maxHeartbeats 2000000 in
theorem formed_any (F : Nat → Prop) (V : Nat) (v : Value) (xs : List Int) (w : World) (hx : Ints F w v xs) (hV : V ≤ 1000000) :
    Calls Try.prog 43 #[.int .i64 (V : Int), v] w fun e w' => e = .returned (.bool (formedGo V 0 xs)) ∧ w' = w := by
  obtain ⟨a, n, c, rfl, HN, hn⟩ := hx.form'
  obtain ⟨R, hR⟩ : ∃ R, formedGo V 0 xs = R := ⟨_, rfl⟩
  have HR : Hid (R = formedGo V 0 (xs.drop 0)) := Lib.hid hR.symm
  rw [hR]
  have HX := Lib.hid hx
  clear hR hx
  go_enter Try.func43, Try.ntmps43
  go_wp2
  go_loopg [5, 12] n (fun gg u5 u12 wx => ∃ (k : Nat) (last : Int), k + gg = n ∧ u12 = .int .i64 k ∧ u5 = .int .i64 last ∧ w = wx ∧ Hid (R = formedGo V last (xs.drop k)))
  case atStart => exact ⟨0, 0, by omega, rfl, rfl, rfl, HR⟩
  case round =>
  clear HR
  obtain ⟨k, last, hkg, rfl, rfl, rfl, HI⟩ := hrel
  by_cases hk : k < n
  case neg =>
    have HF : Hid (R = true) := Lib.hid (by rw [HI.out, List.drop_eq_nil_of_le (by have := HN.out; omega)]; rfl)
    have hk2 : n ≤ k := by omega
    clear HI hk
    go_wp2
    go_ret
    exact ⟨by rw [HF.out]; rfl, rfl⟩
  obtain ⟨x, hx, e⟩ := drop_at (xs := xs) (k := k) (by have := HN.out; omega)
  have hxs := HX.out
  obtain ⟨xb, xo, rfl, _, hxb, hxc, _⟩ := hxs.at hx
  have HE : Hid (R = if x < -(V : Int) ∨ (V : Int) < x then false else if varM x ≤ last then false else formedGo V (varM x) (xs.drop (k + 1))) := Lib.hid (by rw [HI.out, e, formedGo])
  clear HI e hx hxs
  by_cases h1 : x < -(V : Int)
  · have HF : Hid (R = false) := Lib.hid (by rw [HE.out, if_pos (.inl h1)])
    have hd : decide (x < -(V : Int)) = true := decide_eq_true h1
    clear h1 HE
    go_wp2_with fail
    go_ret
    exact ⟨by rw [HF.out]; rfl, rfl⟩
  have hd1 : decide (x < -(V : Int)) = false := decide_eq_false h1
  by_cases h2 : (V : Int) < x
  · have HF : Hid (R = false) := Lib.hid (by rw [HE.out, if_pos (.inr h2)])
    have hd : decide ((V : Int) < x) = true := decide_eq_true h2
    clear h1 h2 HE
    go_wp2_with fail
    go_ret
    exact ⟨by rw [HF.out]; rfl, rfl⟩
  have hd2 : decide ((V : Int) < x) = false := decide_eq_false h2
  have HE2 : Hid (R = if varM x ≤ last then false else formedGo V (varM x) (xs.drop (k + 1))) := Lib.hid (by rw [HE.out, if_neg (by omega)])
  have hsd := fun w => side_any x w (by omega)
  obtain ⟨m, hm⟩ : ∃ m, varM x = m := ⟨_, rfl⟩
  rw [hm] at HE2
  obtain ⟨sd, hs⟩ : ∃ s : Int, (if x < 0 then 0 else 1) = s := ⟨_, rfl⟩
  simp only [hm, hs] at hsd
  have HSD := Lib.hid hsd
  clear hsd h1 h2 HE hm hs
  by_cases h3 : m ≤ last
  · have HF : Hid (R = false) := Lib.hid (by rw [HE2.out, if_pos h3])
    have hd : decide (m ≤ last) = true := decide_eq_true h3
    clear h3 HE2
    go_wp2_with fail
    refine (HSD.out _).mono ?_
    rintro e w1 ⟨rfl, rfl⟩
    go_wp2_with fail
    go_ret
    exact ⟨by rw [HF.out]; rfl, rfl⟩
  · have HF : Hid (R = formedGo V m (xs.drop (k + 1))) := Lib.hid (by rw [HE2.out, if_neg h3])
    have hd : decide (m ≤ last) = false := decide_eq_false h3
    clear h3 HE2
    go_wp2_with fail
    refine (HSD.out _).mono ?_
    rintro e w1 ⟨rfl, rfl⟩
    go_wp2_with fail
    go_roundg (gk - 1)
    case measure => omega
    case rel => exact ⟨k + 1, m, by omega, by go_num, rfl, rfl, HF⟩

theorem refGo_at {V : Nat} {cs ls : List (List Int)} {k : Nat} {l : List Int} (e : ls.drop k = l :: ls.drop (k + 1)) :
    refGo V cs (ls.drop k) = if clauseGo V none l = false then false else if okM V cs (negL l) = true then false else refGo V (cs ++ [l]) (ls.drop (k + 1)) := by
  rw [e, refGo]
def BoolCPost (W : World) (r : Bool × Int) (e : Ending) (w' : World) : Prop := e = .returned (.tuple #[.bool r.1, .int .i64 r.2]) ∧ Below W.heap.size W w'
/-- a slice of clauses at its last place -/
theorem last_of {ls : List (List Int)} {c : List Int} {k : Nat} (hk : ls.length = k + 1) (h : ls[k]? = some c) : lastE ls = c.isEmpty := by
  unfold lastE
  rw [List.getLast?_eq_getElem?, hk, Nat.add_sub_cancel, h]
  cases c <;> rfl

set_option maxRecDepth 100000 in
set_option maxHeartbeats 16000000 in
theorem Refutes_any {F G : Nat → Prop} (vars keep : Int) (cv lv : Value) (cs ls : List (List Int)) (w : World) (hc : Clss F w cv cs) (hl : Clss G w lv ls) (hv : I64 vars) (hk : I64 keep) (hnl : ls.length ≤ 1000000000) :
    Calls Try.prog 31 #[.agg #[.int .i64 vars, .int .i64 keep, cv], lv] w (BoolCPost w (refutesM vars keep cs ls)) := by
  obtain ⟨a, n, c, rfl, HN, hn⟩ := hc.form'
  obtain ⟨la, ln, lc, rfl, HLN, hln⟩ := hl.form'
  have hb : Below w.heap.size w (w.alloc (.cells #[.int .i64 vars, .int .i64 keep, .slice a n c] 24)) := (Below.refl _ _).alloc (Nat.le_refl _) _
  have HB := Lib.hid hb
  have HX := Lib.hid (hc.below hb)
  have HL := Lib.hid (hl.below hb)
  have hck := check_any F vars keep (.slice a n c) cs _ (hc.below hb) hv hk
  obtain ⟨R, hR⟩ : ∃ R, refutesM vars keep cs ls = R := ⟨_, rfl⟩
  have HR := Lib.hid hR
  rw [hR]
  obtain ⟨C, hC⟩ : ∃ C, checkM vars keep cs = C := ⟨_, rfl⟩
  have HC := Lib.hid hC
  rw [hC] at hck
  have HCK := Lib.hid hck
  have hln2 : ln ≤ 1000000000 := by rw [HLN.out]; exact hnl
  clear hck hR hC hb hc hl
  go_enter Try.func31, Try.ntmps31
  go_wp2_with fail
  refine HCK.out.mono ?_
  rintro e w1 ⟨rfl, hb1⟩
  have HB1 : Hid (Below w.heap.size w w1) := Lib.hid (HB.out.trans (hb1.mono (by simp)))
  have c0 := below_c hb1 (show w.heap.size < _ by simp) (o := 0) (v := .int .i64 vars) (by simp)
  have c2 := below_c hb1 (show w.heap.size < _ by simp) (o := 2) (v := .slice a n c) (by simp)
  have HX1 := Lib.hid (HX.out.below hb1)
  have HL1 := Lib.hid (HL.out.below hb1)
  have hs1 := block_lt c0
  clear hb1 HX HL HCK HB
  by_cases h0 : C = 0
  case neg =>
    have HF : Hid (R = (false, 1)) := Lib.hid (by rw [← HR.out, refutesM, HC.out, if_pos h0])
    have hd : (C != 0) = true := by simp [h0]
    clear h0
    go_wp2_with fail
    go_ret2
    exact ⟨by rw [HF.out]; rfl, HB1.out⟩
  obtain ⟨V, rfl, hV2, _, _, hcl, hlo, _⟩ := check_ok (HC.out.trans h0)
  have HR2 : Hid (R = (refutesB V cs ls, 0)) := Lib.hid (by rw [← HR.out, refutesM, HC.out, if_neg (by omega)]; rfl)
  have hd : (C != 0) = false := by simp [h0]
  have HLO := Lib.hid hlo
  have hclo := clones_any (fun b => b < w1.heap.size) (.slice a n c) cs w1 HX1.out.lt (by omega)
  have HCLO := Lib.hid hclo
  have hcl3 : n ≤ 60000 := by rw [HN.out]; exact hcl
  have hinfo2 : (Try.prog.info? 25).map (fun i => (i.zero, i.size, i.bytes)) = some (some (.slice none 0 0), 1, 24) := by kernel_rfl
  have hinfo3 : (Try.prog.info? 64).map (fun i => (i.zero, i.size, i.bytes)) = some (some (.agg #[.bool false, .bool false]), 2, 2) := by kernel_rfl
  obtain ⟨i0, g1, g2, g3, g4⟩ := info_parts hinfo3
  have G1 := Lib.hid g1
  have G2 := Lib.hid g2
  have G3 := Lib.hid g3
  have G4 := Lib.hid g4
  have HI2 := Lib.hid hinfo2
  obtain ⟨TG, hTG⟩ : ∃ t, refGo V cs ls = t := ⟨_, rfl⟩
  have HR3 : Hid (R = (TG && lastE ls, 0)) := Lib.hid (by rw [HR2.out, refutesB, hTG])
  have HT0 : Hid (TG = refGo V cs (ls.drop 0)) := Lib.hid hTG.symm
  clear h0 hlo HC HR HR2 hclo hinfo2 hinfo3 g1 g2 g3 g4 hTG
  go_wp2_with fail
  refine HCLO.out.mono ?_
  rintro e w2 ⟨v2, rfl, hr2, hb2⟩
  have HRX0 : Hid (RowsX w2 w1.heap.size v2 cs) := Lib.hid (by
    obtain ⟨us, h1, h2, h3⟩ := hr2
    have hb := h1.lt
    exact ⟨us, h1, h2, fun j u c hu hc => (h3 j u c hu hc).mono fun b hb' e => by have := hb b e; omega⟩)
  have HB2 := Lib.hid hb2
  clear hr2 hb2 HCLO c2
  go_wp2
  go_loopg [6, 20] ln (fun gg u6 u20 wx => ∃ (k : Nat) (cur : List (List Int)), k + gg = ln ∧ u20 = .int .i64 k ∧ Hid (RowsX wx w1.heap.size u6 cur) ∧ Hid (Below w1.heap.size w1 wx) ∧ Hid (LitsOk V cur) ∧ cur.length ≤ n + k ∧ Hid (TG = refGo V cur (ls.drop k)))
  case atStart => exact ⟨0, cs, by omega, rfl, HRX0, HB2, HLO, by rw [HN.out]; omega, HT0⟩
  case round =>
  clear HRX0 HB2 HT0
  obtain ⟨k, cur, hkg, rfl, HRX, HBX, HLC, hcu, HTX⟩ := hrel
  have hsx := HBX.out.size
  have e0 := below_c HBX.out hs1 c0
  obtain ⟨GK, hGK⟩ : ∃ G, G = gk := ⟨_, rfl⟩
  subst hGK
  obtain ⟨ua, uc, rfl⟩ := HRX.out.form
  by_cases hk : k < ln
  case neg =>
    have HTT : Hid (TG = true) := Lib.hid (by rw [HTX.out, List.drop_eq_nil_of_le (by have := HLN.out; omega)]; simp [refGo])
    have hdk : decide (k < ln) = false := decide_eq_false hk
    have HBF : Hid (Below w.heap.size w wr) := Lib.hid (HB1.out.trans (HBX.out.mono HB1.out.size))
    by_cases hl0 : ln = 0
    · have HF : Hid (R = (false, 0)) := Lib.hid (by
        have : ls = [] := List.eq_nil_of_length_eq_zero (by have := HLN.out; omega)
        rw [HR3.out, this]
        simp [lastE])
      have hd0 : decide ((0 : Int) < ln) = false := by simp; omega
      have hd00 : decide (0 < ln) = false := by simp; omega
      clear hk HTX hl0
      go_wp2
      go_ret2
      exact ⟨by rw [HF.out]; rfl, HBF.out⟩
    obtain ⟨l1, hl1⟩ : ∃ l1, l1 + 1 = ln := ⟨ln - 1, by omega⟩
    obtain ⟨cl, hcl1, ecl⟩ := drop_at (xs := ls) (k := l1) (by have := HLN.out; omega)
    have hcw := HL1.out.below HBX.out
    obtain ⟨b, o, u, rfl, _, hb, hcc, hu⟩ := hcw.at hcl1
    obtain ⟨va, un, vc, rfl, HUN, hun⟩ := hu.form'
    have HF : Hid (R = (cl.isEmpty, 0)) := Lib.hid (by rw [HR3.out, HTT.out, last_of (by rw [← HLN.out]; exact hl1.symm) hcl1]; rfl)
    have hd0 : decide ((0 : Int) < ln) = true := by simp; omega
    have hd00 : decide (0 < ln) = true := by simp; omega
    have hw1 : IntKind.i64.wrap ((ln : Int) - 1) = (l1 : Int) := by rw [IntWalk.i64_in _ ⟨by omega, by omega⟩]; omega
    have hw0 : wrap64 ((ln : Int) - 1) = (l1 : Int) := by rw [IntWalk.wrap64_in _ ⟨by omega, by omega⟩]; omega
    have hw2 : ((ln : Int) - 1) = (l1 : Int) := by omega
    have hl3 : l1 < ln := by omega
    by_cases hu0 : un = 0
    · have HF2 : Hid (R = (true, 0)) := Lib.hid (by
        have h1 := HUN.out
        rw [hu0] at h1
        rw [HF.out, List.eq_nil_of_length_eq_zero h1.symm]; rfl)
      have hz : ((un : Int) == 0) = true := by simp [hu0]
      clear hk HTX hl0 hcl1 ecl hcw hu hu0 HF hl1
      go_wp2
      go_ret2
      exact ⟨by rw [HF2.out]; rfl, HBF.out⟩
    · have HF2 : Hid (R = (false, 0)) := Lib.hid (by
        have h1 := HUN.out
        rw [HF.out]
        cases cl with
        | nil => exact absurd h1 hu0
        | cons a r => rfl)
      have hz : ((un : Int) == 0) = false := by simp [hu0]
      clear hk HTX hl0 hcl1 ecl hcw hu hu0 HF hl1
      go_wp2
      go_ret2
      exact ⟨by rw [HF2.out]; rfl, HBF.out⟩
  obtain ⟨cl, hcl1, ecl⟩ := drop_at (xs := ls) (k := k) (by have := HLN.out; omega)
  have hcw := HL1.out
  obtain ⟨b, o, u, rfl, _, hb, hcc0, hu⟩ := hcw.at hcl1
  have hcc := below_c HBX.out hb hcc0
  obtain ⟨va, un, vc, rfl, HUN, hun⟩ := hu.form'
  have HUI := Lib.hid hu.lt
  have hfo := formed_any _ V (.slice va un vc) cl wr (hu.below HBX.out) (by omega)
  rw [formed_eq0] at hfo
  obtain ⟨FB, hFB⟩ : ∃ t, clauseGo V none cl = t := ⟨_, rfl⟩
  have HTY : Hid (TG = if FB = false then false else if okM V cur (negL cl) = true then false else refGo V (cur ++ [cl]) (ls.drop (k + 1))) := Lib.hid (by rw [HTX.out, refGo_at ecl, hFB])
  have HFM : Hid (FB = true → Fmd V cl) := Lib.hid (fun h => clause_fmd.1 (hFB.trans h))
  rw [hFB] at hfo
  have HFO := Lib.hid hfo
  clear hfo hFB hcl1 ecl hcw hu hcc0 HTX
  rcases bool2 FB with rfl | rfl
  case inr =>
    have HF : Hid (R = (false, 0)) := Lib.hid (by rw [HR3.out, HTY.out, if_pos rfl]; rfl)
    go_wp2_with fail
    refine HFO.out.mono ?_
    rintro e w3 ⟨rfl, rfl⟩
    go_wp2_with fail
    try rw [Exit.noGoto_ret]
    go_ret2
    exact ⟨by rw [HF.out]; rfl, HB1.out.trans (HBX.out.mono HB1.out.size)⟩
  have hfm := HFM.out rfl
  have HFMD := Lib.hid hfm
  obtain ⟨OK, hOK⟩ : ∃ x, okM V cur (negL cl) = x := ⟨_, rfl⟩
  have HTZ : Hid (TG = if OK = true then false else refGo V (cur ++ [cl]) (ls.drop (k + 1))) := Lib.hid (by rw [HTY.out, if_neg (by simp), hOK])
  obtain ⟨MS, hMS⟩ : ∃ m, (startM V (negL cl)).1 = m := ⟨_, rfl⟩
  have HOKP : Hid (OK = (propM cur MS).1) := Lib.hid (by rw [← hOK, okM, hfm.start, hMS]; rfl)
  have HMS0 : Hid (MS = ((cl.drop 0).map fun x => -x).foldl setM (List.replicate ((V + 1) * 2) false)) := Lib.hid (by rw [← hMS, startM, startGo_fst]; rfl)
  have HLT : Hid (∀ x ∈ cl, LitOk V x) := Lib.hid hfm.1
  clear hfm hOK hMS HTY HFM
  go_upto_region 9 with (go_at_call 43; refine HFO.out.mono ?_; rintro e w3 ⟨rfl, rfl⟩)
  go_upto_region 10 with (at_make; refine wpList_make_full _ rfl _ _ 60 rfl w3.heap.size 64 i0 (.agg #[.bool false, .bool false]) 2 (by kernel_rfl) G1.out G2.out G3.out .i64 .i64 _ _ (V + 1) rfl rfl (by simp) (by simp) (by rw [G4.out]; omega) (by unfold maxLen; omega) (by simp) ?_; intro w4 hown4 hg4; have HB4 := Lib.hid ((Below.refl _ _).grown hg4 (Nat.le_refl _) (by intro k hk; cases hk)); have HO4 := Lib.hid hown4; clear hown4 hg4)
  have hmk : Marks w4 w3.heap.size w3.heap.size V (List.replicate ((V + 1) * 2) false) := by
    have hown1 := HO4.out
    unfold Marks
    rw [made_pairs] at hown1
    exact hown1
  clear HO4
  go_wp2
  go_loopg [35] un (fun gg u35 wx => ∃ (j : Nat) (ms : List Bool), j + gg = un ∧ u35 = .int .i64 j ∧ Marks wx w3.heap.size w3.heap.size V ms ∧ Hid (Below w3.heap.size w3 wx) ∧ Hid (MS = ((cl.drop j).map fun x => -x).foldl setM ms))
  case atStart => exact ⟨0, _, by omega, rfl, hmk, HB4, HMS0⟩
  case round =>
  clear hmk HB4 HMS0
  obtain ⟨j, ms, hjg, rfl, hm, HBM, HMX⟩ := hrel
  by_cases hj : j < un
  case pos =>
    obtain ⟨x, hx, e⟩ := drop_at (xs := cl) (k := j) (by have := HUN.out; omega)
    have hll := (HUI.out.below HBX.out).below HBM.out
    obtain ⟨xb, xo, rfl, _, hxb, hxc, _⟩ := hll.at hx
    have HXL : Hid (LitOk V x) := Lib.hid (HLT.out x (List.mem_of_getElem? hx))
    have hx0 : -1000000 ≤ x ∧ x ≤ 1000000 := by obtain ⟨_, h2, h3⟩ := HXL.out; omega
    have HME : Hid (MS = ((cl.drop (j + 1)).map fun x => -x).foldl setM (setM ms (-x))) := Lib.hid (by rw [HMX.out, e]; rfl)
    clear HMX e hx hll
    go_wp2_with fail
    refine (mset_own hm (by omega) HXL.out.neg).mono ?_
    rintro e w5 ⟨rfl, rfl⟩
    have hm2 := hm.set (idx (-x)) true
    have HB5 := Lib.hid (HBM.out.setCell (p := ⟨w3.heap.size, idx (-x), none⟩) (Nat.le_refl _) (.bool true))
    obtain ⟨sb, hsb⟩ : ∃ b, setOk ms (-x) = b := ⟨_, rfl⟩
    rw [hsb]
    have HM2 := Lib.hid hm2
    clear hm2 hm hsb
    go_wp2_with fail
    go_roundg (gk - 1)
    case measure => omega
    case rel => exact ⟨j + 1, _, by omega, by go_num, HM2.out, HB5, HME⟩
  have hmm : MS = ms := by rw [HMX.out, List.drop_eq_nil_of_le (by have := HUN.out; omega)]; rfl
  subst hmm
  have hdj : decide (j < un) = false := decide_eq_false hj
  have hpr := propagate_any (F := fun b => b < w3.heap.size) (base := w3.heap.size) (g := w3.heap.size) (V := V) ((HRX.out.clss (by omega)).below HBM.out) hm (fun k hk => hk) (by omega) HLC.out
  obtain ⟨PM, hPM⟩ : ∃ q, propM cur MS = q := ⟨_, rfl⟩
  rw [hPM] at hpr HOKP
  have HPR := Lib.hid hpr
  clear hj HMX hpr hPM hm
  go_wp2_with fail
  refine HPR.out.mono ?_
  rintro e w6 ⟨rfl, _, hb6⟩
  have HB6 : Hid (Below w3.heap.size w3 w6) := Lib.hid (HBM.out.trans hb6)
  have HBY : Hid (Below w1.heap.size w1 w6) := Lib.hid (HBX.out.trans (HB6.out.mono hsx))
  clear hb6 HPR
  obtain ⟨p1, p2⟩ := PM
  obtain rfl : OK = p1 := HOKP.out
  simp only
  rcases bool2 OK with rfl | rfl
  · have HF : Hid (R = (false, 0)) := Lib.hid (by rw [HR3.out, HTZ.out, if_pos rfl]; rfl)
    go_wp2_with fail
    try rw [Exit.noGoto_ret]
    go_ret2
    exact ⟨by rw [HF.out]; rfl, HB1.out.trans (HBY.out.mono HB1.out.size)⟩
  have HTN : Hid (TG = refGo V (cur ++ [cl]) (ls.drop (k + 1))) := Lib.hid (by rw [HTZ.out, if_neg (by simp)])
  have HLN : Hid (LitsOk V (cur ++ [cl])) := Lib.hid (lits_snoc HLC.out HLT.out)
  obtain ⟨us, hown, hus, hrow⟩ := HRX.out.below HB6.out
  have HUS := Lib.hid hus
  have HROW := Lib.hid hrow
  have HUX : Hid (Ints (fun b => (Value.slice ua cur.length uc).ownBlock ≠ some b) w6 (.slice va un vc) cl) := Lib.hid ((HUI.out.below HBY.out).mono fun b hb e => by have := (hown.lt b e).1; omega)
  have hsz6 := HBY.out.size
  clear HTZ hus hrow
  go_wp2_with (at_builtin; go_loud (refine wpList_push1 rfl _ _ 22 rfl 25 (.slice none 0 0) 24 Try.underlying22 HI2.out rfl w1.heap.size (.slice ua cur.length uc) cur.length us _ (.slice va un vc) rfl rfl hown rfl (by omega) (by omega) (by omega) ?_); intro g7 cap7 w7 hown7 hg7 hs7 hgb hgl hat; have HX7 := Lib.hid (RowsX.push HUS.out HROW.out HUX.out hown7 hg7 hat); have HB7 := Lib.hid (HBY.out.grown hg7 (by omega) (fun k hk => (hown.lt k hk).1)); clear hown7 hg7 hat hown)
  go_roundg (GK - 1)
  case measure => omega
  case rel => exact ⟨k + 1, cur ++ [cl], by omega, by go_num, HX7, HB7, HLN, by simp; omega, HTN⟩
end Go.Proofs.Ytjbhglmmakkkgaa
