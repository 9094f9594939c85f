/- Walk: the statement's refutes. -/
import Derived.Test.YtjbhglmmakkkgaaSC1
import Derived.Test.YtjbhglmmakkkgaaSB1
namespace Go.Proofs.Ytjbhglmmakkkgaa
open Go.ChangeShapes Go.WideShapes Go.ChangeAt Go.RowKit
set_option linter.unusedVariables false

theorem res_ok {V : Nat} {cs : List (List Int)} {lits : List Int} {q : List Int × Bool} (hcs : LitsOk V cs) (h : ∀ l ∈ lits, LitOk V l) (hq : PropRes V cs lits q) : q.2 = !okM V cs lits := by
  have h1 := hq.conf
  rw [← ok_conf hcs h] at h1
  cases hh : q.2 <;> cases ho : okM V cs lits <;> simp [hh, ho] at h1 ⊢

set_option maxRecDepth 100000 in
set_option maxHeartbeats 16000000 in
theorem refutes_any {F G : Nat → Prop} (V : Nat) (keep : Int) (cv lv : Value) (cs ls : List (List Int)) (w : World) (hc : Clss F w cv cs) (hl : Clss G w lv ls) (hlo : LitsOk V cs) (hV : V ≤ 24) (hnc : cs.length ≤ 60000) (hnl : ls.length ≤ 1000000000) :
    Calls Try.prog 32 #[.agg #[.int .i64 (V : Int), .int .i64 keep, cv], lv] w (BoolPost w (refutesB V cs ls)) := by
  obtain ⟨a, n, c, rfl, HN, hn⟩ := hc.form'
  obtain ⟨la, ln, lc, rfl, HLN, hln⟩ := hl.form'
  have hb : Below w.heap.size w (w.alloc (.cells #[.int .i64 (V : Int), .int .i64 keep, .slice a n c] 24)) := (Below.refl _ _).alloc (Nat.le_refl _) _
  have HB := Lib.hid hb
  have HX := Lib.hid (hc.below hb)
  have HL := Lib.hid (hl.below hb)
  have hln2 : ln ≤ 1000000000 := by rw [HLN.out]; exact hnl
  have hn2 : n ≤ 60000 := by rw [HN.out]; exact hnc
  have HLO := Lib.hid hlo
  have hinfo : (Try.prog.info? 3).map (fun i => (i.zero, i.size, i.bytes)) = some (some (.int .i64 0), 1, 8) := by kernel_rfl
  have hinfo2 : (Try.prog.info? 25).map (fun i => (i.zero, i.size, i.bytes)) = some (some (.slice none 0 0), 1, 24) := by kernel_rfl
  have HI := Lib.hid hinfo
  have HI2 := Lib.hid hinfo2
  obtain ⟨R, hR⟩ : ∃ R, refutesB V cs ls = R := ⟨_, rfl⟩
  rw [hR]
  obtain ⟨TG, hTG⟩ : ∃ t, refGo V cs ls = t := ⟨_, rfl⟩
  have HR3 : Hid (R = (TG && lastE ls)) := Lib.hid (by rw [← hR, refutesB, hTG])
  have HT0 : Hid (TG = refGo V cs (ls.drop 0)) := Lib.hid hTG.symm
  clear hb hc hl hlo hinfo hinfo2 hR hTG
  go_enter Try.func32, Try.ntmps32
  have c0 : (w.alloc (.cells #[.int .i64 (V : Int), .int .i64 keep, .slice a n c] 24)).cell? ⟨w.heap.size, 0, none⟩ = some (.int .i64 V) := by simp
  have c2 : (w.alloc (.cells #[.int .i64 (V : Int), .int .i64 keep, .slice a n c] 24)).cell? ⟨w.heap.size, 2, none⟩ = some (.slice a n c) := by simp
  go_upto_region 1 with fail
  generalize w.alloc (.cells #[.int .i64 (V : Int), .int .i64 keep, .slice a n c] 24) = w0 at *
  have hs0 := block_lt c0
  have hsw := HB.out.size
  have hown : (w0.alloc (.cells #[] 25)).ownsRow w0.heap.size 25 1 (.slice (some ⟨w0.heap.size, 0, none⟩) 0 0) 0 [] := by
    simpa using own_new (base := w0.heap.size) (w := w0) #[] 25 (Nat.le_refl _) (by simp)
  have hb0 : Below w0.heap.size w0 (w0.alloc (.cells #[] 25)) := (Below.refl _ _).alloc (Nat.le_refl _) _
  obtain ⟨us, hS, hus, hrow⟩ := HX.out.lt
  have HS := Lib.hid (hS.below hb0)
  have HUS := Lib.hid hus
  have HROW := Lib.hid hrow
  have hone : ∀ u ∈ us, u.oneCell' = true := fun u hu => by
    obtain ⟨j, hj, he⟩ := List.getElem_of_mem hu
    obtain ⟨a, c, h, _⟩ := (hrow j u _ (by rw [List.getElem?_eq_getElem hj, he]) (List.getElem?_eq_getElem (by omega))).form
    rw [h]; rfl
  have HONE := Lib.hid hone
  have HB0 := Lib.hid hb0
  have d2 := below_c hb0 hs0 c2
  have hbz := hb0.size
  clear hb0 hS hus hrow hone
  go_upto_region 2 with (at_builtin; go_loud (refine wpList_pushAll rfl _ _ 22 rfl 25 (.slice none 0 0) 24 Try.underlying22 HI2.out rfl w0.heap.size (.slice (some ⟨w0.heap.size, 0, none⟩) 0 0) 0 [] _ (fun b => b < w0.heap.size) a n c us rfl rfl hown HS.out HONE.out (by omega) (by omega) hbz ?_); intro v' w' hown' hg' _; have HO := Lib.hid hown'; have HBN := Lib.hid (HB0.out.grown hg' hbz (fun k hk => (hown.lt k hk).1)); clear hown' hg' hown)
  have HRX0 : Hid (RowsX w' w0.heap.size v' cs) := Lib.hid (by
    have ho := HO.out
    rw [List.nil_append, Nat.zero_add, HN.out] at ho
    have hb := ho.lt
    exact ⟨us, ho, HUS.out, fun j u c hu hc => ((HROW.out j u c hu hc).below HBN.out).mono fun b hb' e => by have := hb b e; omega⟩)
  clear HO HS HONE HB0 d2 hbz
  go_wp2
  go_loopg [5, 19] ln (fun gg u5 u19 wx => ∃ (k : Nat) (cur : List (List Int)), k + gg = ln ∧ u19 = .int .i64 k ∧ Hid (RowsX wx w0.heap.size u5 cur) ∧ Hid (Below w0.heap.size w0 wx) ∧ Hid (LitsOk V cur) ∧ cur.length ≤ n + k ∧ Hid (TG = refGo V cur (ls.drop k)))
  case atStart => exact ⟨0, cs, by omega, rfl, HRX0, HBN, HLO, by rw [HN.out]; omega, HT0⟩
  case round =>
  clear HRX0 HBN HT0
  obtain ⟨k, cur, hkg, rfl, HRX, HBX, HLC, hcu, HTX⟩ := hrel
  have hsx := HBX.out.size
  have e0 := below_c HBX.out hs0 c0
  obtain ⟨GK, hGK⟩ : ∃ G, G = gk := ⟨_, rfl⟩
  subst hGK
  obtain ⟨ua, uc, rfl⟩ := HRX.out.form
  by_cases hk : k < ln
  case neg =>
    have HTT : Hid (TG = true) := Lib.hid (by rw [HTX.out, List.drop_eq_nil_of_le (by have := HLN.out; omega)]; simp [refGo])
    have hdk : decide (k < ln) = false := decide_eq_false hk
    have HBF : Hid (Below w.heap.size w wr) := Lib.hid (HB.out.trans (HBX.out.mono hsw))
    by_cases hl0 : ln = 0
    · have HF : Hid (R = false) := Lib.hid (by
        have : ls = [] := List.eq_nil_of_length_eq_zero (by have := HLN.out; omega)
        rw [HR3.out, this]
        simp [lastE])
      have hd0 : decide ((0 : Int) < ln) = false := by simp; omega
      have hd00 : decide (0 < ln) = false := by simp; omega
      clear hk HTX hl0
      go_wp2
      go_ret
      exact ⟨by rw [HF.out]; rfl, HBF.out⟩
    obtain ⟨l1, hl1⟩ : ∃ l1, l1 + 1 = ln := ⟨ln - 1, by omega⟩
    obtain ⟨cl, hcl1, ecl⟩ := drop_at (xs := ls) (k := l1) (by have := HLN.out; omega)
    have hcw := HL.out.below HBX.out
    obtain ⟨b, o, u, rfl, _, hb, hcc, hu⟩ := hcw.at hcl1
    obtain ⟨va, un, vc, rfl, HUN, hun⟩ := hu.form'
    have HF : Hid (R = cl.isEmpty) := Lib.hid (by rw [HR3.out, HTT.out, last_of (by rw [← HLN.out]; exact hl1.symm) hcl1]; rfl)
    have hd0 : decide ((0 : Int) < ln) = true := by simp; omega
    have hd00 : decide (0 < ln) = true := by simp; omega
    have hw1 : IntKind.i64.wrap ((ln : Int) - 1) = (l1 : Int) := by rw [IntWalk.i64_in _ ⟨by omega, by omega⟩]; omega
    have hw0 : wrap64 ((ln : Int) - 1) = (l1 : Int) := by rw [IntWalk.wrap64_in _ ⟨by omega, by omega⟩]; omega
    have hw2 : ((ln : Int) - 1) = (l1 : Int) := by omega
    have hl3 : l1 < ln := by omega
    by_cases hu0 : un = 0
    · have HF2 : Hid (R = true) := Lib.hid (by
        have h1 := HUN.out
        rw [hu0] at h1
        rw [HF.out, List.eq_nil_of_length_eq_zero h1.symm]; rfl)
      have hz : ((un : Int) == 0) = true := by simp [hu0]
      clear hk HTX hl0 hcl1 ecl hcw hu hu0 HF hl1
      go_wp2
      go_ret
      exact ⟨by rw [HF2.out]; rfl, HBF.out⟩
    · have HF2 : Hid (R = false) := Lib.hid (by
        have h1 := HUN.out
        rw [HF.out]
        cases cl with
        | nil => exact absurd h1 hu0
        | cons a r => rfl)
      have hz : ((un : Int) == 0) = false := by simp [hu0]
      clear hk HTX hl0 hcl1 ecl hcw hu hu0 HF hl1
      go_wp2
      go_ret
      exact ⟨by rw [HF2.out]; rfl, HBF.out⟩
  obtain ⟨cl, hcl1, ecl⟩ := drop_at (xs := ls) (k := k) (by have := HLN.out; omega)
  have hcw := HL.out
  obtain ⟨b, o, u, rfl, _, hb, hcc0, hu⟩ := hcw.at hcl1
  have hcc := below_c HBX.out hb hcc0
  obtain ⟨va, un, vc, rfl, HUN, hun⟩ := hu.form'
  have HUI := Lib.hid hu.lt
  have hfo := clause_any _ V (.slice va un vc) cl wr (hu.below HBX.out) (by omega)
  obtain ⟨FB, hFB⟩ : ∃ t, clauseGo V none cl = t := ⟨_, rfl⟩
  have HTY : Hid (TG = if FB = false then false else if okM V cur (negL cl) = true then false else refGo V (cur ++ [cl]) (ls.drop (k + 1))) := Lib.hid (by rw [HTX.out, refGo_at ecl, hFB])
  have HFM : Hid (FB = true → Fmd V cl) := Lib.hid (fun h => clause_fmd.1 (hFB.trans h))
  rw [hFB] at hfo
  have HFO := Lib.hid hfo
  clear hfo hFB hcl1 ecl hcw hu hcc0 HTX
  rcases bool2 FB with rfl | rfl
  case inr =>
    have HF : Hid (R = false) := Lib.hid (by rw [HR3.out, HTY.out, if_pos rfl]; rfl)
    go_wp2_with fail
    refine HFO.out.mono ?_
    rintro e w3 ⟨rfl, n3, rfl⟩
    go_wp2_with fail
    try rw [Exit.noGoto_ret]
    go_ret
    exact ⟨by rw [HF.out]; rfl, below_drewN (HB.out.trans (HBX.out.mono hsw)) _⟩
  have hfm := HFM.out rfl
  have HFMD := Lib.hid hfm
  obtain ⟨OK, hOK⟩ : ∃ x, okM V cur (negL cl) = x := ⟨_, rfl⟩
  have HOK := Lib.hid hOK
  have HTZ : Hid (TG = if OK = true then false else refGo V (cur ++ [cl]) (ls.drop (k + 1))) := Lib.hid (by rw [HTY.out, if_neg (by simp), hOK])
  have HLT : Hid (∀ x ∈ cl, LitOk V x) := Lib.hid hfm.1
  have hunl : un ≤ 24 := by have := hfm.len; have := HUN.out; omega
  clear hfm hOK HTY HFM
  go_wp2_with fail
  refine HFO.out.mono ?_
  rintro e w3 ⟨rfl, h3⟩
  have HB3 : Hid (Below wr.heap.size wr w3) := Lib.hid (by
    obtain ⟨n3, rfl⟩ := h3
    exact below_drewN (Below.refl _ _) n3)
  have HBY : Hid (Below w0.heap.size w0 w3) := Lib.hid (HBX.out.trans (HB3.out.mono hsx))
  have HRY := Lib.hid (HRX.out.below HB3.out)
  have g0 := below_c HBY.out hs0 c0
  have gcc := below_c HB3.out (block_lt hcc) hcc
  have hs3 := HBY.out.size
  clear h3 HB3 HBX HRX e0 hcc hsx
  have hb5 : Below w3.heap.size w3 (w3.alloc (.cells #[] 3)) := (Below.refl _ _).alloc (Nat.le_refl _) _
  have HB5 := Lib.hid hb5
  have HO5 : Hid (OwnI (w3.alloc (.cells #[] 3)) w3.heap.size (.slice (some ⟨w3.heap.size, 0, none⟩) 0 0) []) := Lib.hid (by simpa [OwnI] using own_new (base := w3.heap.size) (w := w3) #[] 3 (Nat.le_refl _) (by simp))
  have HN0 : Hid (negL cl = [] ++ negL (cl.drop 0)) := Lib.hid rfl
  clear hb5
  go_wp2_with fail
  go_loopg [8, 31] un (fun gg u8 u31 wx => ∃ (j : Nat) (acc : List Int), j + gg = un ∧ u31 = .int .i64 j ∧ Hid (OwnI wx w3.heap.size u8 acc) ∧ Hid (Below w3.heap.size w3 wx) ∧ acc.length ≤ j ∧ Hid (negL cl = acc ++ negL (cl.drop j)))
  case atStart => exact ⟨0, [], by omega, rfl, HO5, HB5, by simp, HN0⟩
  case round =>
  clear HO5 HB5 HN0
  obtain ⟨j, acc, hjg, rfl, HOI, HBM, hal, HNX⟩ := hrel
  have hsm := HBM.out.size
  obtain ⟨xa, xc, rfl⟩ : ∃ a c, u8 = .slice a acc.length c := own_form HOI.out
  by_cases hj : j < un
  case pos =>
    obtain ⟨x, hx, e⟩ := drop_at (xs := cl) (k := j) (by have := HUN.out; omega)
    have hll := (HUI.out.below HBY.out).below HBM.out
    obtain ⟨xb, xo, rfl, _, hxb, hxc, _⟩ := hll.at hx
    have hx0 : -1000000 ≤ x ∧ x ≤ 1000000 := by obtain ⟨_, h2, h3⟩ := HLT.out x (List.mem_of_getElem? hx); omega
    have HNE : Hid (negL cl = (acc ++ [-x]) ++ negL (cl.drop (j + 1))) := Lib.hid (by rw [HNX.out, e, List.append_assoc]; rfl)
    have hown := HOI.out
    unfold OwnI at hown
    clear HNX e hx hll
    go_wp2_with (at_builtin; go_loud (refine wpList_push1 rfl _ _ 25 rfl 3 (.int .i64 0) 8 Try.underlying25 HI.out rfl w3.heap.size (.slice xa acc.length xc) acc.length _ _ (.int .i64 (-x)) rfl rfl hown rfl (by omega) (by omega) (by omega) ?_); intro g5 cap5 w5 hown5 hg5 hs5 hgb hgl hat; have HB6 := Lib.hid (HBM.out.grown hg5 (by omega) (fun k hk => (hown.lt k hk).1)); have HO6 := Lib.hid (OwnI.snoc rfl hown5); clear hown5 hg5 hown)
    go_roundg (gk - 1)
    case measure => omega
    case rel => exact ⟨j + 1, acc ++ [-x], by omega, by go_num, HO6, HB6, by simp; omega, HNE⟩
  have HNA : Hid (acc = negL cl) := Lib.hid (by rw [HNX.out, List.drop_eq_nil_of_le (by have := HUN.out; omega)]; simp [negL])
  have hdj : decide (j < un) = false := decide_eq_false hj
  have hnlo : ∀ l ∈ acc, LitOk V l := by rw [HNA.out]; exact HFMD.out.neg
  have hsp := sprop_any (F := fun b => b < w3.heap.size) V (.slice ua cur.length uc) (.slice xa acc.length xc) cur acc wr ((HRY.out.clss (by omega)).below HBM.out) (HOI.out.ints (by omega) (fun x hx => by obtain ⟨_, h2, h3⟩ := hnlo x hx; unfold I64; omega)) hV HLC.out hnlo
  have HSP := Lib.hid hsp
  have HNL := Lib.hid hnlo
  have k0 := below_c HBM.out (by omega) g0
  clear hj HNX hsp hnlo
  go_wp2_with fail
  refine HSP.out.mono ?_
  rintro e w6 ⟨sv, q, rfl, _, hres6, hb6⟩
  have hq2 : q.2 = !OK := by
    rw [res_ok HLC.out HNL.out hres6, HNA.out, HOK.out]
  have HB6 : Hid (Below w3.heap.size w3 w6) := Lib.hid (HBM.out.trans (hb6.mono hsm))
  have HBZ : Hid (Below w0.heap.size w0 w6) := Lib.hid (HBY.out.trans (HB6.out.mono hs3))
  obtain ⟨q1, q2⟩ := q
  obtain rfl : q2 = !OK := hq2
  simp only
  clear hb6 hres6 HSP
  rcases bool2 OK with rfl | rfl
  · have HF : Hid (R = false) := Lib.hid (by rw [HR3.out, HTZ.out, if_pos rfl]; rfl)
    go_wp2_with fail
    try rw [Exit.noGoto_ret]
    go_ret
    exact ⟨by rw [HF.out]; rfl, HB.out.trans (HBZ.out.mono hsw)⟩
  have HTN : Hid (TG = refGo V (cur ++ [cl]) (ls.drop (k + 1))) := Lib.hid (by rw [HTZ.out, if_neg (by simp)])
  have HLN : Hid (LitsOk V (cur ++ [cl])) := Lib.hid (lits_snoc HLC.out HLT.out)
  obtain ⟨us, hown, hus, hrow⟩ := HRY.out.below HB6.out
  have HUS := Lib.hid hus
  have HROW := Lib.hid hrow
  have HUX : Hid (Ints (fun b => (Value.slice ua cur.length uc).ownBlock ≠ some b) w6 (.slice va un vc) cl) := Lib.hid ((HUI.out.below HBZ.out).mono fun b hb e => by have := (hown.lt b e).1; omega)
  have hsz6 := HBZ.out.size
  clear HTZ hus hrow
  go_wp2_with (at_builtin; go_loud (refine wpList_push1 rfl _ _ 22 rfl 25 (.slice none 0 0) 24 Try.underlying22 HI2.out rfl w0.heap.size (.slice ua cur.length uc) cur.length us _ (.slice va un vc) rfl rfl hown rfl (by omega) (by omega) (by omega) ?_); intro g7 cap7 w7 hown7 hg7 hs7 hgb hgl hat; have HX7 := Lib.hid (RowsX.push HUS.out HROW.out HUX.out hown7 hg7 hat); have HB7 := Lib.hid (HBZ.out.grown hg7 (by omega) (fun k hk => (hown.lt k hk).1)); clear hown7 hg7 hat hown)
  go_roundg (GK - 1)
  case measure => omega
  case rel => exact ⟨k + 1, cur ++ [cl], by omega, by go_num, HX7, HB7, HLN, by simp; omega, HTN⟩
end Go.Proofs.Ytjbhglmmakkkgaa
