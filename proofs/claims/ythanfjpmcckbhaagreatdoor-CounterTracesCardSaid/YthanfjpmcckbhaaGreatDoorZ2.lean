/- CounterTraces: for every input the law returns true, and its arguments read as before; the tied card. Condition: the listed tables lie as the program's text lays them (the card ties them). -/
import Derived.Test.YthanfjpmcckbhaaGreatDoorRows
import Derived.Test.YthanfjpmcckbhaaGreatDoorTie
import Derived.Test.YthanfjpmcckbhaaGreatDoorCards
import Derived.Test.YthanfjpmcckbhaaGreatDoorNg
import Derived.Test.YthanfjpmcckbhaaGreatDoorRn
import Derived.Test.YthanfjpmcckbhaaGreatDoorWjx
import Derived.OpenShut
import Derived.ShutString
import Derived.ChangeOld
import Derived.SevenTiedAt
namespace Go.Proofs.YthanfjpmcckbhaaGreatDoor
open Go.ChangeShapes Go.WideShapes Go.ChangeAt Go.RowKit
set_option linter.unusedVariables false
set_option linter.unusedSimpArgs false
/-! ### plain: the trace that the counter writes is accepted -/
theorem ccGo_zero {keep : Int} {ts : List Claim} : ∀ (n i : Nat), (∀ j : Nat, i ≤ j → j < i + n → ccM keep ts j = 0) → ccGo keep ts n i = 0
  | 0, _, _ => rfl
  | n + 1, i, h => by
    rw [ccGo, if_neg (by rw [h i (Nat.le_refl _) (by omega)]; simp)]
    exact ccGo_zero n (i + 1) fun j h1 h2 => h j (by omega) (by omega)
theorem tck_of {vars keep : Int} {cs : List (List Int)} {ts : List Claim} (hc : checkM vars keep cs = 0) (hk : keep ≤ 40) (hl : ts.length ≤ 1023) (hne : ts ≠ []) (ha : AccS keep ts) (hlast : (ts.getD (ts.length - 1) clNil).cls = cs) : tckM vars keep cs ts = 0 := by
  have hp : ts.length ≠ 0 := fun e => hne (List.eq_nil_of_length_eq_zero e)
  unfold tckM
  rw [if_neg (by simpa using hc), if_neg (by omega), if_neg hp, ccGo_zero _ _ (fun j _ h => ha j (by omega)), if_neg (by simp), hlast, if_neg (by simp)]
theorem parts_len2 {α : Type} (p : α → Bool) : ∀ l : List α, l.length = (l.filter p).length + (l.filter fun v => !p v).length
  | [] => rfl
  | a :: r => by
    have ih := parts_len2 p r
    rw [List.filter_cons, List.filter_cons]
    rcases h : p a <;> simp [h] <;> omega
/-- the numbers to k that do not occur -/
def misN (cs : List (List Int)) (k : Nat) : Nat := ((ivl 0 k).filter fun v => !(occM cs).contains v).length
theorem misN_succ (cs : List (List Int)) (k : Nat) : misN cs (k + 1) = misN cs k + if (occM cs).contains ((k : Int) + 1) = true then 0 else 1 := by
  unfold misN
  rw [ivl_succ, List.filter_append, List.length_append, Int.zero_add]
  congr 1
  by_cases h : (occM cs).contains ((k : Int) + 1) = true
  · rw [if_pos h, List.filter_cons, if_neg (by rw [h]; simp)]
    rfl
  · rw [if_neg h, List.filter_cons, if_pos (by simpa using h)]
    rfl
theorem misN_mono (cs : List (List Int)) {k m : Nat} (h : k ≤ m) : misN cs k ≤ misN cs m := by
  induction h with
  | refl => exact Nat.le_refl _
  | step _ ih => rw [misN_succ]; omega
theorem misN_all (cs : List (List Int)) (K : Nat) : misN cs K + (keptM (K : Int) (occM cs)).length = K := by
  have hn := (ivl_nodup K 0).filter fun v => (occM cs).contains v
  have hkn : (keptM (K : Int) (occM cs)).Nodup := (occM_nodup cs).filter _
  have hm : ∀ x, x ∈ (ivl 0 K).filter (fun v => (occM cs).contains v) ↔ x ∈ keptM (K : Int) (occM cs) := fun x => by
    rw [List.mem_filter, ivl_mem, kept_mem]
    constructor
    · rintro ⟨h1, h2⟩
      exact ⟨by simpa using h2, by omega⟩
    · rintro ⟨h1, h2⟩
      have := occM_range h1
      exact ⟨by omega, by simpa using h1⟩
  have hl := ((List.perm_ext_iff_of_nodup hn hkn).2 hm).length_eq
  have ht := parts_len2 (fun v => (occM cs).contains v) (ivl 0 K)
  rw [ivl_len, hl] at ht
  unfold misN
  omega
theorem cw_mis {cs : List (List Int)} (hc : Cn' cs) (K : Nat) : cwN (K : Int) cs [] = (Pc K cs : Int) * 2 ^ misN cs K := by
  have h := proj_eq hc K
  have h2 : cwN (K : Int) cs [] = ((cntN (Ev cs) (ivl 0 K) : Nat) : Int) := by
    unfold cwN
    have h : cntN (fun f => Ev cs f ∧ LitsT [] f) (ivl 0 K) = cntN (Ev cs) (ivl 0 K) := cnt_iff fun f => ⟨fun h => h.1, fun h => ⟨h, fun x hx => by simp at hx⟩⟩
    rw [Int.toNat_natCast, h]
  have h3 := misN_all cs K
  rw [h2, h, show ((K : Int) - (keptM (K : Int) (occM cs)).length).toNat = misN cs K by omega]
/-! ### the statement -/
theorem lchecked_any (F : Nat → Prop) (vars keep : Int) (cv tv : Value) (cs : List (List Int)) (ts : List Claim) (w : World) (hc : Clss F w cv cs) (hx : Claims (fun _ => True) w tv ts) (hiv : I64 vars) (hik : I64 keep) (hsz : ∀ c ∈ ts, SzC c) (hl : ts.length ≤ 4000) (hcl : cs.length ≤ 100000) (hcll : ∀ c ∈ cs, c.length ≤ 100000) :
    Calls Tryz.prog 29 #[.agg #[.int .i64 vars, .int .i64 keep, cv], .agg #[tv]] w (CodePost w (tckM vars keep cs ts)) := by
  obtain ⟨ta, tn, tc, rfl, _, _⟩ := hx.form
  obtain ⟨ca, cn, cc, rfl, _, _⟩ := hc.form'
  obtain ⟨bb, hbb⟩ : ∃ b, w.heap.size = b := ⟨_, rfl⟩
  obtain ⟨W1, hW1⟩ : ∃ W, (w.alloc (.cells #[.int .i64 vars, .int .i64 keep, .slice ca cn cc] 24)).alloc (.cells #[.slice ta tn tc] 47) = W := ⟨_, rfl⟩
  have hb1 : Below w.heap.size w W1 := by rw [← hW1]; exact ((Below.refl _ _).alloc (Nat.le_refl _) _).alloc (by simp) _
  have hr0 : W1.heap[bb]? = some (.cells #[.int .i64 vars, .int .i64 keep, .slice ca cn cc] 24) := by rw [← hW1]; exact old_at _ _ _ (new_at' _ _ hbb.symm)
  have hr1 : W1.heap[bb + 1]? = some (.cells #[.slice ta tn tc] 47) := by rw [← hW1]; exact new_at' _ _ (by simp; omega)
  have c0 : W1.cell? ⟨bb, 0, none⟩ = some (.int .i64 vars) := by rw [cell_of_row _ _ _ _ _ _ hr0]; rfl
  have c1 : W1.cell? ⟨bb, 1, none⟩ = some (.int .i64 keep) := by rw [cell_of_row _ _ _ _ _ _ hr0]; rfl
  have c2 : W1.cell? ⟨bb, 2, none⟩ = some (.slice ca cn cc) := by rw [cell_of_row _ _ _ _ _ _ hr0]; rfl
  have r0 : W1.cell? ⟨bb + 1, 0, none⟩ = some (.slice ta tn tc) := by rw [cell_of_row _ _ _ _ _ _ hr1]; rfl
  have HCK := Lib.hid (lchk_any F vars keep _ _ cs ts W1 (hc.below hb1) (hx.below hb1) hiv hik hsz hl hcl hcll)
  have HB1 := Lib.hid hb1
  clear hc hx hiv hik hsz hl hcl hcll hb1 hr0 hr1
  go_enter Tryz.func29, Tryz.ntmps29
  go_wp2_with fail
  try rw [hW1]
  refine HCK.out.mono ?_
  rintro e w2 ⟨rfl, hb⟩
  have HB2 : Hid (Below w.heap.size w w2) := Lib.hid (HB1.out.trans (hb.mono HB1.out.size))
  clear hb
  go_wp2_with fail
  go_ret
  exact ⟨rfl, HB2.out⟩
set_option maxRecDepth 100000 in
set_option maxHeartbeats 16000000 in
theorem lawTraces_any (vars keep : Int) (cv : Value) (cs : List (List Int)) (w : World) (hc : Clss (fun _ => True) w cv cs) (hiv : I64 vars) (hik : I64 keep) (htab : TabB w.heap.size w) :
    Calls Tryz.prog 10 #[.agg #[.int .i64 vars, .int .i64 keep, cv]] w (BoolPost w true) := by
  obtain ⟨ca, cn, cc, rfl, _, _⟩ := hc.form'
  obtain ⟨bb, hbb⟩ : ∃ b, w.heap.size = b := ⟨_, rfl⟩
  obtain ⟨W1, hW1⟩ : ∃ W, w.alloc (.cells #[.int .i64 vars, .int .i64 keep, .slice ca cn cc] 24) = W := ⟨_, rfl⟩
  have hb1 : Below w.heap.size w W1 := by rw [← hW1]; exact (Below.refl _ _).alloc (Nat.le_refl _) _
  have hr0 : W1.heap[bb]? = some (.cells #[.int .i64 vars, .int .i64 keep, .slice ca cn cc] 24) := by rw [← hW1]; exact new_at' _ _ hbb.symm
  have c0 : W1.cell? ⟨bb, 0, none⟩ = some (.int .i64 vars) := by rw [cell_of_row _ _ _ _ _ _ hr0]; rfl
  have c1 : W1.cell? ⟨bb, 1, none⟩ = some (.int .i64 keep) := by rw [cell_of_row _ _ _ _ _ _ hr0]; rfl
  have c2 : W1.cell? ⟨bb, 2, none⟩ = some (.slice ca cn cc) := by rw [cell_of_row _ _ _ _ _ _ hr0]; rfl
  have hlt1 := block_lt c0
  have HC := Lib.hid (hc.below hb1)
  have HB1 := Lib.hid hb1
  have HIV := Lib.hid hiv
  have HIK := Lib.hid hik
  have ht1 : TabB W1.heap.size W1 := (htab.below hb1 (Nat.le_refl _)).up hb1.size
  have HT1 := Lib.hid ht1
  have HKN := Lib.hid (known_any W1 ht1)
  clear hc hr0 hb1 hiv hik htab ht1
  go_enter Tryz.func10, Tryz.ntmps10
  go_wp2_with fail
  try rw [hW1]
  try rw [hbb]
  clear hW1 hbb
  refine HKN.out.mono ?_
  rintro e w2 ⟨rfl, hb2⟩
  have HB2 : Hid (Below w.heap.size w w2) := Lib.hid (HB1.out.trans (hb2.mono HB1.out.size))
  have HC2 := Lib.hid (HC.out.below hb2)
  have HT2 : Hid (TabB w2.heap.size w2) := Lib.hid ((HT1.out.below hb2 (Nat.le_refl _)).up hb2.size)
  have y0 := below_c hb2 hlt1 c0
  have y1 := below_c hb2 hlt1 c1
  have y2 := below_c hb2 hlt1 c2
  have hlt2 := block_lt y0
  clear hb2 HKN HB1 HC HT1 c0 c1 c2 hlt1
  have hfw := lfew_any _ vars keep _ cs w2 HC2.out HIV.out HIK.out
  obtain ⟨B1, hB1⟩ : ∃ B, fewB vars keep cs = B := ⟨_, rfl⟩
  rw [hB1] at hfw
  have HFW := Lib.hid hfw
  have HBF := Lib.hid hB1
  clear hfw hB1
  go_wp2_with fail
  refine HFW.out.mono ?_
  rintro e w3 ⟨rfl, hb3⟩
  have HB3 : Hid (Below w.heap.size w w3) := Lib.hid (HB2.out.trans (hb3.mono HB2.out.size))
  have HC3 := Lib.hid (HC2.out.below hb3)
  have HT3 : Hid (TabB w3.heap.size w3) := Lib.hid ((HT2.out.below hb3 (Nat.le_refl _)).up hb3.size)
  have z0 := below_c hb3 hlt2 y0
  have z1 := below_c hb3 hlt2 y1
  have z2 := below_c hb3 hlt2 y2
  have hlt3 := block_lt z0
  clear hb3 HFW HB2 HC2 HT2 y0 y1 y2 hlt2
  rcases bool2 B1 with rfl | rfl
  rotate_left
  · go_wp2_with fail
    go_ret
    exact ⟨rfl, HB3.out⟩
  obtain ⟨hsz, h9f, hl40, hl14⟩ := fewB_ok HBF.out
  have HSZ := Lib.hid hsz
  have H9F := Lib.hid h9f
  have HLL := Lib.hid (And.intro hl40 hl14)
  clear hsz h9f hl40 hl14 HBF
  have hzs := hlt3
  have HTR := Lib.hid (trace_any _ vars keep _ cs w3 HC3.out HIV.out HIK.out HSZ.out H9F.out HT3.out)
  go_wp2_with fail
  refine HTR.out.mono ?_
  rintro e w4 ⟨tv, c, ts, rfl, q1, q2, q3, hcl4, hb4⟩
  obtain ⟨ta, tn, tc, rfl, HTN, htn⟩ := hcl4.form
  obtain ⟨tb, htb⟩ : ∃ b, w4.heap.size = b := ⟨_, rfl⟩
  obtain ⟨W5, hW5⟩ : ∃ W, w4.alloc (.cells #[.slice ta tn tc] 47) = W := ⟨_, rfl⟩
  have hb5 : Below w4.heap.size w4 W5 := by rw [← hW5]; exact (Below.refl _ _).alloc (Nat.le_refl _) _
  have hr5 : W5.heap[tb]? = some (.cells #[.slice ta tn tc] 47) := by rw [← hW5]; exact new_at' _ _ htb.symm
  have t0 : W5.cell? ⟨tb, 0, none⟩ = some (.slice ta tn tc) := by rw [cell_of_row _ _ _ _ _ _ hr5]; rfl
  have hb45 : Below w3.heap.size w3 W5 := hb4.trans (hb5.mono hb4.size)
  have HB5 : Hid (Below w.heap.size w W5) := Lib.hid (HB3.out.trans (hb45.mono HB3.out.size))
  have HC5 := Lib.hid (HC3.out.below hb45)
  have HX5 := Lib.hid (hcl4.below hb5)
  have y0 := below_c hb45 hlt3 z0
  have y1 := below_c hb45 hlt3 z1
  have y2 := below_c hb45 hlt3 z2
  have HW5 := Lib.hid hW5
  have HTB := Lib.hid htb
  have hak := lasked_any _ (fun _ => True) vars keep _ (.slice none 0 0) cs [] W5 HC5.out (Ints.nil _ _) HIV.out HIK.out HSZ.out
  rw [← q1] at hak
  have HAK := Lib.hid hak
  have HQ1 := Lib.hid q1
  have HQ2 := Lib.hid q2
  have HQ3 := Lib.hid q3
  have hlt5 := block_lt y0
  have htl5 := block_lt t0
  clear hcl4 hb4 hb5 hr5 hb45 hak q1 q2 q3 HTR HB3 HC3 HT3 z0 z1 z2 hlt3 hW5 htb
  go_upto_region 6 with fail
  rw [HW5.out, HTB.out]
  clear HW5
  go_wp2_with fail
  refine HAK.out.mono ?_
  rintro e w6 ⟨rfl, hb⟩
  have HB6 : Hid (Below w.heap.size w w6) := Lib.hid (HB5.out.trans (hb.mono HB5.out.size))
  have HC6 := Lib.hid (HC5.out.below hb)
  have HX6 := Lib.hid (HX5.out.below hb)
  have z0 := below_c hb hlt5 y0
  have z1 := below_c hb hlt5 y1
  have z2 := below_c hb hlt5 y2
  have s0 := below_c hb htl5 t0
  clear hb HAK HB5 HC5 HX5 y0 y1 y2 t0 hlt5 htl5
  by_cases hc0 : c = 0
  rotate_left
  · have hd : (c != 0) = true := by simp; exact hc0
    have hts := HQ2.out hc0
    obtain rfl : tn = 0 := by rw [HTN.out, hts]; rfl
    have hcc : (c == c) = true := by simp
    clear hc0
    go_wp2_with fail
    go_ret
    exact ⟨rfl, HB6.out⟩
  subst hc0
  obtain ⟨hacc, hne, hlast, hlen, hszc⟩ := HQ3.out rfl
  obtain ⟨hcc, _, hk40⟩ := asked_ok HQ1.out.symm
  have hdm := check_dims hcc
  have htck := tck_of hcc hk40 hlen hne hacc hlast
  have hch := lchecked_any _ vars keep _ _ cs ts w6 HC6.out HX6.out HIV.out HIK.out hszc (by omega) (by have := HLL.out.1; omega) (fun c hc => by have := HLL.out.2 c hc; omega)
  rw [htck] at hch
  have HCH := Lib.hid hch
  have htp : 0 < tn := by rw [HTN.out]; exact List.length_pos_iff.2 hne
  have hd0 : ((0 : Int) != 0) = false := by decide
  have hd1 : ((tn : Int) == 0) = false := by simp; omega
  have hd2 : (tn == 0) = false := by simp; omega
  have htn3 : tn ≤ 1023 := by rw [HTN.out]; exact hlen
  have hgood := acc_good (keep := keep) hacc ts.length (ts.length - 1) (by have := HTN.out; omega) (by have := HTN.out; omega)
  obtain ⟨l, hl⟩ : ∃ l, ts.getD (ts.length - 1) clNil = l := ⟨_, rfl⟩
  rw [hl] at hgood hlast
  have hli : ts[tn - 1]? = some l := by
    rw [← hl, HTN.out, List.getD_eq_getElem?_getD, List.getElem?_eq_getElem (by have := HTN.out; omega)]
    rfl
  have hcnt : l.count = (Pc keep cs : Int) := by rw [hgood.2, hlast]
  have HCNT := Lib.hid hcnt
  have HLI := Lib.hid hli
  have HCN := Lib.hid (cn_of_check hcc)
  have HDM := Lib.hid (show 0 ≤ keep ∧ keep ≤ 40 from ⟨hdm.1, hk40⟩)
  have hlt6 := block_lt z0
  have htl6 := block_lt s0
  clear hacc hne hlast hlen hszc hcc hk40 hdm htck hch hgood hl hli hcnt HQ1 HQ2 HQ3
  go_wp2_with fail
  refine HCH.out.mono ?_
  rintro e w7 ⟨rfl, hb⟩
  have HB7 : Hid (Below w.heap.size w w7) := Lib.hid (HB6.out.trans (hb.mono HB6.out.size))
  have HC7 := Lib.hid (HC6.out.below hb)
  have HX7 := Lib.hid (HX6.out.below hb)
  have y0 := below_c hb hlt6 z0
  have y1 := below_c hb hlt6 z1
  have y2 := below_c hb hlt6 z2
  have t0 := below_c hb htl6 s0
  obtain ⟨zb, zo, cvj, kvj, rfl, _, hzl, k0, k1, k2, k3, k4, _⟩ := HX7.out.at HLI.out
  have hwi : wrap64 ((tn : Int) - 1) = ((tn - 1 : Nat) : Int) := by unfold wrap64; omega
  have hi0 : (0 : Int) ≤ ((tn - 1 : Nat) : Int) := by omega
  have hin : ((tn - 1 : Nat) : Int) < tn := by omega
  have hlt7 := block_lt y0
  have HOC := Lib.hid (loccur_any _ _ cs w7 HC7.out (by have := HLL.out.1; omega) (fun c hc => by have := HLL.out.2 c hc; omega))
  obtain ⟨X, hX⟩ : ∃ X, l.count = X := ⟨_, rfl⟩
  rw [hX] at k4 HCNT
  clear hb HCH HB6 HC6 HX6 z0 z1 z2 s0 hlt6 htl6 hX
  go_upto_region 12 with fail
  go_wp2_with fail
  refine HOC.out.mono ?_
  rintro e w8 ⟨ov, os, rfl, hos, hb, _, hmem⟩
  obtain ⟨pa, pn, pc, rfl, _, _⟩ := hos.form'
  have HB8 : Hid (Below w.heap.size w w8) := Lib.hid (HB7.out.trans (hb.mono HB7.out.size))
  have HC8 := Lib.hid (HC7.out.below hb)
  have z0 := below_c hb hlt7 y0
  have z1 := below_c hb hlt7 y1
  have z2 := below_c hb hlt7 y2
  have HOS := Lib.hid hos
  have HCO : Hid (∀ x, os.contains x = (occM cs).contains x) := Lib.hid fun x => by
    rw [Bool.eq_iff_iff]
    simp [hmem, occM_mem]
  obtain ⟨K, hK⟩ : ∃ K : Nat, keep = K := ⟨keep.toNat, by have := HDM.out.1; omega⟩
  subst hK
  have hK40 : K ≤ 40 := by have := HDM.out.2; omega
  have hcw := cw_mis HCN.out K
  rw [← HCNT.out] at hcw
  have hcwb := cwN_le (keep := (K : Int)) (cs := cs) (ls := []) HDM.out.2
  have HCW := Lib.hid hcw
  have HCB := Lib.hid hcwb
  have hX0 : 0 ≤ X := by rw [HCNT.out]; exact Int.natCast_nonneg _
  have HPR := Lib.hid (proj_any _ vars K _ cs w8 HC8.out HCN.out HSZ.out HDM.out)
  have HM0 : Hid (X = X * 2 ^ misN cs 0) := Lib.hid (by rw [show misN cs 0 = 0 from rfl]; simp)
  clear hb hos hmem HOC HB7 HC7 HX7 y0 y1 y2 t0 k0 k1 k2 k3 k4 hcw hcwb hlt7
  go_wp2_with fail
  go_loopg [6, 8] K (fun gg u6 u8 wx => ∃ (k v : Nat) (Y : Int), k + gg = K ∧ Hid (v = k + 1) ∧ u8 = .int .i64 (v : Int) ∧ u6 = .int .i64 Y ∧ Hid (Y = X * 2 ^ misN cs k) ∧ wx = w8)
  case atStart => exact ⟨0, 1, X, by omega, Lib.hid rfl, rfl, rfl, HM0, rfl⟩
  case round =>
  clear HM0
  obtain ⟨k, v, Y, hkg, HVK, rfl, rfl, HY, rfl⟩ := hrel
  have hv40 : v ≤ 41 := by have := HVK.out; omega
  by_cases hk : k < K
  · have hdk : decide ((v : Int) ≤ K) = true := decide_eq_true (by have := HVK.out; omega)
    have hdk2 : decide (v ≤ K) = true := decide_eq_true (by have := HVK.out; omega)
    have HCT := Lib.hid (contains_any _ _ os (v : Int) _ HOS.out (by unfold I64; omega))
    obtain ⟨E, hE⟩ : ∃ E, os.contains (v : Int) = E := ⟨_, rfl⟩
    rw [hE] at HCT
    have hs := misN_succ cs k
    rw [show (k : Int) + 1 = (v : Int) by have := HVK.out; omega, ← HCO.out, hE] at hs
    have HSU := Lib.hid hs
    have hle : X * 2 ^ misN cs (k + 1) ≤ 1099511627776 := by
      have h1 := HCB.out.2
      rw [HCW.out] at h1
      refine Int.le_trans (Int.mul_le_mul_of_nonneg_left ?_ hX0) h1
      exact_mod_cast Nat.pow_le_pow_right (by omega) (misN_mono cs (by omega))
    have HLE := Lib.hid hle
    clear hE hs hle
    go_wp2_with fail
    refine HCT.out.mono ?_
    rintro e w9 ⟨rfl, hw9⟩
    have hw9 := hw9.symm
    subst hw9
    rcases bool2 E with rfl | rfl
    · have HYN : Hid (Y = X * 2 ^ misN cs (k + 1)) := Lib.hid (by have h := HSU.out; rw [if_pos rfl, Nat.add_zero] at h; rw [h]; exact HY.out)
      clear HCT
      go_wp2_with fail
      go_roundg (gk - 1)
      case measure => omega
      case rel => exact ⟨k + 1, v + 1, Y, by omega, Lib.hid (by have := HVK.out; omega), by go_num, rfl, HYN, rfl⟩
    · have HYN : Hid (Y * 2 = X * 2 ^ misN cs (k + 1)) := Lib.hid (by have h := HSU.out; rw [if_neg (by simp)] at h; rw [h, Int.pow_succ, ← Int.mul_assoc, ← HY.out])
      have hY0 : 0 ≤ Y * 2 := by rw [HYN.out]; exact Int.mul_nonneg hX0 (Int.le_of_lt (Int.pow_pos (by omega)))
      have hwy : wrap64 (Y * 2) = Y * 2 := wrap64_id ⟨hY0, by rw [HYN.out]; exact HLE.out⟩
      clear HCT
      go_wp2_with fail
      go_roundg (gk - 1)
      case measure => omega
      case rel => exact ⟨k + 1, v + 1, Y * 2, by omega, Lib.hid (by have := HVK.out; omega), by go_num, by go_num, HYN, rfl⟩
  obtain rfl : K = k := by omega
  have hdk : decide ((v : Int) ≤ K) = false := decide_eq_false (by have := HVK.out; omega)
  have hdk2 : decide (v ≤ K) = false := decide_eq_false (by have := HVK.out; omega)
  have hY : Y = cwN (K : Int) cs [] := by rw [HY.out, HCW.out]
  subst hY
  have hyy : (cwN (K : Int) cs [] == cwN (K : Int) cs []) = true := by simp
  clear HY hk hkg
  go_wp2_with fail
  refine HPR.out.mono ?_
  rintro e wz ⟨rfl, hb⟩
  have HBZ : Hid (Below w.heap.size w wz) := Lib.hid (HB8.out.trans (hb.mono HB8.out.size))
  clear hb HPR
  go_wp2_with fail
  go_ret
  exact ⟨rfl, HBZ.out⟩
end Go.Proofs.YthanfjpmcckbhaaGreatDoor
namespace Go.Proofs.YthanfjpmcckbhaaGreatDoor.lawTraces
open Go.ChangeShapes Go.WideShapes Go.ChangeAt Go.RowKit
set_option linter.unusedVariables false

theorem own : ownKnob Tryz.prog.godebug = none := by kernel_rfl
theorem laidOut : laidOutB Tryz.prog = true := by kernel_rfl

set_option maxRecDepth 100000 in
theorem lifted (os : Os) (started : os.Started) (H : Type) (enc : TypeId × Value → H) :
    ReturnsInHanded {} Tryz.checked os 10 .any (fun w args => (Rows.counterTracesSpec.pre enc Tryz.prog Tryz.f10 [] false w args ∧ laidMetH Tryz.prog laid3 w) ∧ sizedMet enc Tryz.prog Tryz.f10 (OpenSpec.ofChange Rows.counterTracesSpec) false w args) (Rows.counterTracesSpec.post enc Tryz.prog Tryz.f10 false true false false) := by
  refine returnsInHanded_of_change_and (C := Tryz.checked) (X := fun w _ => laidMetH Tryz.prog laid3 w) (fun _ _ _ hh h => h.of_heap hh) own started (by kernel_rfl) Tryz.func10
    (ChangeSpec.witness_shaped (enc := enc) (C := Tryz.checked) (os := os) (X := fun w _ => laidMetH Tryz.prog laid3 w) false (World.doorLaid Tryz.prog 400 os) #[.agg #[.int .i64 0, .int .i64 0, .slice none 0 0]] 8 rfl (World.shaped_of_RefB (by kernel_rfl) (by kernel_rfl)) (by kernel_rfl) (by kernel_rfl) (by kernel_rfl) (door_met os _)) ?_
  intro W base args ds gs before hval0 hW _ _ hL _
  have hval : ∀ (j : Nat) t v, Tryz.f10.params[j]? = some t → args[j]? = some v → Value.okWide Tryz.prog W .any base t v := hval0
  have hW' := hW
  obtain ⟨p, q, hA0, hV, rfl, hfz, hnd⟩ := hW
  have hA : DataW.TrodAll enc Tryz.prog W 0 (fun _ => true) true Tryz.f10.params.toList args.toList ds p := hA0
  rw [Tryz.params10] at hA hval
  obtain ⟨v0, vs0, d0, ds0, p0, q0, hargs, rfl, rfl, h0, r0⟩ := trodAll_cons hA
  obtain ⟨rfl, rfl, rfl⟩ := trodAll_nil r0
  obtain rfl : args = #[v0] := by cases args; simp_all
  obtain ⟨rfl, rfl⟩ := trodVars_none hV
  have k0 := h0
  have lt0 : ∀ x ∈ p0, x.block < W.heap.size := by obtain ⟨m, hm⟩ := k0; exact DataW.trod_lt m _ _ _ hm
  obtain ⟨vars0, keep0, cv0, cs0, rfl, hv0, hk0, hcs0⟩ := open_cnf (hval 0 24 v0 rfl rfl) h0
  clear hA0 hval0
  simp only [List.append_nil] at hW'
  refine (lawTraces_any vars0 keep0 cv0 cs0 W hcs0 hv0 hk0 (tab_of hL)).mono fun e W' ⟨he, bel⟩ => ?_
  subst he
  exact ⟨_, rfl, _, _, _, [], _, [], hW', trodAll_mk1 (shut_bool Tryz.underlying4 _), (trodAll_cons_mk (Below.trod laidOut (by kernel_rfl) (of_decide_eq_true (by kernel_rfl)) k0 bel lt0) trodAll_mk0), rfl, bel.frame _, fun h => by cases h⟩

theorem over : Rows.CounterTracesSaid :=
  OpenClaim.holds_of_wide 10 Tryz.f10 rfl rfl rfl rfl rfl rfl rfl ⟨rfl, rfl, rfl, rfl, rfl⟩ rfl rfl rfl rfl rfl (by kernel_rfl) Tryz.func10 (by kernel_rfl)
    (of_decide_eq_true (by kernel_rfl)) (by unfold Func.isWrapper; first | (rw [if_pos (by decide +kernel)]; kernel_rfl) | (rw [if_neg (by decide +kernel)]; exact ⟨rfl, rfl⟩))
    (fun os started H enc _ => lifted os started H enc)

theorem proved : Rows.CounterTracesCardSaid :=
  Claim7.holds_tied_plain_at .later [] [.data, .data, .data] true (true, "c22f66dfe7c8ae6eab3477afff4f9c11aeb98792d80be54c5f7e6e0e3091a48e") false
    over (fun _ h => by cases h) (by kernel_rfl) (fun _ h => by cases h) counterTraces_row_tie rfl ⟨rfl, rfl⟩ (by kernel_rfl) rfl
    (fun f fn hf hfn => by
      obtain rfl : f = 10 := Option.some.inj ((show Tryz.prog.funcNamed "keyhole/keyholelaw32.CounterTraces" = some 10 by kernel_rfl).symm.trans hf) |>.symm
      obtain rfl : fn = Tryz.f10 := (Option.some.inj (Tryz.func10.symm.trans hfn)).symm
      exact ⟨by kernel_rfl, fun j t ht => by
        rw [Tryz.params10] at ht
        have hm : t ∈ ([24] : List TypeId) := by simpa using Array.mem_of_getElem? ht
        have hall : (([24] : List TypeId).all fun u => !Tryz.prog.wantsStandIn u) = true := by kernel_rfl
        exact (show Tryz.prog.wantsStandIn t = false by simpa using List.all_eq_true.1 hall t hm)⟩)
    (by kernel_rfl)
#print axioms proved
end Go.Proofs.YthanfjpmcckbhaaGreatDoor.lawTraces
