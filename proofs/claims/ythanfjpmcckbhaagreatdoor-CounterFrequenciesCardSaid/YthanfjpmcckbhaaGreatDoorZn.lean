/- (Counter seat) Walk: the statement CounterFrequencies. No condition but that the table of powers lies as laid. -/
import Derived.Test.YthanfjpmcckbhaaGreatDoorZl
namespace Go.Proofs.YthanfjpmcckbhaaGreatDoor
open Go.ChangeShapes Go.WideShapes Go.ChangeAt Go.RowKit
set_option linter.unusedVariables false
set_option linter.unusedSimpArgs false

set_option maxRecDepth 100000 in
set_option maxHeartbeats 16000000 in
theorem lawFrequencies_any (vars keep : Int) (cv : Value) (cs : List (List Int)) (w : World) (hc : Clss (fun _ => True) w cv cs) (hiv : I64 vars) (hik : I64 keep) (htab : TabB w.heap.size w) :
    Calls Tryz.prog 5 #[.agg #[.int .i64 vars, .int .i64 keep, cv]] w (BoolPost w true) := by
  obtain ⟨ca, cn, cc, rfl, _, _⟩ := hc.form'
  obtain ⟨bb, hbb⟩ : ∃ b, w.heap.size = b := ⟨_, rfl⟩
  obtain ⟨W1, hW1⟩ : ∃ W, w.alloc (.cells #[.int .i64 vars, .int .i64 keep, .slice ca cn cc] 24) = W := ⟨_, rfl⟩
  have hb1 : Below w.heap.size w W1 := by rw [← hW1]; exact (Below.refl _ _).alloc (Nat.le_refl _) _
  have hr0 : W1.heap[bb]? = some (.cells #[.int .i64 vars, .int .i64 keep, .slice ca cn cc] 24) := by rw [← hW1]; exact new_at' _ _ hbb.symm
  have c0 : W1.cell? ⟨bb, 0, none⟩ = some (.int .i64 vars) := by rw [cell_of_row _ _ _ _ _ _ hr0]; rfl
  have c1 : W1.cell? ⟨bb, 1, none⟩ = some (.int .i64 keep) := by rw [cell_of_row _ _ _ _ _ _ hr0]; rfl
  have c2 : W1.cell? ⟨bb, 2, none⟩ = some (.slice ca cn cc) := by rw [cell_of_row _ _ _ _ _ _ hr0]; rfl
  have hlt1 := block_lt c0
  have HC := Lib.hid (hc.below hb1)
  have HB1 := Lib.hid hb1
  have HIV := Lib.hid hiv
  have HIK := Lib.hid hik
  have ht1 : TabB W1.heap.size W1 := (htab.below hb1 (Nat.le_refl _)).up hb1.size
  have HT1 := Lib.hid ht1
  have HKN := Lib.hid (known_any W1 ht1)
  clear hc hr0 hb1 hiv hik htab ht1
  go_enter Tryz.func5, Tryz.ntmps5
  go_wp2_with fail
  try rw [hW1]
  try rw [hbb]
  clear hW1 hbb
  refine HKN.out.mono ?_
  rintro e w2 ⟨rfl, hb2⟩
  have HB2 : Hid (Below w.heap.size w w2) := Lib.hid (HB1.out.trans (hb2.mono HB1.out.size))
  have HC2 := Lib.hid (HC.out.below hb2)
  have HT2 : Hid (TabB w2.heap.size w2) := Lib.hid ((HT1.out.below hb2 (Nat.le_refl _)).up hb2.size)
  have y0 := below_c hb2 hlt1 c0
  have y1 := below_c hb2 hlt1 c1
  have y2 := below_c hb2 hlt1 c2
  have hlt2 := block_lt y0
  clear hb2 HKN HB1 HC HT1 c0 c1 c2 hlt1
  have hfw := lfew_any _ vars keep _ cs w2 HC2.out HIV.out HIK.out
  obtain ⟨B1, hB1⟩ : ∃ B, fewB vars keep cs = B := ⟨_, rfl⟩
  rw [hB1] at hfw
  have HFW := Lib.hid hfw
  have HBF := Lib.hid hB1
  clear hfw hB1
  go_wp2_with fail
  refine HFW.out.mono ?_
  rintro e w3 ⟨rfl, hb3⟩
  have HB3 : Hid (Below w.heap.size w w3) := Lib.hid (HB2.out.trans (hb3.mono HB2.out.size))
  have HC3 := Lib.hid (HC2.out.below hb3)
  have HT3 : Hid (TabB w3.heap.size w3) := Lib.hid ((HT2.out.below hb3 (Nat.le_refl _)).up hb3.size)
  have z0 := below_c hb3 hlt2 y0
  have z1 := below_c hb3 hlt2 y1
  have z2 := below_c hb3 hlt2 y2
  have hlt3 := block_lt z0
  clear hb3 HFW HB2 HC2 HT2 y0 y1 y2 hlt2
  rcases bool2 B1 with rfl | rfl
  rotate_left
  · go_wp2_with fail
    go_ret
    exact ⟨rfl, HB3.out⟩
  obtain ⟨hsz, h9f, hl40, hl14⟩ := fewB_ok HBF.out
  have HSZ := Lib.hid hsz
  have H9F := Lib.hid h9f
  have HLL := Lib.hid (And.intro hl40 hl14)
  clear hsz h9f hl40 hl14 HBF
  have HFQ := Lib.hid (frequency_any _ vars keep _ cs w3 HC3.out HIV.out HIK.out HSZ.out H9F.out HT3.out)
  go_wp2_with fail
  refine HFQ.out.mono ?_
  rintro e w4 ⟨fv, c, fs, rfl, q1, q2, q3, hfv, hb4⟩
  obtain ⟨fa, fn, fc, rfl, HFN, _⟩ := hfv.form'
  have HB4 : Hid (Below w.heap.size w w4) := Lib.hid (HB3.out.trans (hb4.mono HB3.out.size))
  have HC4 := Lib.hid (HC3.out.below hb4)
  have HFV4 : Hid (Ints (fun _ => True) w4 (.slice fa fn fc) fs) := Lib.hid (hfv.mono fun _ _ => trivial)
  have y0 := below_c hb4 hlt3 z0
  have y1 := below_c hb4 hlt3 z1
  have y2 := below_c hb4 hlt3 z2
  have hlt4 := block_lt y0
  have hak := lasked_any _ (fun _ => True) vars keep _ (.slice none 0 0) cs [] w4 HC4.out (Ints.nil _ _) HIV.out HIK.out HSZ.out
  rw [← q1] at hak
  have HAK := Lib.hid hak
  have HQ1 := Lib.hid q1
  have HQ2 := Lib.hid q2
  have HQ3 := Lib.hid q3
  clear hak q1 q2 q3 hb4 HFQ HB3 HC3 HT3 z0 z1 z2 hlt3 hfv
  go_wp2_with fail
  refine HAK.out.mono ?_
  rintro e w5 ⟨rfl, hb5⟩
  have HB5 : Hid (Below w.heap.size w w5) := Lib.hid (HB4.out.trans (hb5.mono HB4.out.size))
  have HC5 := Lib.hid (HC4.out.below hb5)
  have HFV5 := Lib.hid (HFV4.out.below hb5)
  have z0 := below_c hb5 hlt4 y0
  have z1 := below_c hb5 hlt4 y1
  have z2 := below_c hb5 hlt4 y2
  clear hb5 HAK HB4 HC4 HFV4 y0 y1 y2 hlt4
  by_cases hc0 : c = 0
  rotate_left
  · have hd : (c != 0) = true := by simp; exact hc0
    have hfs := HQ2.out hc0
    have hfn : fn = 0 := by rw [HFN.out, hfs]; rfl
    subst hfn
    have hcc : (c == c) = true := by simp
    clear hc0 hfs
    go_wp2_with fail
    go_ret
    exact ⟨rfl, HB5.out⟩
  subst hc0
  obtain ⟨hcc, _, hk40⟩ := asked_ok HQ1.out.symm
  have hdm := check_dims hcc
  have h9 := H9F.out hcc
  obtain ⟨K, hK⟩ := Int.eq_ofNat_of_zero_le hdm.1
  subst hK
  have hfs := HQ3.out rfl
  rw [Int.toNat_natCast] at hfs
  have hfn : fn = K := by rw [HFN.out, hfs]; simp
  subst hfn
  have hK40 : fn ≤ 9 := by omega
  have HPR : Hid (∀ (i : Nat) W v, i < fn → Clss (fun _ => True) W v (canM (withC cs [(i : Int) + 1])) → Calls Tryz.prog 15 #[.agg #[.int .i64 vars, .int .i64 fn, v]] W (IntB W (cwN fn cs [(i : Int) + 1]))) := Lib.hid fun i W v hi hv => by
    have h := proj_any _ vars fn v _ W hv (cn_with (cn_of_check hcc) (fun x hx => by simp at hx; subst hx; exact ⟨by omega, by omega, by omega⟩)) (sz_with HLL.out (by simp)).1 ⟨hdm.1, hk40⟩
    rw [cw_with] at h
    exact h
  have HFS : Hid (∀ i : Nat, i < fn → fs[i]? = some (cwN fn cs [(i : Int) + 1])) := Lib.hid fun i hi => by
    rw [hfs, List.getElem?_map, List.getElem?_range hi]
    rfl
  have hd0 : ((0 : Int) != 0) = false := by decide
  have hnn : ((fn : Int) != fn) = false := by simp
  clear hcc hdm h9 hfs HQ1 HQ2 HQ3 hk40
  go_wp2_with fail
  go_loopg [41] fn (fun gg u41 wx => ∃ k : Nat, k + gg = fn ∧ u41 = .int .i64 (k : Nat) ∧ Hid (Clss (fun _ => True) wx (.slice ca cn cc) cs) ∧ Hid (Below w.heap.size w wx) ∧ Hid (Ints (fun _ => True) wx (.slice fa fn fc) fs) ∧ wx.cell? ⟨bb, 0, none⟩ = some (.int .i64 vars) ∧ wx.cell? ⟨bb, 1, none⟩ = some (.int .i64 (fn : Nat)) ∧ wx.cell? ⟨bb, 2, none⟩ = some (.slice ca cn cc))
  case atStart => exact ⟨0, by omega, rfl, HC5, HB5, HFV5, z0, z1, z2⟩
  case round =>
  clear HC5 HB5 HFV5 z0 z1 z2
  obtain ⟨k, hkg, rfl, HCX, HBX, HFX, y0, y1, y2⟩ := hrel
  by_cases hk : k < fn
  · have hdk : decide ((k : Int) < fn) = true := by simp; omega
    have hdk' : decide (k < fn) = true := decide_eq_true hk
    obtain ⟨xb, xo, hae, _, _, hcx, _⟩ := HFX.out.at (HFS.out k hk)
    subst hae
    have hwk : IntKind.i64.wrap ((k : Int) + 1) = (k : Int) + 1 := IntWalk.i64_in _ ⟨by omega, by omega⟩
    have hltx := block_lt y0
    obtain ⟨ab, hab⟩ : ∃ b, wr.heap.size = b := ⟨_, rfl⟩
    obtain ⟨W5, hW5⟩ : ∃ W, wr.alloc (.cells #[.int .i64 ((k : Int) + 1)] 3) = W := ⟨_, rfl⟩
    have hb5 : Below wr.heap.size wr W5 := by rw [← hW5]; exact (Below.refl _ _).alloc (Nat.le_refl _) _
    have hr5 : W5.heap[ab]? = some (.cells #[.int .i64 ((k : Int) + 1)] 3) := by rw [← hW5]; exact new_at' _ _ hab.symm
    have hli : Ints (fun _ => True) W5 (.slice (some ⟨ab, 0, none⟩) 1 1) [(k : Int) + 1] := ints_blk [(k : Int) + 1] hr5 rfl rfl (by simp) (fun x hx => by simp at hx; subst hx; unfold I64; omega)
    have HWI := Lib.hid (with_any _ _ vars fn _ _ cs [(k : Int) + 1] W5 (HCX.out.below hb5) hli HLL.out (by simp))
    have HB5 : Hid (Below w.heap.size w W5) := Lib.hid (HBX.out.trans (hb5.mono HBX.out.size))
    have HC5 := Lib.hid (HCX.out.below hb5)
    have HF5 := Lib.hid (HFX.out.below hb5)
    have e0 := below_c hb5 hltx y0
    have e1 := below_c hb5 hltx y1
    have e2 := below_c hb5 hltx y2
    have hlt5 := block_lt e0
    obtain ⟨N, hN⟩ : ∃ N, cwN fn cs [(k : Int) + 1] = N := ⟨_, rfl⟩
    have hpk := HPR.out k
    rw [hN] at hcx hpk
    have HPK := Lib.hid hpk
    clear hb5 hr5 hli HCX HBX HFX hpk hN
    go_wp2_with fail
    try rw [hW5]
    try rw [hab]
    refine HWI.out.mono ?_
    rintro e w6 ⟨wv, rfl, hwv, hb6⟩
    obtain ⟨wa, wn, wc, rfl, _, _⟩ := hwv.form'
    have HB6 : Hid (Below w.heap.size w w6) := Lib.hid (HB5.out.trans (hb6.mono HB5.out.size))
    have HC6 := Lib.hid (HC5.out.below hb6)
    have HF6 := Lib.hid (HF5.out.below hb6)
    have f0 := below_c hb6 hlt5 e0
    have f1 := below_c hb6 hlt5 e1
    have f2 := below_c hb6 hlt5 e2
    have hlt6 := block_lt f0
    have HP6 := Lib.hid (HPK.out w6 _ hk hwv)
    clear hwv hb6 HWI HB5 HC5 HF5 hW5 hab e0 e1 e2 y0 y1 y2 hlt5 hltx HPK hcx
    go_wp2_with fail
    refine HP6.out.mono ?_
    rintro e w7 ⟨rfl, hb7⟩
    have HB7 : Hid (Below w.heap.size w w7) := Lib.hid (HB6.out.trans (hb7.mono HB6.out.size))
    have HC7 := Lib.hid (HC6.out.below hb7)
    have HF7 := Lib.hid (HF6.out.below hb7)
    have z0 := below_c hb7 hlt6 f0
    have z1 := below_c hb7 hlt6 f1
    have z2 := below_c hb7 hlt6 f2
    have hnn2 : (N != N) = false := by simp
    clear hb7 HP6 HB6 HC6 HF6 f0 f1 f2 hlt6
    go_wp2_with fail
    go_roundg (gk - 1)
    case measure => omega
    case rel => exact ⟨k + 1, by omega, by go_num, HC7, HB7, HF7, z0, z1, z2⟩
  obtain rfl : fn = k := by omega
  have hdk : decide ((fn : Int) < fn) = false := by simp
  have hdk' : decide (fn < fn) = false := decide_eq_false (by omega)
  go_wp2_with fail
  go_ret
  exact ⟨rfl, HBX.out⟩
end Go.Proofs.YthanfjpmcckbhaaGreatDoor
