/- (Counter seat) Walk: the statement CounterKeeps. No condition but that the table of powers lies as laid. -/
import Derived.Test.YthanfjpmcckbhaaGreatDoorZg
namespace Go.Proofs.YthanfjpmcckbhaaGreatDoor
open Go.ChangeShapes Go.WideShapes Go.ChangeAt Go.RowKit
set_option linter.unusedVariables false
set_option linter.unusedSimpArgs false

theorem check_keep {vars keep k : Int} {cs : List (List Int)} (h : checkM vars keep cs = 0) (h0 : 0 ≤ k ∧ k ≤ vars) : checkM vars k cs = 0 := by
  unfold checkM at h ⊢
  by_cases h1 : vars < 0 ∨ keep < 0 ∨ vars < keep
  · rw [if_pos h1] at h; cases h
  rw [if_neg h1] at h
  rw [if_neg (by omega)]
  exact h
theorem asked_keep {vars keep k : Int} {cs : List (List Int)} (h : askedM vars keep cs [] = 0) (h0 : 0 ≤ k ∧ k ≤ vars) (h9 : vars ≤ 9) : askedM vars k cs [] = 0 := by
  obtain ⟨h1, _, _⟩ := asked_ok h
  unfold askedM
  rw [check_keep h1 h0, if_neg (by simp), if_neg (by simp), if_neg (by omega)]
theorem cw_keeps (cs : List (List Int)) (k : Nat) : cwN k cs [] ≤ cwN ((k + 1 : Nat) : Int) cs [] ∧ cwN ((k + 1 : Nat) : Int) cs [] ≤ 2 * cwN k cs [] := by
  unfold cwN
  rw [Int.toNat_natCast, Int.toNat_natCast]
  obtain ⟨h1, h2⟩ := cnt_keeps (fun f => Ev cs f ∧ LitsT [] f) k
  generalize cntN (fun f => Ev cs f ∧ LitsT [] f) (ivl 0 k) = a at *
  generalize cntN (fun f => Ev cs f ∧ LitsT [] f) (ivl 0 (k + 1)) = b at *
  omega
theorem cw_zero (cs : List (List Int)) : cwN ((0 : Nat) : Int) cs [] = 0 ∨ cwN ((0 : Nat) : Int) cs [] = 1 := by
  unfold cwN
  rw [Int.toNat_natCast]
  have h := cnt_zero_bit (fun f => Ev cs f ∧ LitsT [] f)
  generalize cntN (fun f => Ev cs f ∧ LitsT [] f) (ivl 0 0) = a at *
  omega
set_option maxRecDepth 100000 in
set_option maxHeartbeats 16000000 in
theorem lawKeeps_any (vars keep : Int) (cv : Value) (cs : List (List Int)) (w : World) (hc : Clss (fun _ => True) w cv cs) (hiv : I64 vars) (hik : I64 keep) (htab : TabB w.heap.size w) :
    Calls Tryz.prog 8 #[.agg #[.int .i64 vars, .int .i64 keep, cv]] w (BoolPost w true) := by
  obtain ⟨ca, cn, cc, rfl, _, _⟩ := hc.form'
  obtain ⟨bb, hbb⟩ : ∃ b, w.heap.size = b := ⟨_, rfl⟩
  obtain ⟨W1, hW1⟩ : ∃ W, w.alloc (.cells #[.int .i64 vars, .int .i64 keep, .slice ca cn cc] 24) = W := ⟨_, rfl⟩
  have hb1 : Below w.heap.size w W1 := by rw [← hW1]; exact (Below.refl _ _).alloc (Nat.le_refl _) _
  have hr0 : W1.heap[bb]? = some (.cells #[.int .i64 vars, .int .i64 keep, .slice ca cn cc] 24) := by rw [← hW1]; exact new_at' _ _ hbb.symm
  have c0 : W1.cell? ⟨bb, 0, none⟩ = some (.int .i64 vars) := by rw [cell_of_row _ _ _ _ _ _ hr0]; rfl
  have c1 : W1.cell? ⟨bb, 1, none⟩ = some (.int .i64 keep) := by rw [cell_of_row _ _ _ _ _ _ hr0]; rfl
  have c2 : W1.cell? ⟨bb, 2, none⟩ = some (.slice ca cn cc) := by rw [cell_of_row _ _ _ _ _ _ hr0]; rfl
  have hlt1 := block_lt c0
  have HC := Lib.hid (hc.below hb1)
  have HB1 := Lib.hid hb1
  have HIV := Lib.hid hiv
  have HIK := Lib.hid hik
  have ht1 : TabB W1.heap.size W1 := (htab.below hb1 (Nat.le_refl _)).up hb1.size
  have HT1 := Lib.hid ht1
  have HKN := Lib.hid (known_any W1 ht1)
  clear hc hr0 hb1 hiv hik htab ht1
  go_enter Tryz.func8, Tryz.ntmps8
  go_wp2_with fail
  try rw [hW1]
  try rw [hbb]
  clear hW1 hbb
  refine HKN.out.mono ?_
  rintro e w2 ⟨rfl, hb2⟩
  have HB2 : Hid (Below w.heap.size w w2) := Lib.hid (HB1.out.trans (hb2.mono HB1.out.size))
  have HC2 := Lib.hid (HC.out.below hb2)
  have HT2 : Hid (TabB w2.heap.size w2) := Lib.hid ((HT1.out.below hb2 (Nat.le_refl _)).up hb2.size)
  have y0 := below_c hb2 hlt1 c0
  have y1 := below_c hb2 hlt1 c1
  have y2 := below_c hb2 hlt1 c2
  have hlt2 := block_lt y0
  clear hb2 HKN HB1 HC HT1 c0 c1 c2 hlt1
  have hfw := lfew_any _ vars keep _ cs w2 HC2.out HIV.out HIK.out
  obtain ⟨B1, hB1⟩ : ∃ B, fewB vars keep cs = B := ⟨_, rfl⟩
  rw [hB1] at hfw
  have HFW := Lib.hid hfw
  have HBF := Lib.hid hB1
  clear hfw hB1
  go_wp2_with fail
  refine HFW.out.mono ?_
  rintro e w3 ⟨rfl, hb3⟩
  have HB3 : Hid (Below w.heap.size w w3) := Lib.hid (HB2.out.trans (hb3.mono HB2.out.size))
  have HC3 := Lib.hid (HC2.out.below hb3)
  have HT3 : Hid (TabB w3.heap.size w3) := Lib.hid ((HT2.out.below hb3 (Nat.le_refl _)).up hb3.size)
  have z0 := below_c hb3 hlt2 y0
  have z1 := below_c hb3 hlt2 y1
  have z2 := below_c hb3 hlt2 y2
  have hlt3 := block_lt z0
  clear hb3 HFW HB2 HC2 HT2 y0 y1 y2 hlt2
  rcases bool2 B1 with rfl | rfl
  rotate_left
  · go_wp2_with fail
    go_ret
    exact ⟨rfl, HB3.out⟩
  obtain ⟨hsz, h9f, hl40, hl14⟩ := fewB_ok HBF.out
  have HSZ := Lib.hid hsz
  have H9F := Lib.hid h9f
  have HLL := Lib.hid (And.intro hl40 hl14)
  clear hsz h9f hl40 hl14 HBF
  have hak := lasked_any _ (fun _ => True) vars keep _ (.slice none 0 0) cs [] w3 HC3.out (Ints.nil _ _) HIV.out HIK.out HSZ.out
  obtain ⟨A, hA⟩ : ∃ A, askedM vars keep cs [] = A := ⟨_, rfl⟩
  rw [hA] at hak
  have HAK := Lib.hid hak
  have HA := Lib.hid hA
  clear hak hA
  go_wp2_with fail
  refine HAK.out.mono ?_
  rintro e w4 ⟨rfl, hb4⟩
  have HB4 : Hid (Below w.heap.size w w4) := Lib.hid (HB3.out.trans (hb4.mono HB3.out.size))
  have HC4 := Lib.hid (HC3.out.below hb4)
  have HT4 : Hid (TabB w4.heap.size w4) := Lib.hid ((HT3.out.below hb4 (Nat.le_refl _)).up hb4.size)
  have y0 := below_c hb4 hlt3 z0
  have y1 := below_c hb4 hlt3 z1
  have y2 := below_c hb4 hlt3 z2
  clear hb4 HAK HB3 HC3 HT3 z0 z1 z2 hlt3
  by_cases hA0 : A = 0
  rotate_left
  · have hd : (A != 0) = true := by simp; exact hA0
    clear hA0
    go_wp2_with fail
    go_ret
    exact ⟨rfl, HB4.out⟩
  subst hA0
  have hd : ((0 : Int) != 0) = false := by decide
  obtain ⟨hcc, _, _⟩ := asked_ok HA.out
  have h9 := H9F.out hcc
  have hdm := check_dims hcc
  obtain ⟨V, hV⟩ := Int.eq_ofNat_of_zero_le (show 0 ≤ vars by omega)
  subst hV
  have hV9 : V ≤ 9 := by omega
  have HCC := Lib.hid hcc
  clear hcc h9 hdm
  go_wp2_with fail
  go_loopg [3, 4] (V + 1) (fun gg u3 u4 wx => ∃ (j : Nat) (last : Int), j + gg = V + 1 ∧ u4 = .int .i64 (j : Nat) ∧ u3 = .int .i64 last ∧ Hid ((j = 0 → last = 0) ∧ ∀ i : Nat, j = i + 1 → last = cwN i cs []) ∧ Hid (Clss (fun _ => True) wx (.slice ca cn cc) cs) ∧ Hid (Below w.heap.size w wx) ∧ Hid (TabB wx.heap.size wx) ∧ wx.cell? ⟨bb, 0, none⟩ = some (.int .i64 (V : Nat)) ∧ wx.cell? ⟨bb, 1, none⟩ = some (.int .i64 keep) ∧ wx.cell? ⟨bb, 2, none⟩ = some (.slice ca cn cc))
  case atStart => exact ⟨0, 0, by omega, rfl, rfl, Lib.hid ⟨fun _ => rfl, fun i h => by omega⟩, HC4, HB4, HT4, y0, y1, y2⟩
  case round =>
  clear HC4 HB4 HT4 y0 y1 y2
  obtain ⟨j, last, hjg, rfl, rfl, HL, HCX, HBX, HTX, y0, y1, y2⟩ := hrel
  by_cases hj : j ≤ V
  · have hdj : decide ((j : Int) ≤ V) = true := by simp; omega
    have hdj' : decide (j ≤ V) = true := decide_eq_true hj
    have hltx := block_lt y0
    obtain ⟨db, hdb⟩ : ∃ b, wr.heap.size = b := ⟨_, rfl⟩
    obtain ⟨W5, hW5⟩ : ∃ W, wr.alloc (.cells #[.int .i64 (V : Nat), .int .i64 (j : Nat), .slice ca cn cc] 24) = W := ⟨_, rfl⟩
    have hb5 : Below wr.heap.size wr W5 := by rw [← hW5]; exact (Below.refl _ _).alloc (Nat.le_refl _) _
    have hr5 : W5.heap[db]? = some (.cells #[.int .i64 (V : Nat), .int .i64 (j : Nat), .slice ca cn cc] 24) := by rw [← hW5]; exact new_at' _ _ hdb.symm
    have d0 : W5.cell? ⟨db, 0, none⟩ = some (.int .i64 (V : Nat)) := by rw [cell_of_row _ _ _ _ _ _ hr5]; rfl
    have d1 : W5.cell? ⟨db, 1, none⟩ = some (.int .i64 (j : Nat)) := by rw [cell_of_row _ _ _ _ _ _ hr5]; rfl
    have d2 : W5.cell? ⟨db, 2, none⟩ = some (.slice ca cn cc) := by rw [cell_of_row _ _ _ _ _ _ hr5]; rfl
    have HC5 := Lib.hid (HCX.out.below hb5)
    have ht5 : TabB W5.heap.size W5 := (HTX.out.below hb5 (Nat.le_refl _)).up hb5.size
    have HCT := Lib.hid (pcount_any _ V j _ cs W5 HC5.out ⟨by omega, by omega⟩ ⟨by omega, by omega⟩ HSZ.out (fun _ => by omega) ht5)
    have hask := asked_keep (k := (j : Int)) HA.out ⟨by omega, by omega⟩ (by omega)
    have HASK := Lib.hid hask
    have HT5 := Lib.hid ht5
    have HB5 : Hid (Below w.heap.size w W5) := Lib.hid (HBX.out.trans (hb5.mono HBX.out.size))
    have e0 := below_c hb5 hltx y0
    have e1 := below_c hb5 hltx y1
    have e2 := below_c hb5 hltx y2
    have hlt5 := block_lt e0
    clear hask ht5 hb5 hr5 HCX HBX HTX hltx
    go_wp2_with fail
    try rw [hW5]
    try rw [hdb]
    trace "J1"
    refine HCT.out.mono ?_
    rintro e w6 ⟨n, c, rfl, q1, q2, q3, hb6⟩
    rw [HASK.out] at q1
    subst q1
    have hn := q3 rfl
    have HB6 : Hid (Below w.heap.size w w6) := Lib.hid (HB5.out.trans (hb6.mono HB5.out.size))
    have HC6 := Lib.hid (HC5.out.below hb6)
    have HT6 : Hid (TabB w6.heap.size w6) := Lib.hid ((HT5.out.below hb6 (Nat.le_refl _)).up hb6.size)
    have f0 := below_c hb6 hlt5 e0
    have f1 := below_c hb6 hlt5 e1
    have f2 := below_c hb6 hlt5 e2
    have HNX : Hid (∀ i : Nat, j + 1 = i + 1 → n = cwN i cs []) := Lib.hid fun i h => by
      have : i = j := by omega
      subst this
      exact hn
    have hle := cwN_le (keep := (j : Int)) (cs := cs) (ls := []) (by omega)
    rw [← hn] at hle
    have hd0 : ((0 : Int) != 0) = false := by decide
    clear y0 y1 y2 q2 q3 hb6 HCT HB5 HC5 HT5 e0 e1 e2 d0 d1 d2 hW5 hdb hlt5
    rcases j with _ | i
    · have hb := cw_zero cs
      rw [← hn] at hb
      have hl := HL.out.1 rfl
      subst hl
      have hj0 : (((0 : Nat) : Int) == 0) = true := by decide
      have hj1 : decide ((0 : Int) < ((0 : Nat) : Int)) = false := by decide
      have hj1' : decide ((0 : Nat) < 0) = false := by decide
      clear HL hn hle
      rcases hb with rfl | rfl
      · go_wp2_with fail
        go_roundg (gk - 1)
        case measure => omega
        case rel => exact ⟨0 + 1, 0, by omega, by go_num, rfl, Lib.hid ⟨fun h => by omega, HNX.out⟩, HC6, HB6, HT6, f0, f1, f2⟩
      · have h10 : ((1 : Int) != 0) = true := by decide
        have h11 : ((1 : Int) != 1) = false := by decide
        go_wp2_with fail
        go_roundg (gk - 1)
        case measure => omega
        case rel => exact ⟨0 + 1, 1, by omega, by go_num, rfl, Lib.hid ⟨fun h => by omega, HNX.out⟩, HC6, HB6, HT6, f0, f1, f2⟩
    · have hk := cw_keeps cs i
      rw [← hn, ← HL.out.2 i rfl] at hk
      have hj0 : (((i + 1 : Nat) : Int) == 0) = false := by rw [beq_eq_false_iff_ne]; omega
      have hj1 : decide ((0 : Int) < ((i + 1 : Nat) : Int)) = true := decide_eq_true (by omega)
      have hj1' : decide (0 < i + 1) = true := decide_eq_true (by omega)
      have hm : IntKind.i64.wrap (2 * last) = 2 * last := IntWalk.i64_in _ ⟨by omega, by omega⟩
      have hm1 : decide (n < last) = false := decide_eq_false (by omega)
      have hm2 : decide (2 * last < n) = false := decide_eq_false (by omega)
      obtain ⟨J, hJ⟩ : ∃ J : Nat, i + 1 = J := ⟨_, rfl⟩
      rw [hJ] at hj hj0 hj1 hj1' hjg HNX ⊢
      clear HL hn hk hle hJ
      go_wp2_with fail
      go_roundg (gk - 1)
      case measure => omega
      case rel => exact ⟨J + 1, n, by omega, by go_num, rfl, Lib.hid ⟨fun h => by omega, HNX.out⟩, HC6, HB6, HT6, f0, f1, f2⟩
  have hdj : decide ((j : Int) ≤ V) = false := by simp; omega
  have hdj' : decide (j ≤ V) = false := decide_eq_false hj
  go_wp2_with fail
  go_ret
  exact ⟨rfl, HBX.out⟩
end Go.Proofs.YthanfjpmcckbhaaGreatDoor
