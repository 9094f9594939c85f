/- (Text seat) Walk: the statement CnfParse. Condition: the tables and strconv.ErrSyntax lie as laid. -/
import Derived.Test.YthkpobipndifoaaGreatDoorMx
import Derived.Test.YthkpobipndifoaaGreatDoorQj
import Derived.Test.YthkpobipndifoaaGreatDoorQk
namespace Go.Proofs.YthkpobipndifoaaGreatDoor
open Go.ChangeShapes Go.WideShapes Go.ChangeAt Go.RowKit Go.Lib
set_option linter.unusedVariables false
set_option linter.unusedSimpArgs false

theorem clsT_mem_le {c : List Int} : ∀ {cs : List (List Int)}, c ∈ cs → c.length ≤ (clsT cs).length
  | d :: cs, h => by
    rw [clsT, List.length_append, List.length_append]
    rcases List.mem_cons.1 h with h | h
    · subst h
      have := litsT_len c
      omega
    · have := clsT_mem_le h
      omega
theorem text_lens (v k : Int) (cs : List (List Int)) : cs.length ≤ (textM v k cs).length ∧ ∀ c ∈ cs, c.length ≤ (textM v k cs).length := by
  have h : (clsT cs).length ≤ (textM v k cs).length := by unfold textM; rw [List.length_append]; omega
  exact ⟨Nat.le_trans (clsT_len cs) h, fun c hc => Nat.le_trans (clsT_mem_le hc) h⟩
set_option maxRecDepth 100000 in
set_option maxHeartbeats 8000000 in
theorem CnfParse_any (S : ByteArray) (w : World) (ht : TabT w.heap.size w) (hy : SynT w.heap.size w) :
    Calls Tryz.prog 3 #[.string S] w (BoolPost w true) := by
  obtain ⟨t, htt⟩ : ∃ t, S.data.toList = t := ⟨_, rfl⟩
  have hT : S = BA t := by rw [← htt]
  have hsz : S.size = t.length := by rw [hT, ba_size]
  have HKN := Lib.hid (known_any w)
  have HT := Lib.hid ht
  have HY := Lib.hid hy
  clear ht hy htt
  go_enter Tryz.func3, Tryz.ntmps3
  go_wp2_with fail
  refine HKN.out.mono ?_
  rintro e w2 ⟨rfl, hb2⟩
  have HB2 := Lib.hid hb2
  by_cases hbig : 2000 < S.size
  · have d1 : decide (2000 < (S.size : Int)) = true := decide_eq_true (by omega)
    have d1' : decide (2000 < S.size) = true := decide_eq_true hbig
    clear hT hsz hb2
    go_wp2_with fail
    go_ret
    exact ⟨rfl, HB2.out⟩
  have d1 : decide (2000 < (S.size : Int)) = false := decide_eq_false (by omega)
  have d1' : decide (2000 < S.size) = false := decide_eq_false hbig
  have HPA := Lib.hid (parse_any w.heap.size S t w2 hT (by omega) (HT.out.below hb2 (Nat.le_refl _)) (HY.out.below hb2 (Nat.le_refl _)) hb2.size)
  have htl : t.length ≤ 2000 := by omega
  have HTL := Lib.hid htl
  have HTE := Lib.hid hT
  clear hb2 HKN hT hsz hbig htl
  go_wp2_with fail
  refine HPA.out.mono ?_
  rintro e w3 ⟨v, rfl, hcl, hb3⟩
  obtain ⟨⟨V, K, CS, E⟩, hR⟩ : ∃ x, resV (parseM t) = x := ⟨_, rfl⟩
  rw [hR] at hcl ⊢
  have hcl : Clss (fun _ => True) w3 v CS := hcl
  obtain ⟨ca, cn, cc, rfl, HCN, _⟩ := hcl.form'
  obtain ⟨D, hD⟩ : ∃ g, w3.heap.size = g := ⟨_, rfl⟩
  obtain ⟨W4, hW4⟩ : ∃ W, w3.alloc (.cells #[.int .i64 V, .int .i64 K, .slice ca cn cc] 25) = W := ⟨_, rfl⟩
  have hb4 : Below w3.heap.size w3 W4 := by rw [← hW4]; exact (Below.refl _ _).alloc (Nat.le_refl _) _
  have hr4 : W4.heap[D]? = some (.cells #[.int .i64 V, .int .i64 K, .slice ca cn cc] 25) := by rw [← hW4]; exact new_at' _ _ hD.symm
  have c0 : W4.cell? ⟨D, 0, none⟩ = some (.int .i64 V) := by rw [cell_of_row _ _ _ _ _ _ hr4]; rfl
  have c1 : W4.cell? ⟨D, 1, none⟩ = some (.int .i64 K) := by rw [cell_of_row _ _ _ _ _ _ hr4]; rfl
  have c2 : W4.cell? ⟨D, 2, none⟩ = some (.slice ca cn cc) := by rw [cell_of_row _ _ _ _ _ _ hr4]; rfl
  have HB4 : Hid (Below w.heap.size w W4) := Lib.hid ((HB2.out.trans (hb3.mono HB2.out.size)).trans (hb4.mono (Nat.le_trans HB2.out.size hb3.size)))
  have HC4 := Lib.hid (Clss.below hcl hb4)
  have HRR := Lib.hid hR
  have HW4 := Lib.hid hW4
  have HDD := Lib.hid hD
  clear hb3 hb4 hr4 hcl hR hW4 hD HPA
  have hval : (parseM t = none ∨ (∃ v k cs, parseM t = some (v, k, cs) ∧ checkM v k cs ≠ 0)) ∨ ∃ v k cs, parseM t = some (v, k, cs) ∧ checkM v k cs = 0 := by
    rcases parseM t with _ | ⟨v, k, cs⟩
    · exact .inl (.inl rfl)
    · by_cases h : checkM v k cs = 0
      · exact .inr ⟨v, k, cs, rfl, h⟩
      · exact .inl (.inr ⟨v, k, cs, rfl, h⟩)
  rcases hval with hv | ⟨v, k, cs, hv, hc⟩
  · have h6 : resV (parseM t) = (0, 0, [], 6) := by
      rcases hv with h | ⟨v, k, cs, h, h2⟩
      · rw [h]; rfl
      · rw [h, show resV (some (v, k, cs)) = if checkM v k cs = 0 then (v, k, cs, 0) else (0, 0, [], 6) from rfl, if_neg h2]
    have h := HRR.out
    rw [h6] at h
    injection h with e1 h
    injection h with e2 h
    injection h with e3 e4
    subst e1 e2 e3 e4
    have hcn : cn = 0 := HCN.out
    subst hcn
    clear h6 hv
    go_upto_region 6 with fail
    try rw [HW4.out, HDD.out]
    go_wp2_with fail
    go_ret
    exact ⟨rfl, HB4.out⟩
  · have h0 : resV (parseM t) = (v, k, cs, 0) := by rw [hv, show resV (some (v, k, cs)) = if checkM v k cs = 0 then (v, k, cs, 0) else (0, 0, [], 6) from rfl, if_pos hc]
    have h := HRR.out
    rw [h0] at h
    injection h with e1 h
    injection h with e2 h
    injection h with e3 e4
    subst e1 e2 e3 e4
    have htx := parse_no hv
    obtain ⟨hr1, hr2, hr3, hr4⟩ := check_rng' hc
    obtain ⟨hl1, hl2⟩ := text_lens v k cs
    rw [htx] at hl1 hl2
    have HLC := Lib.hid (lcheck_any _ v k _ cs W4 HC4.out (by unfold I64; omega) (by unfold I64; omega) (by omega) (fun c hcm => by have := hl2 c hcm; have := HTL.out; omega))
    rw [hc] at HLC
    have HTXT : Hid (∀ W, Below W4.heap.size W4 W → Calls Tryz.prog 8 #[.agg #[.int .i64 v, .int .i64 k, .slice ca cn cc]] W (TxPost W (textM v k cs))) := Lib.hid fun W hW => ltext_any _ v k _ cs W (Clss.below HC4.out hW) (by omega) (by omega) (by omega) (fun c hcm => by have := hl2 c hcm; have := HTL.out; omega) (fun c hcm x hx => by have := (hr4 c hcm x hx).2; omega)
    have HTX := Lib.hid htx
    clear h0 hv hc htx hr1 hr2 hr3 hr4 hl1 hl2
    go_upto_region 6 with fail
    try rw [HW4.out, HDD.out]
    go_wp2_with fail
    refine HLC.out.mono ?_
    rintro e w5 ⟨rfl, hb5⟩
    have c0 := below_c hb5 (block_lt c0) c0
    have c1 := below_c hb5 (block_lt c1) c1
    have c2 := below_c hb5 (block_lt c2) c2
    have HTC := Lib.hid (HTXT.out _ hb5)
    have HB5 := Lib.hid (HB4.out.trans (hb5.mono HB4.out.size))
    clear hb5 HLC HTXT
    go_wp2_with fail
    refine HTC.out.mono ?_
    rintro e w6 ⟨U, rfl, HU, hb6⟩
    have hUS : U = S := by rw [HU.out, HTX.out, HTE.out]
    subst hUS
    have hUU : (U.toList == U.toList) = true := by simp
    have HB6 := Lib.hid (HB5.out.trans (hb6.mono HB5.out.size))
    clear hb6 HU HTC
    go_wp2_with fail
    go_ret
    exact ⟨by simp, HB6.out⟩
end Go.Proofs.YthkpobipndifoaaGreatDoor
