/- (Text seat) Walk: the statement CnfText. Condition: the tables and strconv.ErrSyntax lie as laid. -/
import Derived.Test.YthkpobipndifoaaGreatDoorMx
import Derived.Test.YthkpobipndifoaaGreatDoorQj
import Derived.Test.YthkpobipndifoaaGreatDoorQk
import Derived.Test.YthkpobipndifoaaGreatDoorKq
namespace Go.Proofs.YthkpobipndifoaaGreatDoor
open Go.ChangeShapes Go.WideShapes Go.ChangeAt Go.RowKit Go.Lib
set_option linter.unusedVariables false
set_option linter.unusedSimpArgs false

theorem few_lens {cs : List (List Int)} {m l : Int} (h : fewC cs m l = true) : (cs.length : Int) ≤ m ∧ ∀ c ∈ cs, (c.length : Int) ≤ l := by
  unfold fewC at h
  rw [Bool.and_eq_true, decide_eq_true_eq] at h
  exact ⟨h.1, fewGo_len cs l h.2⟩
theorem text_few {v k : Int} {cs : List (List Int)} (hc : checkM v k cs = 0) (hl : (cs.length : Int) ≤ 60) (hll : ∀ c ∈ cs, (c.length : Int) ≤ 300) : (textM v k cs).length ≤ 4194304 := by
  obtain ⟨hr1, hr2, hr3, hr4⟩ := check_rng' hc
  have h1 := headT_len (v := v) (n := cs.length) (k := k) (by omega) ⟨by omega, by omega⟩ (by omega)
  have h2 : (clsT cs).length ≤ cs.length * 6400 := clsT_bound fun c hcm => by
    have h3 := litsT_bound (m := 20) (c := c) fun x hx => itoa_len20 (by have := (hr4 c hcm x hx).2; omega) (by have := (hr4 c hcm x hx).2; omega)
    have := hll c hcm
    omega
  unfold textM
  rw [List.length_append]
  omega
/-- what reading the printed text gives -/
theorem text_again {v k : Int} {cs : List (List Int)} (hc : checkM v k cs = 0) : resV (parseM (textM v k cs)) = (v, k, cs, 0) := by
  obtain ⟨hr1, hr2, hr3, hr4⟩ := check_rng' hc
  rw [parse_yes (by unfold SmN; omega) (by unfold SmN; omega) (by unfold SmN; omega) (fun c hcm x hx => ⟨(hr4 c hcm x hx).1, by have := (hr4 c hcm x hx).2; unfold SmN; omega⟩)]
  show (if checkM v k cs = 0 then _ else _) = _
  rw [if_pos hc]
set_option maxRecDepth 100000 in
set_option maxHeartbeats 8000000 in
theorem CnfText_any (F : Nat → Prop) (vars keep : Int) (cv : Value) (cs : List (List Int)) (w : World) (hx : Clss F w cv cs) (hv : I64 vars) (hk : I64 keep) (ht : TabT w.heap.size w) (hy : SynT w.heap.size w) :
    Calls Tryz.prog 4 #[.agg #[.int .i64 vars, .int .i64 keep, cv]] w (BoolPost w true) := by
  obtain ⟨a, n, c, rfl, HN, hn⟩ := hx.form'
  obtain ⟨W1, hW1⟩ : ∃ W, w.alloc (.cells #[.int .i64 vars, .int .i64 keep, .slice a n c] 25) = W := ⟨_, rfl⟩
  have hb : Below w.heap.size w W1 := by rw [← hW1]; exact (Below.refl _ _).alloc (Nat.le_refl _) _
  have k0 : W1.cell? ⟨w.heap.size, 0, none⟩ = some (.int .i64 vars) := by rw [← hW1]; simp
  have k1 : W1.cell? ⟨w.heap.size, 1, none⟩ = some (.int .i64 keep) := by rw [← hW1]; simp
  have k2 : W1.cell? ⟨w.heap.size, 2, none⟩ = some (.slice a n c) := by rw [← hW1]; simp
  have HX1 := Lib.hid (hx.below hb)
  have HB1 := Lib.hid hb
  have HV := Lib.hid hv
  have HK := Lib.hid hk
  have HT := Lib.hid ht
  have HY := Lib.hid hy
  clear hx hb hv hk ht hy
  go_enter Tryz.func4, Tryz.ntmps4
  go_wp2_with fail
  clear hW1
  refine (known_any W1).mono ?_
  rintro e w2 ⟨rfl, hb2⟩
  have m0 := below_c hb2 (block_lt k0) k0
  have m1 := below_c hb2 (block_lt k1) k1
  have m2 := below_c hb2 (block_lt k2) k2
  have HX2 := Lib.hid (HX1.out.below hb2)
  have HB2 : Hid (Below w.heap.size w w2) := Lib.hid (HB1.out.trans (hb2.mono HB1.out.size))
  obtain ⟨Fw, hFw⟩ : ∃ b, fewC cs 60 300 = b := ⟨_, rfl⟩
  have hfew := lfew_any F (.slice a n c) cs 60 300 w2 HX2.out (by omega) (by omega)
  rw [hFw] at hfew
  have HFEW := Lib.hid hfew
  have HFW := Lib.hid hFw
  clear hb2 k0 k1 k2 HX1 HB1 hfew hFw
  go_wp2_with fail
  refine HFEW.out.mono ?_
  rintro e w3 ⟨rfl, rfl⟩
  rcases bool2 Fw with rfl | rfl
  case inr =>
    go_wp2_with fail
    go_ret
    exact ⟨rfl, HB2.out⟩
  obtain ⟨hl, hll⟩ := few_lens HFW.out
  have HPR := Lib.hid (print_any F w.heap.size vars keep (.slice a n c) cs w3 HX2.out HV.out HK.out (by omega) (fun d hd => by have := hll d hd; omega) (fun hc => text_few hc hl hll) (HT.out.below HB2.out (Nat.le_refl _)) HB2.out.size)
  have HLL := Lib.hid (And.intro hl hll)
  clear HFEW HFW hl hll
  go_wp2_with fail
  refine HPR.out.mono ?_
  rintro e w4 ⟨S, rfl, HS, hb4⟩
  have c0 := below_c hb4 (block_lt m0) m0
  have c1 := below_c hb4 (block_lt m1) m1
  have c2 := below_c hb4 (block_lt m2) m2
  have HX4 := Lib.hid (HX2.out.below hb4)
  have HB4 : Hid (Below w.heap.size w w4) := Lib.hid (HB2.out.trans (hb4.mono HB2.out.size))
  have HLC := Lib.hid (lcheck_any F vars keep (.slice a n c) cs w4 HX4.out HV.out HK.out (by have := HLL.out.1; omega) (fun d hd => by have := HLL.out.2 d hd; omega))
  clear hb4 m0 m1 m2 HPR HX2 HB2
  obtain ⟨CK, hCK⟩ : ∃ k, checkM vars keep cs = k := ⟨_, rfl⟩
  rw [hCK] at HS HLC ⊢
  have HCK := Lib.hid hCK
  clear hCK
  go_wp2_with fail
  refine HLC.out.mono ?_
  rintro e w5 ⟨rfl, hb5⟩
  have c0 := below_c hb5 (block_lt c0) c0
  have c1 := below_c hb5 (block_lt c1) c1
  have c2 := below_c hb5 (block_lt c2) c2
  have HX5 := Lib.hid (HX4.out.below hb5)
  have HB5 : Hid (Below w.heap.size w w5) := Lib.hid (HB4.out.trans (hb5.mono HB4.out.size))
  clear hb5 HLC HX4 HB4
  by_cases hz : CK = 0
  case neg =>
    have e1 : S = ⟨#[]⟩ := by have := HS.out; rw [if_neg hz] at this; exact this
    subst e1
    clear HS
    go_wp2_with fail
    go_ret
    exact ⟨by simp, HB5.out⟩
  subst hz
  have hc := HCK.out
  have hag := text_again hc
  have hts : S = BA (textM vars keep cs) := by have := HS.out; rw [if_pos rfl] at this; exact this
  have htf := text_few hc HLL.out.1 HLL.out.2
  have htx : Hid (∀ W, Below w5.heap.size w5 W → Calls Tryz.prog 8 #[.agg #[.int .i64 vars, .int .i64 keep, .slice a n c]] W (TxPost W (textM vars keep cs))) := Lib.hid fun W hW => by
    obtain ⟨hr1, hr2, hr3, hr4⟩ := check_rng' hc
    exact ltext_any F vars keep _ cs W (HX5.out.below hW) (by omega) (by omega) (by omega) (fun d hd => by have := HLL.out.2 d hd; omega) (fun d hd x hx => by have := (hr4 d hd x hx).2; omega)
  obtain ⟨t, ht⟩ : ∃ t, textM vars keep cs = t := ⟨_, rfl⟩
  rw [ht] at hag hts htf htx
  have HPA := Lib.hid (parse_any w.heap.size S t w5 hts htf (HT.out.below HB5.out (Nat.le_refl _)) (HY.out.below HB5.out (Nat.le_refl _)) HB5.out.size)
  have HTS := Lib.hid hts
  have HAG := Lib.hid hag
  clear HS hc hag hts htf ht HLL HCK
  go_wp2_with fail
  refine HPA.out.mono ?_
  rintro e w6 ⟨v, rfl, hcl, hb6⟩
  rw [HAG.out] at hcl ⊢
  have hcl : Clss (fun _ => True) w6 v cs := hcl
  obtain ⟨da, dn, dc, rfl, HDN, _⟩ := hcl.form'
  obtain ⟨D, hD⟩ : ∃ g, w6.heap.size = g := ⟨_, rfl⟩
  obtain ⟨W7, hW7⟩ : ∃ W, w6.alloc (.cells #[.int .i64 vars, .int .i64 keep, .slice da dn dc] 25) = W := ⟨_, rfl⟩
  have hb7 : Below w6.heap.size w6 W7 := by rw [← hW7]; exact (Below.refl _ _).alloc (Nat.le_refl _) _
  have hr7 : W7.heap[D]? = some (.cells #[.int .i64 vars, .int .i64 keep, .slice da dn dc] 25) := by rw [← hW7]; exact new_at' _ _ hD.symm
  have hb57 : Below w5.heap.size w5 W7 := hb6.trans (hb7.mono hb6.size)
  have c0 := below_c hb57 (block_lt c0) c0
  have c1 := below_c hb57 (block_lt c1) c1
  have c2 := below_c hb57 (block_lt c2) c2
  have d0 : W7.cell? ⟨D, 0, none⟩ = some (.int .i64 vars) := by rw [cell_of_row _ _ _ _ _ _ hr7]; rfl
  have d1 : W7.cell? ⟨D, 1, none⟩ = some (.int .i64 keep) := by rw [cell_of_row _ _ _ _ _ _ hr7]; rfl
  have d2 : W7.cell? ⟨D, 2, none⟩ = some (.slice da dn dc) := by rw [cell_of_row _ _ _ _ _ _ hr7]; rfl
  have HB7 : Hid (Below w.heap.size w W7) := Lib.hid (HB5.out.trans (hb57.mono HB5.out.size))
  have HX7 := Lib.hid (HX5.out.below hb57)
  have HC7 := Lib.hid (Clss.below hcl hb7)
  have HTC := Lib.hid (htx.out _ hb57)
  have HW7 := Lib.hid hW7
  have HDD := Lib.hid hD
  clear hb6 hb7 hb57 hr7 hcl hW7 hD HPA htx HX5 HB5 HAG
  go_upto_region 10 with fail
  try rw [HW7.out, HDD.out]
  go_wp2_with fail
  refine HTC.out.mono ?_
  rintro e w8 ⟨U, rfl, HU, hb8⟩
  have hUS : U = S := by rw [HU.out, HTS.out]
  subst hUS
  have hUU : (U.toList == U.toList) = true := by simp
  have c0 := below_c hb8 (block_lt c0) c0
  have c1 := below_c hb8 (block_lt c1) c1
  have c2 := below_c hb8 (block_lt c2) c2
  have d0 := below_c hb8 (block_lt d0) d0
  have d1 := below_c hb8 (block_lt d1) d1
  have d2 := below_c hb8 (block_lt d2) d2
  have HB8 : Hid (Below w.heap.size w w8) := Lib.hid (HB7.out.trans (hb8.mono HB7.out.size))
  have hle := lequal_any (.slice da dn dc) (.slice a n c) cs cs w8 (Clss.below HC7.out hb8) (HX7.out.below hb8)
  rw [show (cs == cs) = true by simp] at hle
  have HLE := Lib.hid hle
  clear hb8 HU HTC hle HB7 HX7 HC7
  go_wp2_with fail
  refine HLE.out.mono ?_
  rintro e w9 ⟨rfl, m, rfl⟩
  go_wp2_with fail
  go_ret
  exact ⟨by simp, below_drewN HB8.out m⟩
end Go.Proofs.YthkpobipndifoaaGreatDoor
