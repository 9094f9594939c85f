/- (Trace text seat) Walk: the statement TraceText. Condition: the tables and the two errors of strconv lie as laid. -/
import Derived.Test.YtljaegmmfjllkaaGreatDoorR8
import Derived.Test.YtljaegmmfjllkaaGreatDoorRe
import Derived.Test.YtljaegmmfjllkaaGreatDoorVo
namespace Go.Proofs.YtljaegmmfjllkaaGreatDoor
open Go.ChangeShapes Go.WideShapes Go.ChangeAt Go.RowKit Go.Lib
set_option linter.unusedVariables false
set_option linter.unusedSimpArgs false

theorem szK_mem {x : List Int} : ∀ {cs : List (List Int)}, x ∈ cs → x.length ≤ szK cs
  | d :: cs, h => by
    rw [szK]
    rcases List.mem_cons.1 h with rfl | h
    · omega
    · have := szK_mem h; omega
theorem szK_len : ∀ (cs : List (List Int)), cs.length ≤ szK cs
  | [] => by simp
  | d :: cs => by rw [szK, List.length_cons]; have := szK_len cs; omega
theorem szT_mem {c : Claim} : ∀ {ts : List Claim}, c ∈ ts → c.kids.length + szK c.cls ≤ szT ts
  | d :: ts, h => by
    rw [szT]
    rcases List.mem_cons.1 h with rfl | h
    · omega
    · have := szT_mem h; omega
theorem flat_mem {n : Int} : ∀ {cs : List (List Int)}, n ∈ flatM cs → n = 0 ∨ ∃ x ∈ cs, n ∈ x
  | d :: cs, h => by
    rw [flatM] at h
    rcases List.mem_append.1 h with h | h
    · exact .inr ⟨d, List.mem_cons_self .., h⟩
    · rcases List.mem_cons.1 h with h | h
      · exact .inl h
      · rcases flat_mem h with h | ⟨x, hx, hn⟩
        · exact .inl h
        · exact .inr ⟨x, List.mem_cons_of_mem _ hx, hn⟩
theorem clm_num {F : Nat → Prop} {w : World} {u : Row5} {c : Claim} (h : ClaimV F w u c) (hs : c.kids.length + szK c.cls ≤ 3000) : NumC c := by
  obtain ⟨⟨hc, _, _, hk, _⟩, h1, h2, h3⟩ := h
  have hl := szK_len c.cls
  intro n hn
  unfold lineM at hn
  simp only [List.mem_cons, List.mem_append] at hn
  rcases hn with rfl | rfl | rfl | rfl | hn | rfl | hn
  · exact h1
  · exact h2
  · exact h3
  · unfold I64; omega
  · exact hk.2 n hn
  · unfold I64; omega
  · rcases flat_mem hn with rfl | ⟨x, hx, hn⟩
    · unfold I64; omega
    · obtain ⟨us, _, hlen, hr⟩ := hc
      obtain ⟨j, hj⟩ := List.getElem?_of_mem hx
      have hjl := (List.getElem?_eq_some_iff.1 hj).1
      have hu : us[j]? = some (us[j]'(by omega)) := List.getElem?_eq_getElem _
      exact (hr j _ x hu hj).2 n hn
theorem clms_num {F : Nat → Prop} {w : World} {v : Value} {ts : List Claim} (h : Claims F w v ts) (hs : szT ts ≤ 3000) : ∀ c ∈ ts, NumC c := by
  intro c hc
  obtain ⟨us, _, hlen, hr⟩ := h
  obtain ⟨j, hj⟩ := List.getElem?_of_mem hc
  have hjl := (List.getElem?_eq_some_iff.1 hj).1
  have hu : us[j]? = some (us[j]'(by omega)) := List.getElem?_eq_getElem _
  exact clm_num (hr j _ c hu hj) (by have := szT_mem hc; omega)
theorem itoa_asc {n : Int} {b : UInt8} (h : b ∈ itoa n) : b.toNat < 128 := by have := itoa_bytes h; omega
theorem tail_asc : ∀ {l : List Int} {b : UInt8}, b ∈ tailT l → b.toNat < 128
  | n :: r, b, h => by
    rw [tailT] at h
    rcases List.mem_cons.1 h with rfl | h
    · decide
    · rcases List.mem_append.1 h with h | h
      · exact itoa_asc h
      · exact tail_asc h
theorem line_asc : ∀ {l : List Int} {b : UInt8}, b ∈ lineT l → b.toNat < 128
  | n :: r, b, h => by
    rw [lineT] at h
    rcases List.mem_append.1 h with h | h
    · exact itoa_asc h
    · exact tail_asc h
theorem clms_asc : ∀ {ts : List Claim} {b : UInt8}, b ∈ clmsT ts → b.toNat < 128
  | c :: r, b, h => by
    rw [clmsT, clmT] at h
    rcases List.mem_append.1 h with h | h
    · rcases List.mem_append.1 h with h | h
      · exact line_asc h
      · rw [List.mem_singleton.1 h]; decide
    · exact clms_asc h
theorem trc_asc {ts : List Claim} {b : UInt8} (h : b ∈ trcT ts) : b.toNat < 128 := by
  unfold trcT at h
  rcases List.mem_append.1 h with h | h
  · revert h
    have : ∀ b ∈ wTrc, b.toNat < 128 := by decide
    exact this b
  · rcases List.mem_append.1 h with h | h
    · exact itoa_asc h
    · rcases List.mem_cons.1 h with rfl | h
      · decide
      · exact clms_asc h
theorem trc_good {ts : List Claim} (h : (trcT ts).length ≤ 80000) : GoodT (trcT ts) := ⟨fun b hb => trc_asc hb, by omega⟩
set_option maxRecDepth 100000 in
set_option maxHeartbeats 8000000 in
theorem TraceText_any (tv : Value) (ts : List Claim) (w : World) (hx : Claims (fun _ => True) w tv ts) (ht : TabT w.heap.size w) (he : ErrT w.heap.size w) :
    Calls Tryz.prog 3 #[.agg #[tv]] w (KnPost w) := by
  obtain ⟨ta, tn, tc, rfl, HTN, _⟩ := hx.form
  obtain ⟨D, hD⟩ : ∃ b, w.heap.size = b := ⟨_, rfl⟩
  obtain ⟨W1, hW1⟩ : ∃ W, w.alloc (.cells #[.slice ta tn tc] 24) = W := ⟨_, rfl⟩
  have hb1 : Below w.heap.size w W1 := by rw [← hW1]; exact (Below.refl _ _).alloc (Nat.le_refl _) _
  have t0 : W1.cell? ⟨D, 0, none⟩ = some (.slice ta tn tc) := by rw [← hW1, ← hD]; simp
  have hlt : D < W1.heap.size := block_lt t0
  have HT := Lib.hid (ht.below hb1 (Nat.le_refl _))
  have HE := Lib.hid (he.below hb1 (Nat.le_refl _))
  have HX := Lib.hid (hx.below hb1)
  have HB1 := Lib.hid hb1
  have HKN := Lib.hid (known_any W1)
  have HW1 := Lib.hid hW1
  have HD := Lib.hid hD
  clear hx ht he hb1 hW1 hD
  go_enter Tryz.func3, Tryz.ntmps3
  go_upto_region 1 with fail
  try rw [HW1.out, HD.out]
  go_wp2_with fail
  refine HKN.out.mono ?_
  rintro e w2 ⟨rfl, hb2⟩
  have HB2 := Lib.hid (HB1.out.trans (hb2.mono HB1.out.size))
  have HQ2 : Hid (Below W1.heap.size W1 w2) := Lib.hid hb2
  have t0 := below_c hb2 hlt t0
  have HF := Lib.hid (tfew_any _ ts w2 (HX.out.below hb2))
  clear hb2 HKN
  go_wp2_with fail
  refine HF.out.mono ?_
  rintro e w3 ⟨B1, rfl, hb3, hB1⟩
  have HB3 := Lib.hid (HB2.out.trans (hb3.mono HB2.out.size))
  have HQ3 : Hid (Below W1.heap.size W1 w3) := Lib.hid (HQ2.out.trans (hb3.mono HQ2.out.size))
  have t0 := below_c hb3 (block_lt t0) t0
  have HBT := Lib.hid hB1
  clear hb3 HF hB1 HB2 HQ2
  rcases bool2 B1 with rfl | rfl
  rotate_left
  · go_wp2_with fail
    go_ret
    exact ⟨rfl, HB3.out⟩
  obtain ⟨h120, h3000⟩ := HBT.out rfl
  have HX3 := Lib.hid (HX.out.below HQ3.out)
  have HNC := Lib.hid (clms_num HX3.out h3000)
  have hTL := trc_len HNC.out h120 h3000
  have HTL := Lib.hid hTL
  have HLS : Hid (∀ c ∈ ts, (lineM c).length ≤ 10000) := Lib.hid fun c hc => by have h1 := szT_mem hc; rw [line_sz]; omega
  have HT3 := Lib.hid (HT.out.below HQ3.out (by have := HB1.out.size; omega))
  have HE3 := Lib.hid (HE.out.below HQ3.out (by have := HB1.out.size; omega))
  have HPR := Lib.hid (tprint_any w.heap.size _ ts w3 HX3.out (fun _ => by omega) (fun c hc => by have := HLS.out c hc; omega) HNC.out (by omega) HT3.out HB3.out.size)
  have H120 := Lib.hid h120
  clear HBT h120 h3000 hTL HT HE
  go_wp2_with fail
  refine HPR.out.mono ?_
  rintro e w4 ⟨S, rfl, HS, hb4⟩
  have HB4 := Lib.hid (HB3.out.trans (hb4.mono HB3.out.size))
  have HX4 := Lib.hid (HX3.out.below hb4)
  have HT4 := Lib.hid (HT3.out.below hb4 HB3.out.size)
  have HE4 := Lib.hid (HE3.out.below hb4 HB3.out.size)
  have t0 := below_c hb4 (block_lt t0) t0
  have HPB := Lib.hid (printable_any _ ts w4 HX4.out)
  obtain ⟨Z, hZ⟩ : ∃ b, zeroB ts = b := ⟨_, rfl⟩
  have HZ := Lib.hid hZ
  rw [hZ] at HS HPB ⊢
  clear hb4 HPR HB3 HX3 HT3 HE3 hZ
  rcases bool2 Z with rfl | rfl
  · have hS : S = ⟨#[]⟩ := by rw [HS.out]; rfl
    subst hS
    go_wp2_with fail
    refine HPB.out.mono ?_
    rintro e w5 ⟨rfl, hb5⟩
    have HB5 := Lib.hid (HB4.out.trans (hb5.mono HB4.out.size))
    clear hb5 HPB
    simp only [Bool.not_true]
    go_wp2_with fail
    go_ret
    exact ⟨rfl, HB5.out⟩
  have hS : S = BA (trcT ts) := HS.out
  have HSS := Lib.hid hS
  clear HS hS
  simp only [Bool.false_eq_true, if_false]
  go_wp2_with fail
  refine HPB.out.mono ?_
  rintro e w5 ⟨rfl, hb5⟩
  have HB5 := Lib.hid (HB4.out.trans (hb5.mono HB4.out.size))
  have HX5 := Lib.hid (HX4.out.below hb5)
  have HT5 := Lib.hid (HT4.out.below hb5 HB4.out.size)
  have HE5 := Lib.hid (HE4.out.below hb5 HB4.out.size)
  have t0 := below_c hb5 (block_lt t0) t0
  have HPA := Lib.hid (parse_gen w.heap.size S (trcT ts) w5 HSS.out HTL.out HE5.out HT5.out HB5.out.size)
  clear hb5 HPB HB4 HX4 HT4 HE4
  simp only [Bool.not_false]
  go_wp2_with fail
  refine HPA.out.mono ?_
  rintro e w6 ⟨v, code, cs, rfl, hcl, hb6, HRES, HEX⟩
  obtain ⟨rfl, rfl⟩ := HEX.out ts ⟨HNC.out, HZ.out, trc_good HTL.out, by have := H120.out; omega, rfl⟩
  obtain ⟨ca, cn, cc, rfl, HCN, _⟩ := hcl.form
  obtain ⟨U, hU⟩ : ∃ g, w6.heap.size = g := ⟨_, rfl⟩
  obtain ⟨W7, hW7⟩ : ∃ W, w6.alloc (.cells #[.slice ca cn cc] 24) = W := ⟨_, rfl⟩
  have hb7 : Below w6.heap.size w6 W7 := by rw [← hW7]; exact (Below.refl _ _).alloc (Nat.le_refl _) _
  have hr7 : W7.heap[U]? = some (.cells #[.slice ca cn cc] 24) := by rw [← hW7]; exact new_at' _ _ hU.symm
  have u0 : W7.cell? ⟨U, 0, none⟩ = some (.slice ca cn cc) := by rw [cell_of_row _ _ _ _ _ _ hr7]; rfl
  have hb67 := hb6.trans (hb7.mono hb6.size)
  have HB7 : Hid (Below w.heap.size w W7) := Lib.hid (HB5.out.trans (hb67.mono HB5.out.size))
  have HX7 := Lib.hid (HX5.out.below hb67)
  have HC7 := Lib.hid (hcl.below hb7)
  have t0 := below_c hb67 (block_lt t0) t0
  have HTX := Lib.hid (ltext_any _ cs W7 HX7.out HTL.out HLS.out HNC.out)
  have HW7 := Lib.hid hW7
  have HUU := Lib.hid hU
  clear hb6 hb7 hr7 hb67 hW7 hU hcl HRES HEX HPA HB5 HX5 HT5 HE5
  go_upto_region 9 with fail
  try rw [HW7.out, HUU.out]
  go_wp2_with fail
  refine HTX.out.mono ?_
  rintro e w8 ⟨V, rfl, HV, hb8⟩
  have hVS : V = S := by rw [HV.out, HSS.out]
  subst hVS
  have hUU : (V.toList == V.toList) = true := by simp
  have HB8 := Lib.hid (HB7.out.trans (hb8.mono HB7.out.size))
  have t0 := below_c hb8 (block_lt t0) t0
  have u0 := below_c hb8 (block_lt u0) u0
  have HEQ := Lib.hid (teq_any _ _ cs cs w8 (HX7.out.below hb8) (HC7.out.below hb8))
  rw [tEqB_refl] at HEQ
  clear hb8 HTX HV HB7 HX7 HC7
  go_wp2_with fail
  refine HEQ.out.mono ?_
  rintro e w9 ⟨rfl, hb9⟩
  have HB9 := Lib.hid (HB8.out.trans (hb9.mono HB8.out.size))
  clear hb9 HEQ HB8
  go_wp2_with fail
  go_ret
  exact ⟨by simp, HB9.out⟩
end Go.Proofs.YtljaegmmfjllkaaGreatDoor
