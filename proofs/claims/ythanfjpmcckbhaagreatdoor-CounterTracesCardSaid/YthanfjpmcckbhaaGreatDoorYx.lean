/- (Counter seat) Walk: fresh; prove, by induction on the variables. No condition but the sizes. -/
import Derived.Test.YthanfjpmcckbhaaGreatDoorYn
import Derived.Test.YthanfjpmcckbhaaGreatDoorYr
import Derived.Test.YthanfjpmcckbhaaGreatDoorYt
namespace Go.Proofs.YthanfjpmcckbhaaGreatDoor
open Go.ChangeShapes Go.WideShapes Go.ChangeAt Go.RowKit
set_option linter.unusedVariables false
set_option linter.unusedSimpArgs false

theorem occur_ints (F : Nat → Prop) (lv : Value) (cs : List (List Int)) (w : World) (hc : Clss F w lv cs) (hl : cs.length ≤ 4000) (hll : ∀ c ∈ cs, c.length ≤ 4000) :
    Calls Tryz.prog 66 #[lv] w (IntsNew w (occM cs)) := by
  refine (occur_own F _ cs w hc hl hll).mono ?_
  rintro e w2 ⟨ov, os, rfl, ho2, hb2, hst, hmem⟩
  obtain rfl := occ_eq hst hmem
  have hle : (occM cs).length ≤ 20000 := nodup_bound (occM_nodup cs) fun x hx => occM_range hx
  exact ⟨ov, rfl, ⟨(ownsRow_sl1 ho2 (by omega)).mono fun b hb => hb.1, fun x hx => by have := occM_range hx; unfold I64; omega⟩, hb2⟩
theorem FreshPost.from_ {Ex : Nat → Prop} {B : Nat} {W W' : World} {pb mb : Nat} {keep : Int} {cv : Value} {ts : List Claim} {l : List (List Int)} {e : Ending} {w' : World} (h : FreshPost Ex B W' pb mb keep cv ts l e w') (hb : Below W.heap.size W W') : FreshPost Ex B W pb mb keep cv ts l e w' := by
  obtain ⟨cv', us, n', i, h1, h2, h3, h4⟩ := h
  exact ⟨cv', us, n', i, h1, h2, (Grw.of_below hb).trans h3, h4⟩
theorem Pre.below {Ex : Nat → Prop} {B : Nat} {w w' : World} {pb mb : Nat} {keep : Int} {cv lv : Value} {ts : List Claim} {n : Nat} {l : List (List Int)} (h : Pre Ex B w pb mb keep cv lv ts n l) (hb : Below w.heap.size w w') : Pre Ex B w' pb mb keep cv lv ts n l :=
  ⟨h.1.below hb, h.2.1.below (hb.mono h.1.low.2.2) (Nat.le_refl _), clss_below hb h.2.2.1, h.2.2.2⟩
/-- a claim without kids -/
theorem leaf_fresh {Ex : Nat → Prop} {B : Nat} {w w' : World} {pb mb : Nat} {keep : Int} {cv cv' : Value} {ts : List Claim} {n : Nat} {c : Claim} {l : List (List Int)} (hn : n ≤ ts.length) (hcl : c.cls = l)
    (hP : PrS Ex B w' pb mb keep cv' (ts ++ [c]) n) (hG : Grw pb mb cv w cv' w') : FreshPost Ex B w pb mb keep cv ts l (.returned (.int .i64 (ts.length : Nat))) w' :=
  ⟨cv', [c], n, ts.length, rfl, hP, hG, by simp, by rw [List.getD_eq_getElem?_getD, List.getElem?_append_right (Nat.le_refl _)]; simpa using hcl, by have := capT_pos (occM l).length; simpa using this, by simp; omega⟩
theorem nil_ints (F : Nat → Prop) (w : World) : Ints F w (.slice none 0 0) [] := Ints.nil F w
set_option maxRecDepth 100000 in
set_option maxHeartbeats 8000000 in
theorem fresh_nil : FreshOk [] := by
  intro Ex B pb mb keep cv lv ts n w hp
  obtain ⟨hP, hT, hL, hlen, hn⟩ := id hp
  obtain ⟨la, ln, lc, rfl, HLN, _⟩ := hL.form'
  have hln : ln = 0 := HLN.out
  subst hln
  have hcl := claim_any Ex B pb mb keep cv (.slice none 0 0) (.int .i64 0) (.int .i64 0) (.slice none 0 0) (.int .i64 1) ts n ⟨[], 0, 0, [], 1⟩ w hP
    ⟨⟨Rows1.nil _ _, rfl, rfl, Ints.nil _ _, rfl⟩, by unfold I64; show (-9223372036854775808 : Int) ≤ 0 ∧ (0 : Int) ≤ _; omega, by unfold I64; show (-9223372036854775808 : Int) ≤ 0 ∧ (0 : Int) ≤ _; omega, by unfold I64; show (-9223372036854775808 : Int) ≤ 1 ∧ (1 : Int) ≤ _; omega⟩
    (fun k hk => by simp at hk) fits_empty (by omega) ⟨by simp, by simp, by simp⟩
  have HCL := Lib.hid hcl
  have HN := Lib.hid hn
  clear hcl hp hP hT hL hlen hn
  go_enter Tryz.func65, Tryz.ntmps65
  go_wp2_with fail
  refine HCL.out.mono ?_
  rintro e w1 ⟨cv1, rfl, hP1, hG1⟩
  have HF := Lib.hid (leaf_fresh HN.out rfl hP1 hG1)
  clear hP1 hG1 HCL
  go_wp2_with fail
  go_ret
  exact HF.out
theorem one_of_len {c : List Int} (h : c.length = 1) : ∃ x, c = [x] := by
  match c, h with
  | [x], _ => exact ⟨x, rfl⟩
theorem take_succ_ne {l : List (List Int)} {k : Nat} {c : List Int} (h : ∀ c ∈ l.take k, c ≠ []) (hc : l[k]? = some c) (hn : c ≠ []) : ∀ c ∈ l.take (k + 1), c ≠ [] := fun d hd => by
  rw [List.take_add_one, hc] at hd
  rcases List.mem_append.1 hd with h1 | h1
  · exact h d h1
  · simp at h1; subst h1; exact hn
theorem occ_pos {l : List (List Int)} (hc : Cn' l) (h0 : l ≠ []) (hne : ∀ c ∈ l, c ≠ []) : 0 < (occM l).length := by
  obtain ⟨c, hm⟩ := List.exists_mem_of_ne_nil _ h0
  obtain ⟨x, hx⟩ := List.exists_mem_of_ne_nil _ (hne c hm)
  exact List.length_pos_of_mem (hc.mem.2 ⟨c, hm, x, hx, rfl⟩)
set_option maxRecDepth 100000 in
set_option maxHeartbeats 16000000 in
theorem fresh_cons {l : List (List Int)} (h0 : l ≠ []) (hc : Cn' l) (hs : SzL l) (IH : Smaller l) : FreshOk l := by
  intro Ex B pb mb keep cv lv ts n w hp
  obtain ⟨hP, hT, hL, hlen, hn⟩ := id hp
  obtain ⟨la, ln, lc, rfl, HLN, _⟩ := hL.form'
  have hl0 : 0 < ln := by rw [HLN.out]; exact List.length_pos_iff.2 h0
  have hl4 : ln ≤ 4000 := by rw [HLN.out]; exact hs.1
  have d0 : ((ln : Int) == 0) = false := by simp; omega
  have HT0 : Hid (∀ c ∈ l.take 0, c ≠ []) := Lib.hid (by simp)
  have HP := Lib.hid hp
  have HL := Lib.hid hL
  have HC := Lib.hid hc
  have HS := Lib.hid hs
  have HIH := Lib.hid IH
  have HN := Lib.hid hn
  have H0 := Lib.hid h0
  clear hp hP hT hL hn hc hs IH h0
  go_enter Tryz.func65, Tryz.ntmps65
  go_wp2_with fail
  go_loopg [19] ln (fun gg u19 wx => ∃ k : Nat, k + gg = ln ∧ u19 = .int .i64 k ∧ w = wx ∧ Hid (∀ c ∈ l.take k, c ≠ []))
  case atStart => exact ⟨0, by omega, rfl, rfl, HT0⟩
  case round =>
  clear HT0
  obtain ⟨k, hkg, rfl, rfl, HTK⟩ := hrel
  by_cases hk : k < ln
  · obtain ⟨c, hck⟩ : ∃ c, l[k]? = some c := ⟨_, List.getElem?_eq_getElem (by rw [← HLN.out]; exact hk)⟩
    obtain ⟨xb, xo, xv, hae, _, _, hcx, hxi⟩ := HL.out.at hck
    subst hae
    obtain ⟨xa, xn, xc, rfl, HXN, _⟩ := hxi.form'
    have hdk : decide ((k : Int) < ln) = true := by simp; omega
    have hdk' : decide (k < ln) = true := decide_eq_true hk
    by_cases hx0 : xn = 0
    · subst hx0
      have hc0 : c.length = 0 := by rw [← HXN.out]
      have hcm := List.mem_of_getElem? hck
      have hcl := claim_any Ex B pb mb keep cv (.slice (some ⟨xb, xo, none⟩) ln lc) (.int .i64 1) (.int .i64 0) (.slice none 0 0) (.int .i64 0) ts n ⟨l, 1, 0, [], 0⟩ w HP.out.1
        ⟨⟨HL.out, rfl, rfl, Ints.nil _ _, rfl⟩, by unfold I64; show (-9223372036854775808 : Int) ≤ 1 ∧ (1 : Int) ≤ _; omega, by unfold I64; show (-9223372036854775808 : Int) ≤ 0 ∧ (0 : Int) ≤ _; omega, by unfold I64; show (-9223372036854775808 : Int) ≤ 0 ∧ (0 : Int) ≤ _; omega⟩
        (fun k hk => by simp at hk) (fits_falsum HC.out ⟨c, hcm, hc0⟩) (by omega) ⟨HS.out.1, HS.out.2, by simp⟩
      have HCL := Lib.hid hcl
      clear hcl hc0 hcm hck hxi HTK
      go_wp2_with fail
      refine HCL.out.mono ?_
      rintro e w1 ⟨cv1, rfl, hP1, hG1⟩
      have HF := Lib.hid (leaf_fresh (l := l) HN.out rfl hP1 hG1)
      clear hP1 hG1 HCL
      go_wp2_with fail
      try rw [Exit.noGoto_ret]
      go_ret
      exact HF.out
    · have hd : ((xn : Int) == 0) = false := by simp; omega
      have HTN : Hid (∀ c ∈ l.take (k + 1), c ≠ []) := Lib.hid (take_succ_ne HTK.out hck fun e => hx0 (by rw [HXN.out, e]; rfl))
      clear hck hxi HTK
      go_wp2_with fail
      go_roundg (gk - 1)
      case measure => omega
      case rel => exact ⟨k + 1, by omega, by go_num, rfl, HTN⟩
  obtain rfl : ln = k := by omega
  have hdk : decide ((ln : Int) < ln) = false := by simp
  have hdk' : decide (ln < ln) = false := decide_eq_false (by omega)
  have HNE : Hid (∀ c ∈ l, c ≠ []) := Lib.hid (by have := HTK.out; rw [List.take_of_length_le (by rw [HLN.out]; exact Nat.le_refl _)] at this; exact this)
  clear HTK hk hkg
  go_wp2_with fail
  go_loopg [33] ln (fun gg u33 wx => ∃ k : Nat, k + gg = ln ∧ u33 = .int .i64 k ∧ w = wx)
  case atStart => exact ⟨0, by omega, rfl, rfl⟩
  case round =>
  obtain ⟨k, hkg, rfl, rfl⟩ := hrel
  by_cases hk : k < ln
  · obtain ⟨c, hck⟩ : ∃ c, l[k]? = some c := ⟨_, List.getElem?_eq_getElem (by rw [← HLN.out]; exact hk)⟩
    obtain ⟨xb, xo, xv, hae, _, _, hcx, hxi⟩ := HL.out.at hck
    subst hae
    obtain ⟨xa, xn, xc, rfl, HXN, _⟩ := hxi.form'
    have hdk : decide ((k : Int) < ln) = true := by simp; omega
    have hdk' : decide (k < ln) = true := decide_eq_true hk
    by_cases hx0 : xn = 1
    · subst hx0
      obtain ⟨x, hcx1⟩ := one_of_len (c := c) (by rw [← HXN.out])
      subst hcx1
      obtain ⟨yb, yo, rfl, _, _, hcy, _⟩ := hxi.at (k := 0) (x := x) rfl
      rw [Nat.add_zero] at hcy
      have HUN := Lib.hid (unit_any Ex B pb mb keep cv _ ts n l x w HP.out HC.out HS.out (List.mem_of_getElem? hck) HIH.out)
      clear hck hxi
      go_wp2_with fail
      refine HUN.out.mono ?_
      intro e w1 hf
      obtain ⟨cv1, us, n1, i, rfl, hf2⟩ := id hf
      have HF := Lib.hid hf
      clear hf hf2 HUN
      go_wp2_with fail
      try rw [Exit.noGoto_ret]
      go_ret
      exact HF.out
    · have hd : ((xn : Int) == 1) = false := by simp; omega
      clear hck hxi
      go_wp2_with fail
      go_roundg (gk - 1)
      case measure => omega
      case rel => exact ⟨k + 1, by omega, by go_num, rfl⟩
  obtain rfl : ln = k := by omega
  have hdj : decide ((ln : Int) < ln) = false := by simp
  have hdj' : decide (ln < ln) = false := decide_eq_false (by omega)
  have HCO := Lib.hid (components_any _ _ l w HL.out HS.out.1 HS.out.2)
  clear hk hkg
  trace "Q1"
  go_wp2_with fail
  refine HCO.out.mono ?_
  rintro e w1 ⟨gv, f, rfl, hgv, hroots, hb1⟩
  obtain ⟨ga, gn, gc, rfl, HGN, _⟩ := hgv.form'
  have HGV := Lib.hid hgv
  have HRO := Lib.hid hroots
  have HB1 := Lib.hid hb1
  have hPre1 := HP.out.below hb1
  have HP1 := Lib.hid hPre1
  clear hgv hroots hb1 hPre1 HCO
  by_cases hg2 : 1 < gn
  · have hd : decide ((1 : Int) < gn) = true := by simp; omega
    have hpp := parts_of HC.out HRO.out HNE.out
    have hgl : gn = (groupsOf l.length f).length := by rw [HGN.out]; unfold grpI; rw [grpTo_all, List.length_map]
    have hgv2 : Clss (AX Ex pb mb cv) w1 (.slice ga gn gc) ((groupsOf l.length f).map fun g => g.map Int.ofNat) := Rows1.mono (fun _ _ _ _ _ h hg => h.mono hg) HGV.out fun b hb => by
      have := (HP.out.1.apart hb)
      exact this
    have hsz : (groupsOf l.length f).length ≤ 4000 ∧ ∀ g ∈ groupsOf l.length f, g.length ≤ 4000 := by
      have h1 := rootsTo_le f l.length
      have h2 := HS.out.1
      refine ⟨by rw [← hgl, HGN.out, grpI_len]; omega, fun g hg => ?_⟩
      have := (group_sub hg).length_le
      rw [List.length_range] at this
      omega
    have HSP := Lib.hid (psplit_any Ex B pb mb keep cv _ _ ts n l (groupsOf l.length f) w1 HP1.out HC.out HS.out hpp (by omega) hgv2 hsz HIH.out)
    clear hpp hgl hgv2 hsz
    go_wp2_with fail
    refine HSP.out.mono ?_
    intro e w2 hf
    have HF := Lib.hid (hf.from_ HB1.out)
    obtain ⟨cv2, us, n2, i, rfl, hf2⟩ := id hf
    clear hf hf2 HSP
    go_wp2_with fail
    go_ret
    exact HF.out
  have hd : decide ((1 : Int) < gn) = false := decide_eq_false (by omega)
  have HKE := Lib.hid (pkept_any _ pb keep _ l w1 HP1.out.1.c0 HP1.out.1.keep0 HP1.out.2.2.1 HS.out.1 HS.out.2)
  clear HGV HRO
  trace "Q2"
  go_wp2_with fail
  refine HKE.out.mono ?_
  rintro e w2 ⟨kv, rfl, hkv, hb2⟩
  obtain ⟨ka, kn, kc, rfl, HKN, _⟩ := hkv.form'
  have HKV := Lib.hid hkv
  have HB2 : Hid (Below w.heap.size w w2) := Lib.hid (HB1.out.trans (hb2.mono HB1.out.size))
  have HP2 := Lib.hid (HP1.out.below hb2)
  clear hkv hb2 HKE HP1
  have HLR : Hid (∀ c ∈ l, ∀ x ∈ c, -20000 ≤ x ∧ x ≤ 20000) := Lib.hid fun c hc x hx => (HC.out.2 c hc x hx).2
  by_cases hk0 : 0 < kn
  · have hd2 : decide ((0 : Int) < kn) = true := by simp; omega
    have HFR := Lib.hid (frequent_any _ _ _ _ l _ w2 HP2.out.2.2.1 HKV.out (by rw [← HKN.out]; exact hk0) HS.out.1 HS.out.2 HLR.out)
    clear HKV
    go_wp2_with fail
    refine HFR.out.mono ?_
    rintro e w3 ⟨v, hv, rfl, hb3⟩
    have HDE := Lib.hid (decide_any Ex B pb mb keep cv _ ts n l v w3 (HP2.out.below hb3) HC.out HS.out hv HIH.out)
    have HB3 : Hid (Below w.heap.size w w3) := Lib.hid (HB2.out.trans (hb3.mono HB2.out.size))
    clear hv hb3 HFR
    go_wp2_with fail
    refine HDE.out.mono ?_
    intro e w4 hf
    have HF := Lib.hid (hf.from_ HB3.out)
    obtain ⟨cv2, us, n2, i, rfl, hf2⟩ := id hf
    clear hf hf2 HDE
    go_wp2_with fail
    go_ret
    exact HF.out
  have hd2 : decide ((0 : Int) < kn) = false := decide_eq_false (by omega)
  have HK0 : Hid ((keptM keep (occM l)).length = 0) := Lib.hid (by rw [← HKN.out]; omega)
  have HOC := Lib.hid (occur_ints _ _ l w2 HP2.out.2.2.1 HS.out.1 HS.out.2)
  clear HKV
  trace "Q3"
  go_wp2_with fail
  refine HOC.out.mono ?_
  rintro e w3 ⟨ov, rfl, hov, hb3⟩
  obtain ⟨oa, on, oc, rfl, _, _⟩ := hov.form'
  have HP3 := Lib.hid (HP2.out.below hb3)
  have HB3 : Hid (Below w.heap.size w w3) := Lib.hid (HB2.out.trans (hb3.mono HB2.out.size))
  have HFR := Lib.hid (frequent_any _ _ _ _ l _ w3 HP3.out.2.2.1 hov (occ_pos HC.out H0.out HNE.out) HS.out.1 HS.out.2 HLR.out)
  clear hov hb3 HOC HP2 HB2
  go_wp2_with fail
  refine HFR.out.mono ?_
  rintro e w4 ⟨v, hv, rfl, hb4⟩
  have HSE := Lib.hid (psearch_any Ex B pb mb keep cv _ ts n l v w4 (HP3.out.below hb4) HC.out HS.out hv HK0.out HIH.out)
  have HB4 : Hid (Below w.heap.size w w4) := Lib.hid (HB3.out.trans (hb4.mono HB3.out.size))
  clear hv hb4 HFR
  go_wp2_with fail
  refine HSE.out.mono ?_
  intro e w5 hf
  have HF := Lib.hid (hf.from_ HB4.out)
  obtain ⟨cv2, us, n2, i, rfl, hf2⟩ := id hf
  clear hf hf2 HSE
  go_wp2_with fail
  go_ret
  exact HF.out
/-- every canonical list is proved -/
theorem prove_all : ∀ (m : Nat) (l : List (List Int)), (occM l).length ≤ m → Cn' l → SzL l → ProveOk l := by
  intro m
  induction m using Nat.strongRecOn with
  | ind m ih =>
    intro l hm hc hs
    have IH : Smaller l := fun q hq hqs hlt => ih (occM q).length (by omega) q (Nat.le_refl _) hq hqs
    refine prove_of_fresh hs (fun c hcm x hx => by have := (hc.2 c hcm x hx).2; unfold I64; omega) ?_
    by_cases h0 : l = []
    · subst h0; exact fresh_nil
    · exact fresh_cons h0 hc hs IH
end Go.Proofs.YthanfjpmcckbhaaGreatDoor
