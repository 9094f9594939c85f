/- Walk of the law SatPropagates. -/
import Derived.Test.YtjbhglmmakkkgaaSA1
import Derived.Test.YtjbhglmmakkkgaaSB1
namespace Go.Proofs.Ytjbhglmmakkkgaa
open Go.ChangeShapes Go.WideShapes Go.ChangeAt Go.RowKit
set_option linter.unusedVariables false

theorem litB_badB {V : Nat} {n : Int} : litB V n = !badB V n := by
  unfold litB badB
  rw [Bool.eq_iff_iff]
  simp [and_assoc]
theorem badB_lit {V : Nat} {n : Int} (h : badB V n = false) : LitOk V n := by
  rw [← litB_iff, litB_badB, h]; rfl

set_option maxRecDepth 100000 in
set_option maxHeartbeats 8000000 in
theorem propagates_walk {F G : Nat → Prop} (vars keep : Int) (cv lv : Value) (cs : List (List Int)) (lits : List Int) (w : World) (hc : Clss F w cv cs) (hl : Ints G w lv lits) (hv : I64 vars) (hk : I64 keep) :
    Calls Try.prog 3 #[.agg #[.int .i64 vars, .int .i64 keep, cv], lv] w (BoolPost w true) := by
  obtain ⟨a, n, c, rfl, HN, hn⟩ := hc.form'
  obtain ⟨la, ln, lc, rfl, HLN, hln⟩ := hl.form'
  have hb : Below w.heap.size w (w.alloc (.cells #[.int .i64 vars, .int .i64 keep, .slice a n c] 24)) := (Below.refl _ _).alloc (Nat.le_refl _) _
  have HB := Lib.hid hb
  have HL0 := Lib.hid hl
  have HX := Lib.hid (Box.new (vars := vars) (keep := keep) hc)
  clear hb hc hl
  go_enter Try.func3, Try.ntmps3
  go_wp2_with fail
  refine (known_any _).mono ?_
  rintro e w1 ⟨rfl, hb1⟩
  have HB1 : Hid (Below w.heap.size w w1) := Lib.hid (HB.out.trans (hb1.mono (by simp)))
  have HX1 := Lib.hid (HX.out.below hb1)
  have c0 := HX1.out.c0
  have c1 := HX1.out.c1
  have c2 := HX1.out.c2
  clear hb1 HX HB
  go_wp2_with fail
  refine (few_any vars keep 12 60 _ cs w1 HX1.out.cls (by omega) hv).mono ?_
  rintro e w2 ⟨rfl, hb2⟩
  have HB2 : Hid (Below w.heap.size w w2) := Lib.hid (HB1.out.trans (hb2.mono HB1.out.size))
  have HX2 := Lib.hid (HX1.out.below hb2)
  clear hb2 c0 c1 c2 HX1 HB1
  rcases hf : fewM vars cs 12 60 with _ | _
  · go_wp2_with fail
    go_ret
    exact ⟨rfl, HB2.out⟩
  by_cases h20 : 20 < ln
  · have hd : decide ((20 : Int) < ln) = true := by simp; omega
    have hd2 : decide (20 < ln) = true := by simp; omega
    clear h20
    go_wp2_with fail
    go_ret
    exact ⟨rfl, HB2.out⟩
  have hd : decide ((20 : Int) < ln) = false := by simp; omega
  have hd2 : decide (20 < ln) = false := by simp; omega
  obtain ⟨hv12, _, _⟩ := few_of hf
  have hpo := Propagate_any vars keep (.slice a n c) (.slice la ln lc) cs lits w2 HX2.out.cls (HL0.out.below HB2.out) hv hk
  obtain ⟨S, hS⟩ : ∃ S, propagateM vars keep cs lits = S := ⟨_, rfl⟩
  rw [hS] at hpo
  have HPO := Lib.hid hpo
  have HS := Lib.hid hS
  have c0 := HX2.out.c0
  have c1 := HX2.out.c1
  have c2 := HX2.out.c2
  clear hf hpo hS h20
  go_wp2_with fail
  refine HPO.out.mono ?_
  rintro e w3 ⟨mv, rfl, hm, hb3⟩
  have HB3 : Hid (Below w.heap.size w w3) := Lib.hid (HB2.out.trans (hb3.mono HB2.out.size))
  have HX3 := Lib.hid (HX2.out.below hb3)
  have HM := Lib.hid hm
  obtain ⟨ma, mn, mc, rfl, HMN, hmnl⟩ : ∃ a n c, mv = .slice a n c ∧ Hid (n = S.1.length) ∧ n ≤ 9223372036854775807 := by
    obtain ⟨a, c, h, h2⟩ := hm.form
    exact ⟨a, _, c, h, rfl, h2⟩
  clear hb3 hm c0 c1 c2 HX2 HB2 HPO
  have c0 := HX3.out.c0
  have c1 := HX3.out.c1
  have c2 := HX3.out.c2
  have hva := valid_any vars keep (.slice a n c) cs w3 HX3.out.cls hv hk
  obtain ⟨T, hT⟩ : ∃ T, validM vars keep cs = T := ⟨_, rfl⟩
  have HTC : Hid (T = true ↔ checkM vars keep cs = 0) := Lib.hid (by rw [← hT]; exact valid_check vars keep cs)
  rw [hT] at hva
  have HVA := Lib.hid hva
  clear hva hT
  by_cases h0 : checkM vars keep cs = 0
  case neg =>
    obtain rfl : S = ([], false, 1) := by rw [← HS.out, propagateM, if_pos h0]
    obtain rfl : T = false := by
      rcases T with _ | _
      · rfl
      · exact absurd (HTC.out.1 rfl) h0
    have hmn : mn = 0 := HMN.out
    subst hmn
    simp only
    clear h0 HS HTC HMN
    go_wp2_with fail
    refine HVA.out.mono ?_
    rintro e w4 ⟨rfl, hb4⟩
    have HB4 : Hid (Below w.heap.size w w4) := Lib.hid (HB3.out.trans (hb4.mono HB3.out.size))
    clear hb4
    go_wp2_with fail
    go_ret
    exact ⟨rfl, HB4.out⟩
  obtain rfl : T = true := HTC.out.2 h0
  obtain ⟨V, rfl, hV2, _, _, hcl, hlo, _⟩ := check_ok h0
  have HSS : Hid (S = if lits.any (badB V) = true then ([], false, 3) else if okM V cs lits = false then ([], true, 0) else (outGo2 (marksM V cs lits) V 1, false, 0)) := Lib.hid (by rw [← HS.out, propagateM, if_neg (by omega)]; rfl)
  have HLO := Lib.hid hlo
  clear h0 HS HTC hlo
  by_cases hbad : lits.any (badB V) = true
  case pos =>
    obtain rfl : S = ([], false, 3) := by rw [HSS.out, if_pos hbad]
    have HBAD : Hid ((lits.drop 0).any (badB V) = true) := Lib.hid hbad
    have hmn : mn = 0 := HMN.out
    subst hmn
    simp only
    clear HSS HMN hbad
    go_wp2_with fail
    refine HVA.out.mono ?_
    rintro e w4 ⟨rfl, hb4⟩
    have HB4 : Hid (Below w.heap.size w w4) := Lib.hid (HB3.out.trans (hb4.mono HB3.out.size))
    have HX4 := Lib.hid (HX3.out.below hb4)
    clear hb4 c0 c1 c2 HX3 HB3 HVA HM
    have c0 := HX4.out.c0
    go_wp2_with fail
    go_loopg [45] ln (fun gg u45 wx => ∃ k : Nat, k + gg = ln ∧ u45 = .int .i64 k ∧ w4 = wx ∧ Hid ((lits.drop k).any (badB V) = true))
    case atStart => exact ⟨0, by omega, rfl, rfl, HBAD⟩
    case round =>
    clear HBAD
    obtain ⟨k, hkg, rfl, rfl, HBD⟩ := hrel
    by_cases hk : k < ln
    case neg =>
      exfalso
      have := HBD.out
      rw [List.drop_eq_nil_of_le (by have := HLN.out; omega)] at this
      cases this
    obtain ⟨x, hx, e⟩ := drop_at (xs := lits) (k := k) (by have := HLN.out; omega)
    have hll := HL0.out.below HB4.out
    obtain ⟨xb, xo, rfl, _, hxb, hxc, hx64⟩ := hll.at hx
    have hli := literal_any V x w4 ⟨by omega, by omega⟩ hx64
    rw [litB_badB] at hli
    obtain ⟨bd, hbd⟩ : ∃ b, badB V x = b := ⟨_, rfl⟩
    have HE : Hid ((bd || (lits.drop (k + 1)).any (badB V)) = true) := Lib.hid (by have := HBD.out; rw [e, List.any_cons, hbd] at this; exact this)
    rw [hbd] at hli
    have HLI := Lib.hid hli
    clear HBD e hx hll hli hbd hx64
    rcases bool2 bd with rfl | rfl
    · go_wp2_with fail
      refine HLI.out.mono ?_
      rintro e w5 ⟨rfl, rfl⟩
      go_wp2_with fail
      try rw [Exit.noGoto_ret]
      go_ret
      exact ⟨rfl, HB4.out⟩
    · have HE2 : Hid ((lits.drop (k + 1)).any (badB V) = true) := Lib.hid (by have := HE.out; rwa [Bool.false_or] at this)
      clear HE
      go_wp2_with fail
      refine HLI.out.mono ?_
      rintro e w5 ⟨rfl, rfl⟩
      go_wp2_with fail
      go_roundg (gk - 1)
      case measure => omega
      case rel => exact ⟨k + 1, by omega, by go_num, rfl, HE2⟩
  have hgood : ∀ l ∈ lits, badB V l = false := fun l hl => by
    have h1 := List.any_eq_false.1 (by simpa using hbad) l hl
    simpa using h1
  have HGD := Lib.hid hgood
  have hll : ∀ l ∈ lits, LitOk V l := fun l hl => badB_lit (hgood l hl)
  have HLL := Lib.hid hll
  have hres := prog_res HLO.out hll
  obtain ⟨r, hr⟩ : ∃ r, (if okM V cs lits = false then (([] : List Int), true) else (outGo2 (marksM V cs lits) V 1, false)) = r := ⟨_, rfl⟩
  rw [hr] at hres
  have hSr : S = (r.1, r.2, 0) := by
    rw [HSS.out, if_neg hbad, ← hr]
    split <;> rfl
  subst hSr
  have HRES := Lib.hid hres
  simp only at HM HMN ⊢
  clear hgood hll hres hr hbad HSS
  go_wp2_with fail
  refine HVA.out.mono ?_
  rintro e w4 ⟨rfl, hb4⟩
  have HB4 : Hid (Below w.heap.size w w4) := Lib.hid (HB3.out.trans (hb4.mono HB3.out.size))
  have HX4 := Lib.hid (HX3.out.below hb4)
  have HM4 := Lib.hid (HM.out.below hb4)
  clear hb4 c0 c1 c2 HX3 HB3 HVA HM
  have c0 := HX4.out.c0
  have c2 := HX4.out.c2
  go_wp2_with fail
  go_loopg [45] ln (fun gg u45 wx => ∃ k : Nat, k + gg = ln ∧ u45 = .int .i64 k ∧ w4 = wx)
  case atStart => exact ⟨0, by omega, rfl, rfl⟩
  case round =>
  obtain ⟨k, hkg, rfl, rfl⟩ := hrel
  by_cases hk : k < ln
  case pos =>
    obtain ⟨x, hx, e⟩ := drop_at (xs := lits) (k := k) (by have := HLN.out; omega)
    have hll := HL0.out.below HB4.out
    obtain ⟨xb, xo, rfl, _, hxb, hxc, hx64⟩ := hll.at hx
    have hli := literal_any V x w4 ⟨by omega, by omega⟩ hx64
    rw [litB_badB, HGD.out x (List.mem_of_getElem? hx)] at hli
    have HLI := Lib.hid hli
    clear e hx hll hli hx64
    go_wp2_with fail
    refine HLI.out.mono ?_
    rintro e w5 ⟨rfl, rfl⟩
    go_wp2_with fail
    go_roundg (gk - 1)
    case measure => omega
    case rel => exact ⟨k + 1, by omega, by go_num, rfl⟩
  have hk2 : ln ≤ k := by omega
  have hsp := sprop_any V (.slice a n c) (.slice la ln lc) cs lits w4 HX4.out.cls (HL0.out.below HB4.out) (by omega) HLO.out HLL.out
  have HSP := Lib.hid hsp
  clear hk hsp
  go_wp2_with fail
  refine HSP.out.mono ?_
  rintro e w6 ⟨sv, q, rfl, hq6, hres6, hb6⟩
  obtain rfl : q = r := hres6.eq HRES.out
  have HB6 : Hid (Below w.heap.size w w6) := Lib.hid (HB4.out.trans (hb6.mono HB4.out.size))
  have heq := equal_any _ sv q.1 q.1 w6 (HM4.out.below hb6) hq6
  have HEQ := Lib.hid heq
  obtain ⟨sa, sc, rfl, _⟩ := hq6.form
  obtain ⟨q1, q2⟩ := q
  have hxx : (q1 == q1) = true := by simp
  simp only at HEQ ⊢
  rw [hxx] at HEQ
  clear hb6 hq6 heq hres6 HRES HMN
  rcases bool2 q2 with rfl | rfl
  · go_wp2_with fail
    refine HEQ.out.mono ?_
    rintro e w7 ⟨rfl, n7, rfl⟩
    go_wp2_with fail
    go_ret
    exact ⟨rfl, below_drewN HB6.out _⟩
  · go_wp2_with fail
    refine HEQ.out.mono ?_
    rintro e w7 ⟨rfl, n7, rfl⟩
    go_wp2_with fail
    go_ret
    exact ⟨rfl, below_drewN HB6.out _⟩
end Go.Proofs.Ytjbhglmmakkkgaa
