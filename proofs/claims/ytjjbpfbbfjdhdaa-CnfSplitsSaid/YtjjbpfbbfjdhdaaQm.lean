/- Walk: the statement CnfMake. No condition. -/
import Derived.Test.YtjjbpfbbfjdhdaaQl
namespace Go.Proofs.Ytjjbpfbbfjdhdaa
open Go.ChangeShapes Go.WideShapes Go.ChangeAt Go.RowKit
set_option linter.unusedVariables false

/-- the statement's code -/
def wantM (vars keep : Int) (cs : List (List Int)) : Int :=
  if vars < 0 ∨ keep < 0 ∨ vars < keep then 1 else if 20000 < vars then 4 else if (cs.any fun c => c.any (outB vars.toNat)) = true then 3 else 0
theorem canM_len (cs : List (List Int)) : (canM cs).length ≤ cs.length := by
  have h1 := cptG_len none (srtC clsC ((cs.map claM).filter fun c => !oppM c))
  rw [(srtC_perm clsC _).length_eq] at h1
  have h2 := List.length_filter_le (fun c => !oppM c) (cs.map claM)
  rw [List.length_map] at h2
  exact Nat.le_trans h1 h2
theorem makeM_want {vars keep : Int} {cs : List (List Int)} (h : cs.length ≤ 60000) : makeM vars keep cs = wantM vars keep cs := by
  have := canM_len cs
  unfold makeM wantM
  rw [if_neg (show ¬ 60000 < (canM cs).length by omega)]

set_option maxRecDepth 100000 in
set_option maxHeartbeats 8000000 in
theorem CnfMake_any (F : Nat → Prop) (vars keep : Int) (cv : Value) (cs : List (List Int)) (w : World) (hx : Clss F w cv cs) (hv : I64 vars) (hk : I64 keep) :
    Calls Try.prog 3 #[.int .i64 vars, .int .i64 keep, cv] w (BoolPost w true) := by
  obtain ⟨a, n, c, rfl, HN, hn⟩ := hx.form'
  have HX := Lib.hid hx
  have HV := Lib.hid hv
  have HK := Lib.hid hk
  clear hx hv hk
  go_enter Try.func3, Try.ntmps3
  go_wp2_with fail
  refine (known_any w).mono ?_
  rintro e w2 ⟨rfl, hb2⟩
  have HX2 := Lib.hid (HX.out.below hb2)
  have HB2 := Lib.hid hb2
  obtain ⟨Fw, hFw⟩ : ∃ b, fewC cs 60 300 = b := ⟨_, rfl⟩
  have hfew := lfew_any F (.slice a n c) cs 60 300 w2 HX2.out (by omega) (by omega)
  rw [hFw] at hfew
  have HFEW := Lib.hid hfew
  have HFW := Lib.hid hFw
  clear hb2 HX hfew hFw
  go_wp2_with fail
  refine HFEW.out.mono ?_
  rintro e w3 ⟨rfl, rfl⟩
  rcases bool2 Fw with rfl | rfl
  case inr =>
    go_wp2_with fail
    go_ret
    exact ⟨rfl, HB2.out⟩
  obtain ⟨hl, hll⟩ := few_lens HFW.out
  have HL : Hid (cs.length ≤ 60 ∧ ∀ c ∈ cs, c.length ≤ 16777216) := Lib.hid ⟨by omega, fun c hc => by have := hll c hc; omega⟩
  have HCN := Lib.hid (lcanonical_any F (.slice a n c) cs w3 HX2.out (by have := HL.out.1; omega) HL.out.2)
  clear HFEW HFW hl hll
  go_wp2_with fail
  refine HCN.out.mono ?_
  rintro e w4 ⟨v4, rfl, hc4, hb4⟩
  obtain ⟨pa, pn, pc, rfl, _, _⟩ := hc4.form'
  have HX4 := Lib.hid (HX2.out.below hb4)
  have HC4 := Lib.hid hc4
  have HB4 : Hid (Below w.heap.size w w4) := Lib.hid (HB2.out.trans (hb4.mono HB2.out.size))
  have HCN4 := Lib.hid (canonical_any F (.slice a n c) cs w4 HX4.out (by have := HL.out.1; omega) HL.out.2)
  clear hc4 hb4 HCN HX2 HB2
  go_wp2_with fail
  refine HCN4.out.mono ?_
  rintro e w5 ⟨v5, rfl, hc5, hb5⟩
  obtain ⟨qa, qn, qc, rfl, _, _⟩ := hc5.form'
  have HC5 := Lib.hid hc5
  have HX5 := Lib.hid (HX4.out.below hb5)
  have HP5 := Lib.hid (Clss.below HC4.out hb5)
  have HB5 : Hid (Below w.heap.size w w5) := Lib.hid (HB4.out.trans (hb5.mono HB4.out.size))
  have heq := lequal_any _ _ _ _ w5 HC5.out HP5.out
  rw [show (canM cs == canM cs) = true by simp] at heq
  have HEQ := Lib.hid heq
  clear hc5 hb5 HCN4 HX4 HC4 HB4 heq
  go_wp2_with fail
  refine HEQ.out.mono ?_
  rintro e w6 ⟨rfl, n6, h6⟩
  have hb6 : Below w5.heap.size w5 w6 := by rw [h6]; exact below_drewN (Below.refl _ _) _
  have HX6 := Lib.hid (HX5.out.below hb6)
  have HP6 := Lib.hid (Clss.below HP5.out hb6)
  have HB6 : Hid (Below w.heap.size w w6) := Lib.hid (HB5.out.trans (hb6.mono HB5.out.size))
  have HMK := Lib.hid (make_any F vars keep (.slice a n c) cs w6 HX6.out HV.out HK.out (by have := HL.out.1; omega) HL.out.2)
  clear h6 hb6 HEQ HC5 HX5 HP5 HB5
  unfold MakePost at HMK
  rw [makeM_want (by have := HL.out.1; omega)] at HMK
  have HW : Hid (wantM vars keep cs = if vars < 0 ∨ keep < 0 ∨ vars < keep then 1 else if 20000 < vars then 4 else if (cs.any fun c => c.any (outB vars.toNat)) = true then 3 else 0) := Lib.hid rfl
  generalize wantM vars keep cs = M at *
  go_wp2_with fail
  refine HMK.out.mono ?_
  rintro e w7 ⟨v7, rfl, hb7, hno, hyes⟩
  have HX7 := Lib.hid (HX6.out.below hb7)
  have HP7 := Lib.hid (Clss.below HP6.out hb7)
  have HB7 : Hid (Below w.heap.size w w7) := Lib.hid (HB6.out.trans (hb7.mono HB6.out.size))
  have HNO := Lib.hid hno
  have HYES := Lib.hid hyes
  clear hb7 hno hyes HMK HX6 HP6 HB6
  have HBA : Hid (∀ o : Obj, Below w.heap.size w (w7.alloc o)) := Lib.hid fun o => HB7.out.alloc HB7.out.size o
  by_cases h1 : vars < 0
  · have hM : M = 1 := by rw [HW.out, if_pos (.inl h1)]
    subst hM
    obtain rfl := HNO.out (by decide)
    have hd : decide (vars < 0) = true := decide_eq_true h1
    clear h1
    go_wp2_with fail
    go_ret
    exact ⟨rfl, HBA.out _⟩
  have hd1 : decide (vars < 0) = false := decide_eq_false h1
  by_cases h2 : keep < 0
  · have hM : M = 1 := by rw [HW.out, if_pos (.inr (.inl h2))]
    subst hM
    obtain rfl := HNO.out (by decide)
    have hd : decide (keep < 0) = true := decide_eq_true h2
    clear h1 h2
    go_wp2_with fail
    go_ret
    exact ⟨rfl, HBA.out _⟩
  have hd2 : decide (keep < 0) = false := decide_eq_false h2
  by_cases h3 : vars < keep
  · have hM : M = 1 := by rw [HW.out, if_pos (.inr (.inr h3))]
    subst hM
    obtain rfl := HNO.out (by decide)
    have hd : decide (vars < keep) = true := decide_eq_true h3
    clear h1 h2 h3
    go_wp2_with fail
    go_ret
    exact ⟨rfl, HBA.out _⟩
  have hd3 : decide (vars < keep) = false := decide_eq_false h3
  by_cases h4 : 20000 < vars
  · have hM : M = 4 := by rw [HW.out, if_neg (by omega), if_pos h4]
    subst hM
    obtain rfl := HNO.out (by decide)
    have hd : decide (20000 < vars) = true := decide_eq_true h4
    clear h1 h2 h3 h4
    go_wp2_with fail
    go_ret
    exact ⟨rfl, HBA.out _⟩
  have hd4 : decide (20000 < vars) = false := decide_eq_false h4
  obtain ⟨V, rfl⟩ := Int.eq_ofNat_of_zero_le (show 0 ≤ vars by omega)
  have HR : Hid (M = if ((cs.drop 0).any fun c => c.any (outB V)) = true then 3 else 0) := Lib.hid (by rw [HW.out, if_neg (by omega), if_neg (by omega)]; rfl)
  have hwu : IntKind.u64.wrap (V : Int) = (V : Int) := by simp [IntKind.wrap, IntKind.bits, IntKind.signed]; omega
  -- the struct as a value
  obtain ⟨x0, x1, xa, xn, xc, hv7, HV7⟩ : ∃ (x0 x1 : Int) (xa : Option Addr) (xn xc : Nat), v7 = .agg #[.int .i64 x0, .int .i64 x1, .slice xa xn xc] ∧
      Hid ((M ≠ 0 → x0 = 0 ∧ x1 = 0 ∧ xn = 0) ∧ (M = 0 → x0 = V ∧ x1 = keep ∧ Clss (fun _ => True) w7 (.slice xa xn xc) (canM cs))) := by
    by_cases hM : M = 0
    · obtain ⟨cv, rfl, hc⟩ := HYES.out hM
      obtain ⟨ca, cn, cc, rfl, _, _⟩ := hc.form'
      exact ⟨_, _, _, _, _, rfl, Lib.hid ⟨fun h => absurd hM h, fun _ => ⟨rfl, rfl, Rows1.mono (fun _ _ _ _ _ h hg => h.mono hg) hc fun _ _ => trivial⟩⟩⟩
    · obtain rfl := HNO.out hM
      exact ⟨_, _, _, _, _, rfl, Lib.hid ⟨fun _ => ⟨rfl, rfl, rfl⟩, fun h => absurd h hM⟩⟩
  subst hv7
  obtain ⟨w8, hw8⟩ : ∃ W, w7.alloc (.cells #[.int .i64 x0, .int .i64 x1, .slice xa xn xc] 28) = W := ⟨_, rfl⟩
  have hb8 : Below w7.heap.size w7 w8 := by rw [← hw8]; exact (Below.refl _ _).alloc (Nat.le_refl _) _
  have m0 : w8.cell? ⟨w7.heap.size, 0, none⟩ = some (.int .i64 x0) := by rw [← hw8]; simp
  have m1 : w8.cell? ⟨w7.heap.size, 1, none⟩ = some (.int .i64 x1) := by rw [← hw8]; simp
  have m2 : w8.cell? ⟨w7.heap.size, 2, none⟩ = some (.slice xa xn xc) := by rw [← hw8]; simp
  have HX8 := Lib.hid (HX7.out.below hb8)
  have HP8 := Lib.hid (Clss.below HP7.out hb8)
  have HV8 : Hid (M = 0 → Clss (fun _ => True) w8 (.slice xa xn xc) (canM cs)) := Lib.hid fun h => Clss.below (HV7.out.2 h).2.2 hb8
  have HB8 : Hid (Below w.heap.size w w8) := Lib.hid (by rw [← hw8]; exact HBA.out _)
  clear h1 h2 h3 h4 hb8 HX7 HP7 HB7 HBA HNO HYES HW
  go_wp2_with fail
  clear hw8
  go_loopg [10, 36] n (fun g u10 u36 wx => ∃ (k : Nat) (ck : Int), k + g = n ∧ u36 = .int .i64 k ∧ u10 = .int .i64 ck ∧ wx = w8 ∧ Hid (M = if ((cs.drop k).any fun c => c.any (outB V)) = true then 3 else ck))
  case atStart => exact ⟨0, 0, by omega, rfl, rfl, rfl, HR⟩
  case round =>
  clear HR
  obtain ⟨k, ck, hkg, rfl, rfl, rfl, HR⟩ := hrel
  obtain ⟨GK, hGK⟩ : ∃ G, G = gk := ⟨_, rfl⟩
  subst hGK
  by_cases hk : k < n
  case neg =>
    have hdk : decide ((k : Int) < n) = false := by simp; omega
    have hdk' : decide (k < n) = false := decide_eq_false hk
    have hM : M = ck := by rw [HR.out, List.drop_eq_nil_of_le (by have := HN.out; omega)]; rfl
    subst hM
    clear HR
    by_cases hM : M = 0
    · have hdm : (M != 0) = false := by simp [hM]
      have hdm2 : (M == 0) = true := by simp [hM]
      obtain ⟨e1, e2, _⟩ := HV7.out.2 hM
      subst e1 e2
      have hq1 : (((V : Nat) : Int) == (V : Int)) = true := by simp
      have hq2 : (x1 == x1) = true := by simp
      have heq := lequal_any _ _ _ _ wr (HV8.out hM) HP8.out
      rw [show (canM cs == canM cs) = true by simp] at heq
      have HEQ := Lib.hid heq
      clear heq hM
      go_wp2_with fail
      refine HEQ.out.mono ?_
      rintro e w9 ⟨rfl, n9, rfl⟩
      go_wp2_with fail
      go_ret
      exact ⟨rfl, below_drewN HB8.out _⟩
    · have hdm : (M != 0) = true := by simp [hM]
      have hdm2 : (M == M) = true := by simp
      obtain ⟨e1, e2, e3⟩ := HV7.out.1 hM
      subst e1 e2 e3
      clear hM
      go_wp2_with fail
      go_ret
      exact ⟨rfl, HB8.out⟩
  obtain ⟨x, hxx, e⟩ := drop_at (xs := cs) (k := k) (by have := HN.out; omega)
  have hcs := HX8.out
  obtain ⟨b, o, u, rfl, _, hb, hcc, hu⟩ := hcs.at hxx
  obtain ⟨ua, un, uc, rfl, HU, hun⟩ := hu.form'
  have HUI := Lib.hid hu
  have HI : Hid (M = if ((x.drop 0).any (outB V) || (cs.drop (k + 1)).any fun c => c.any (outB V)) = true then 3 else ck) := Lib.hid (by
    rw [HR.out, e, List.any_cons, List.drop_zero])
  have hdk : decide ((k : Int) < n) = true := by simp; omega
  have hdk' : decide (k < n) = true := decide_eq_true hk
  obtain ⟨S, hS⟩ : ∃ S, ((cs.drop (k + 1)).any fun c => c.any (outB V)) = S := ⟨_, rfl⟩
  rw [hS] at HI
  have HS := Lib.hid hS
  clear HR e hxx hcs hu hS
  go_wp2_with fail
  go_loopg [10, 42] un (fun g u10 u42 wx => ∃ (j : Nat) (cj : Int), j + g = un ∧ u42 = .int .i64 j ∧ u10 = .int .i64 cj ∧ wx = wr ∧ Hid (M = if ((x.drop j).any (outB V) || S) = true then 3 else cj))
  case atStart => exact ⟨0, ck, by omega, rfl, rfl, rfl, HI⟩
  case round =>
  clear HI
  obtain ⟨j, cj, hjg, rfl, rfl, rfl, HR⟩ := hrel
  by_cases hj : j < un
  case neg =>
    have hdj : decide ((j : Int) < un) = false := by simp; omega
    have hdj' : decide (j < un) = false := decide_eq_false hj
    have HF : Hid (M = if ((cs.drop (k + 1)).any fun c => c.any (outB V)) = true then 3 else cj) := Lib.hid (by rw [HR.out, List.drop_eq_nil_of_le (by have := HU.out; omega), HS.out]; rfl)
    clear HR
    go_wp2_with fail
    go_roundg (GK - 1)
    case measure => omega
    case rel => exact ⟨k + 1, cj, by omega, by go_num, rfl, rfl, HF⟩
  obtain ⟨y, hyy, ey⟩ := drop_at (xs := x) (k := j) (by have := HU.out; omega)
  have hui := HUI.out
  obtain ⟨yb, yo, rfl, _, hyb, hyc, hy64⟩ := hui.at hyy
  have HR2 : Hid (M = if ((outB V y || (x.drop (j + 1)).any (outB V)) || S) = true then 3 else cj) := Lib.hid (by rw [HR.out, ey, List.any_cons])
  have hdj : decide ((j : Int) < un) = true := by simp; omega
  have hdj' : decide (j < un) = true := decide_eq_true hj
  clear HR ey hyy hui
  by_cases h0 : y = 0
  · have HF : Hid (M = if ((x.drop (j + 1)).any (outB V) || S) = true then 3 else 3) := Lib.hid (by rw [HR2.out, outB, decide_eq_true h0]; simp)
    have hd0 : (y == 0) = true := by simp [h0]
    clear h0 HR2
    go_wp2_with fail
    go_roundg (gk - 1)
    case measure => omega
    case rel => exact ⟨j + 1, 3, by omega, by go_num, rfl, rfl, HF⟩
  have hd0 : (y == 0) = false := by simp [h0]
  have HM := Lib.hid (lmagnitude_any y wr hy64)
  have hov : outB V y = decide ((V : Int) < varM y) := by rw [outB, decide_eq_false h0]; rfl
  rw [hov] at HR2
  generalize varM y = m at *
  clear h0 hov
  by_cases h1 : (V : Int) < m
  · have HF : Hid (M = if ((x.drop (j + 1)).any (outB V) || S) = true then 3 else 3) := Lib.hid (by rw [HR2.out, decide_eq_true h1]; simp)
    have hq : decide ((V : Int) < m) = true := decide_eq_true h1
    clear h1 HR2
    go_wp2_with fail
    refine HM.out.mono ?_
    rintro e w9 ⟨rfl, rfl⟩
    go_wp2_with fail
    go_roundg (gk - 1)
    case measure => omega
    case rel => exact ⟨j + 1, 3, by omega, by go_num, rfl, rfl, HF⟩
  · have HF : Hid (M = if ((x.drop (j + 1)).any (outB V) || S) = true then 3 else cj) := Lib.hid (by rw [HR2.out, decide_eq_false h1]; rfl)
    have hq : decide ((V : Int) < m) = false := decide_eq_false h1
    clear h1 HR2
    go_wp2_with fail
    refine HM.out.mono ?_
    rintro e w9 ⟨rfl, rfl⟩
    go_wp2_with fail
    go_roundg (gk - 1)
    case measure => omega
    case rel => exact ⟨j + 1, cj, by omega, by go_num, rfl, rfl, HF⟩
end Go.Proofs.Ytjjbpfbbfjdhdaa
