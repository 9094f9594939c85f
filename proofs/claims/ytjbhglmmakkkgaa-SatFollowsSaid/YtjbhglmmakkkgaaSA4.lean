/- Walk of the law SatFollows. -/
import Derived.Test.YtjbhglmmakkkgaaSA2
import Derived.Deep.RegionHeld3
namespace Go.Proofs.Ytjbhglmmakkkgaa
open Go.ChangeShapes Go.WideShapes Go.ChangeAt Go.RowKit
set_option linter.unusedVariables false

theorem res_mem {V : Nat} {cs : List (List Int)} {lits r1 : List Int} (hcs : LitsOk V cs) (hl : ∀ l ∈ lits, LitOk V l) (h : PropRes V cs lits (r1, false)) (l : Int) : l ∈ r1 ↔ Der cs (· ∈ lits) l := by
  obtain ⟨D, h1, h2⟩ := h.some rfl
  simp only at h2
  rw [h2, outP_mem]
  constructor
  · rintro ⟨u, k1, k2, ⟨rfl, k3⟩ | ⟨rfl, k3⟩⟩
    · exact (h1 _ (by unfold LitOk; omega)).1 k3
    · exact (h1 _ (by unfold LitOk; omega)).1 k3
  · intro hd
    have hlo := hd.lit hcs hl
    obtain ⟨u, k1, k2, h3⟩ := hlo.cases
    refine ⟨u, k1, by omega, ?_⟩
    rcases h3 with ⟨e, _⟩ | ⟨e, _⟩
    · exact .inr ⟨e, (h1 _ hlo).2 hd⟩
    · exact .inl ⟨e, (h1 _ hlo).2 hd⟩
theorem res_again {V : Nat} {cs : List (List Int)} {lits r1 : List Int} (hcs : LitsOk V cs) (hl : ∀ l ∈ lits, LitOk V l) (h : PropRes V cs lits (r1, false)) : PropRes V cs r1 (r1, false) := by
  have hm := res_mem hcs hl h
  have hd : ∀ l, Der cs (· ∈ r1) l ↔ Der cs (· ∈ lits) l := fun l => ⟨fun k => k.trans fun x hx => (hm x).1 hx, fun k => .base ((hm l).2 k)⟩
  have hc : Conf cs (· ∈ r1) ↔ Conf cs (· ∈ lits) := by
    unfold Conf
    simp only [hd]
  obtain ⟨D, h1, h2⟩ := h.some rfl
  refine ⟨?_, fun k => (by cases k), fun _ => ⟨D, fun l hl => (h1 l hl).trans (hd l).symm, h2⟩⟩
  rw [hc]
  exact h.conf
theorem prop_of {V : Nat} {keep : Int} {cs : List (List Int)} {lits : List Int} {q : List Int × Bool} (hck : checkM V keep cs = 0) (hcs : LitsOk V cs) (hl : ∀ l ∈ lits, LitOk V l) (h : PropRes V cs lits q) : propagateM V keep cs lits = (q.1, q.2, 0) := by
  have hb : lits.any (badB V) = false := by
    rw [List.any_eq_false]
    intro l hl'
    have := litB_badB (V := V) (n := l)
    rw [litB_iff.2 (hl l hl')] at this
    simpa using this
  have := (prog_res hcs hl).eq h
  unfold propagateM
  rw [if_neg (by omega), Int.toNat_natCast, if_neg (by rw [hb]; simp)]
  subst this
  split <;> rfl
theorem eqB (x y : Bool) : (x == y) = true ∨ (x == y) = false := by cases (x == y) <;> simp

set_option maxRecDepth 100000 in
set_option maxHeartbeats 16000000 in
theorem follows_walk {F G : Nat → Prop} (vars keep : Int) (cv lv : Value) (cs : List (List Int)) (lits : List Int) (kk : Int) (w : World) (hc : Clss F w cv cs) (hl : Ints G w lv lits) (hv : I64 vars) (hk : I64 keep) (hkk : 0 ≤ kk ∧ kk ≤ 65535) :
    Calls Try.prog 6 #[.agg #[.int .i64 vars, .int .i64 keep, cv], lv, .int .u16 kk] w (BoolPost w true) := by
  obtain ⟨K0, rfl⟩ := Int.eq_ofNat_of_zero_le hkk.1
  have hK0 : K0 ≤ 65535 := by omega
  obtain ⟨a, n, c, rfl, HN, hn⟩ := hc.form'
  obtain ⟨la, ln, lc, rfl, HLN, hln⟩ := hl.form'
  have hb : Below w.heap.size w (w.alloc (.cells #[.int .i64 vars, .int .i64 keep, .slice a n c] 24)) := (Below.refl _ _).alloc (Nat.le_refl _) _
  have HB := Lib.hid hb
  have HL0 := Lib.hid hl
  have HX := Lib.hid (Box.new (vars := vars) (keep := keep) hc)
  clear hb hc hl hkk
  go_enter Try.func6, Try.ntmps6
  go_wp2_with fail
  refine (known_any _).mono ?_
  rintro e w1 ⟨rfl, hb1⟩
  have HB1 : Hid (Below w.heap.size w w1) := Lib.hid (HB.out.trans (hb1.mono (by simp)))
  have HX1 := Lib.hid (HX.out.below hb1)
  have c0 := HX1.out.c0
  have c1 := HX1.out.c1
  have c2 := HX1.out.c2
  clear hb1 HX HB
  go_wp2_with fail
  refine (few_any vars keep 12 60 _ cs w1 HX1.out.cls (by omega) hv).mono ?_
  rintro e w2 ⟨rfl, hb2⟩
  have HB2 : Hid (Below w.heap.size w w2) := Lib.hid (HB1.out.trans (hb2.mono HB1.out.size))
  have HX2 := Lib.hid (HX1.out.below hb2)
  clear hb2 c0 c1 c2 HX1 HB1
  rcases hf : fewM vars cs 12 60 with _ | _
  · go_wp2_with fail
    go_ret
    exact ⟨rfl, HB2.out⟩
  have c0 := HX2.out.c0
  have c1 := HX2.out.c1
  have c2 := HX2.out.c2
  by_cases h20 : 20 < ln
  · have hd : decide ((20 : Int) < ln) = true := by simp; omega
    have hd2 : decide (20 < ln) = true := by simp; omega
    clear h20
    go_wp2_with fail
    go_ret
    exact ⟨rfl, HB2.out⟩
  have hd : decide ((20 : Int) < ln) = false := by simp; omega
  have hd2 : decide (20 < ln) = false := by simp; omega
  obtain ⟨hv12, _, _⟩ := few_of hf
  have hva := valid_any vars keep (.slice a n c) cs w2 HX2.out.cls hv hk
  obtain ⟨T, hT⟩ : ∃ T, validM vars keep cs = T := ⟨_, rfl⟩
  have HTC : Hid (T = true ↔ checkM vars keep cs = 0) := Lib.hid (by rw [← hT]; exact valid_check vars keep cs)
  rw [hT] at hva
  have HVA := Lib.hid hva
  clear hva hT hf h20
  go_wp2_with fail
  refine HVA.out.mono ?_
  rintro e w3 ⟨rfl, hb3⟩
  have HB3 : Hid (Below w.heap.size w w3) := Lib.hid (HB2.out.trans (hb3.mono HB2.out.size))
  have HX3 := Lib.hid (HX2.out.below hb3)
  clear hb3 c0 c1 c2 HX2 HB2 HVA
  rcases bool2 T with rfl | rfl
  case inr =>
    go_wp2_with fail
    go_ret
    exact ⟨rfl, HB3.out⟩
  have h0 := HTC.out.1 rfl
  obtain ⟨V, rfl, hV2, _, _, hcl, hlo, _⟩ := check_ok h0
  have H0 := Lib.hid h0
  have HLO := Lib.hid hlo
  have c0 := HX3.out.c0
  have c1 := HX3.out.c1
  have c2 := HX3.out.c2
  have HT0 : Hid (∀ l ∈ lits.take 0, LitOk V l) := Lib.hid (by simp)
  clear h0 hlo HTC
  go_wp2_with fail
  go_loopg [38] ln (fun gg u38 wx => ∃ k : Nat, k + gg = ln ∧ u38 = .int .i64 k ∧ w3 = wx ∧ Hid (∀ l ∈ lits.take k, LitOk V l))
  case atStart => exact ⟨0, by omega, rfl, rfl, HT0⟩
  case round =>
  clear HT0
  obtain ⟨k, hkg, rfl, rfl, HT⟩ := hrel
  by_cases hk : k < ln
  case pos =>
    obtain ⟨x, hx, e⟩ := drop_at (xs := lits) (k := k) (by have := HLN.out; omega)
    have hll := HL0.out.below HB3.out
    obtain ⟨xb, xo, rfl, _, hxb, hxc, hx64⟩ := hll.at hx
    have hli := literal_any V x w3 ⟨by omega, by omega⟩ hx64
    obtain ⟨bd, hbd⟩ : ∃ b, litB V x = b := ⟨_, rfl⟩
    have HTK : Hid (bd = true → ∀ l ∈ lits.take (k + 1), LitOk V l) := Lib.hid (fun h l hl => by
      rw [List.take_succ_eq_append_getElem (by have := HLN.out; omega)] at hl
      rcases List.mem_append.1 hl with hl | hl
      · exact HT.out l hl
      · have h2 : lits[k]'(by have := HLN.out; omega) = x := by rw [List.getElem?_eq_getElem (by have := HLN.out; omega)] at hx; injection hx
        rw [h2] at hl
        simp at hl
        exact hl ▸ litB_iff.1 (hbd.trans h))
    rw [hbd] at hli
    have HLI := Lib.hid hli
    clear e hx hll hli hx64 hbd HT
    rcases bool2 bd with rfl | rfl
    · have HTN := Lib.hid (HTK.out rfl)
      go_wp2_with fail
      refine HLI.out.mono ?_
      rintro e w5 ⟨rfl, rfl⟩
      go_wp2_with fail
      go_roundg (gk - 1)
      case measure => omega
      case rel => exact ⟨k + 1, by omega, by go_num, rfl, HTN⟩
    · go_wp2_with fail
      refine HLI.out.mono ?_
      rintro e w5 ⟨rfl, rfl⟩
      go_wp2_with fail
      try rw [Exit.noGoto_ret]
      go_ret
      exact ⟨rfl, HB3.out⟩
  have HLL : Hid (∀ l ∈ lits, LitOk V l) := Lib.hid (by
    have := HT.out
    rwa [List.take_of_length_le (by have := HLN.out; omega)] at this)
  have hdk : decide (k < ln) = false := decide_eq_false hk
  have hres := prog_res HLO.out HLL.out
  obtain ⟨r, hr⟩ : ∃ r, (if okM V cs lits = false then (([] : List Int), true) else (outGo2 (marksM V cs lits) V 1, false)) = r := ⟨_, rfl⟩
  rw [hr] at hres
  have HRES := Lib.hid hres
  have hpo := Propagate_any V keep (.slice a n c) (.slice la ln lc) cs lits w3 HX3.out.cls (HL0.out.below HB3.out) hv (by assumption)
  rw [prop_of H0.out HLO.out HLL.out hres] at hpo
  have HPO := Lib.hid hpo
  clear hk HT hres hr hpo
  go_wp2_with fail
  refine HPO.out.mono ?_
  rintro e w4 ⟨mv, rfl, hm, hb4⟩
  have HB4 : Hid (Below w.heap.size w w4) := Lib.hid (HB3.out.trans (hb4.mono HB3.out.size))
  have HX4 := Lib.hid (HX3.out.below hb4)
  have HM := Lib.hid hm
  obtain ⟨ma, mn, mc, rfl, HMN, hmnl⟩ : ∃ a n c, mv = .slice a n c ∧ Hid (n = r.1.length) ∧ n ≤ 9223372036854775807 := by
    obtain ⟨a, c, h, h2⟩ := hm.form
    exact ⟨a, _, c, h, rfl, h2⟩
  clear hb4 hm c0 c1 c2 HX3 HB3 HPO
  have c0 := HX4.out.c0
  have c1 := HX4.out.c1
  have c2 := HX4.out.c2
  simp only
  -- the number of the assignment
  obtain ⟨P, hP⟩ : ∃ P, 2 ^ V = P := ⟨_, rfl⟩
  have hPI : (2 : Int) ^ V = (P : Int) := by rw [← hP]; simp
  have hP24 : P ≤ 16777216 := by rw [← hP]; exact pow24 (by omega)
  have hP1 : 1 ≤ P := by rw [← hP]; exact Nat.one_le_two_pow
  have hpw := fun w => power_any V w (by omega)
  simp only [hPI] at hpw
  have HPW := Lib.hid hpw
  obtain ⟨K, hK⟩ : ∃ K, K0 % P = K := ⟨_, rfl⟩
  have hm1 : ((K0 : Int) % (P : Int)) = (K : Int) := by rw [← hK]; simp
  have hm2 : ((K0 : Int).tmod (P : Int)) = (K : Int) := by rw [Int.tmod_eq_emod_of_nonneg (by omega)]; exact hm1
  have hKb : K ≤ 65535 := by rw [← hK]; exact Nat.le_trans (Nat.mod_le _ _) hK0
  have hpz : ((P : Int) == 0) = false := by simp; omega
  have hpn : P ≠ 0 := by omega
  have hpn2 : (P : Int) ≠ 0 := by omega
  have hkc : IntKind.i64.wrap (K0 : Int) = (K0 : Int) := IntWalk.i64_in _ ⟨by omega, by omega⟩
  have hk00 : (0 : Int) ≤ K0 := by omega
  have hp00 : (0 : Int) < P := by omega
  obtain ⟨X, hX⟩ : ∃ X, asgM V K = X := ⟨_, rfl⟩
  have hxl : X.length = V := by rw [← hX]; exact asg_len _ _
  have HXL := Lib.hid hxl
  have HAX := Lib.hid hX
  clear hP hPI hpw hK hX hxl
  have has : ∀ W : World, Calls Try.prog 22 #[.int .i64 (V : Int), .int .i64 (K : Int)] W (BoolsPost W X) := fun W => by
    have := assignment_any V K W (by omega) (by omega)
    rwa [HAX.out] at this
  have HAS := Lib.hid has
  have hwb := block_lt c0
  clear has
  go_upto_region 14 with fail
  go_cut [12] (fun u12 wx => Hid (Bools (fun _ => True) wx u12 X) ∧ Hid (Below w4.heap.size w4 wx))
  case first =>
    go_region_held3 (fun w' => w'.cell? ⟨w.heap.size, 0, none⟩ = some (.int .i64 V) ∧ Hid (Below w4.heap.size w4 w'))
      (first | exact ⟨c0, Lib.hid (Below.refl _ _).drew⟩ | exact ⟨below_c hb5 hwb c0, Lib.hid hb5⟩)
      (first
        | (go_at_call 25; (with_reducible refine (HPW.out _).mono ?_); rintro e wz ⟨rfl, rfl⟩)
        | (go_at_call 22; (with_reducible refine (HAS.out _).mono ?_); rintro e wz ⟨iv, rfl, hi5, hb5'⟩; have hb5 : Below w4.heap.size w4 wz := ((Below.refl _ _).drew).trans (hb5'.mono (by simp)); clear hb5'; obtain ⟨ia, ic, rfl, _⟩ := hi5.form))
    all_goals
      go_wp2_with fail
      go_meet
      exact ⟨Lib.hid (hi5.mono fun _ _ => trivial), Lib.hid hb5⟩
  case rest =>
  obtain ⟨HI5, HB45⟩ := hcut
  have HB5 : Hid (Below w.heap.size w wc) := Lib.hid (HB4.out.trans (HB45.out.mono HB4.out.size))
  have HX5 := Lib.hid (HX4.out.below HB45.out)
  have HM5 := Lib.hid (HM.out.below HB45.out)
  obtain ⟨w5, hw5⟩ : ∃ x, x = wc := ⟨_, rfl⟩
  subst hw5
  obtain ⟨ia, ic, rfl, _⟩ := HI5.out.form
  rw [HXL.out] at HI5 ⊢
  clear c0 c1 c2 HX4 HB4 HM HB45 HAS
  have c0 := HX5.out.c0
  have c1 := HX5.out.c1
  have c2 := HX5.out.c2
  have hwb := block_lt c0
  obtain ⟨MH, hMH⟩ : ∃ b, modelB cs X = b := ⟨_, rfl⟩
  have HMH := Lib.hid hMH
  have hho : ∀ W : World, Below w5.heap.size w5 W → Calls Try.prog 26 #[.agg #[.int .i64 (V : Int), .int .i64 keep, .slice a n c], .slice none 0 0, .int .i64 (K : Int)] W (BoolPost W MH) := fun W hb => by
    have := holds_any V K keep (.slice a n c) (.slice none 0 0) cs (List.replicate cs.length true) W (HX5.out.cls.below hb) (Flags.nil _ _) HLO.out (by omega) (by omega)
    rwa [holds_model cs _ rfl, HAX.out, hMH] at this
  have HHO := Lib.hid hho
  clear hMH hho
  go_upto_region 15 with fail
  go_cut [13] (fun u13 wx => u13 = .bool MH ∧ Hid (Below w5.heap.size w5 wx))
  case first =>
    go_region_held3 (fun w' => w'.cell? ⟨w.heap.size, 0, none⟩ = some (.int .i64 V) ∧ w'.cell? ⟨w.heap.size, 1, none⟩ = some (.int .i64 keep) ∧ w'.cell? ⟨w.heap.size, 2, none⟩ = some (.slice a n c) ∧ Hid (Below w5.heap.size w5 w'))
      (first | exact ⟨c0, c1, c2, Lib.hid (Below.refl _ _).drew⟩ | exact ⟨below_c hb5 hwb c0, below_c hb5 hwb c1, below_c hb5 hwb c2, Lib.hid hb5⟩)
      (first
        | (go_at_call 25; (with_reducible refine (HPW.out _).mono ?_); rintro e wz ⟨rfl, rfl⟩)
        | (go_at_call 26; (with_reducible refine (HHO.out _ (Below.refl _ _).drew).mono ?_); rintro e wz ⟨rfl, hb5'⟩; have hb5 : Below w5.heap.size w5 wz := ((Below.refl _ _).drew).trans (hb5'.mono (by simp)); clear hb5'))
    all_goals
      go_wp2_with fail
      go_meet
      exact ⟨rfl, Lib.hid hb5⟩
  case rest =>
  obtain ⟨rfl, HB56⟩ := hcut
  have HB6 : Hid (Below w.heap.size w wc) := Lib.hid (HB5.out.trans (HB56.out.mono HB5.out.size))
  have HX6 := Lib.hid (HX5.out.below HB56.out)
  have HM6 := Lib.hid (HM5.out.below HB56.out)
  have HI6 := Lib.hid (Bools.below HI5.out HB56.out)
  obtain ⟨w6, hw6⟩ : ∃ x, x = wc := ⟨_, rfl⟩
  subst hw6
  clear c0 c1 c2 HX5 HB5 HM5 HB56 HHO HI5 hm1 hm2 HPW hwb
  have c0 := HX6.out.c0
  have c1 := HX6.out.c1
  have c2 := HX6.out.c2
  obtain ⟨MD, hMD⟩ : ∃ b, (MH && lits.all (litT X)) = b := ⟨_, rfl⟩
  have HMD := Lib.hid hMD
  have HMD0 : Hid (MD = (MH && (lits.drop 0).all (litT X))) := Lib.hid hMD.symm
  clear hMD
  go_wp2_with fail
  go_loopg [13, 76] ln (fun gg u13 u76 wx => ∃ (k : Nat) (b : Bool), k + gg = ln ∧ u76 = .int .i64 k ∧ u13 = .bool b ∧ w6 = wx ∧ Hid (MD = (b && (lits.drop k).all (litT X))))
  case atStart => exact ⟨0, MH, by omega, rfl, rfl, rfl, HMD0⟩
  case round =>
  clear HMD0
  obtain ⟨k2, b, hkg2, rfl, rfl, rfl, HDX⟩ := hrel
  by_cases hk2 : k2 < ln
  case pos =>
    obtain ⟨y, hyy, ey⟩ := drop_at (xs := lits) (k := k2) (by have := HLN.out; omega)
    have hll := HL0.out.below HB6.out
    obtain ⟨yb, yo, rfl, _, hyb, hyc, _⟩ := hll.at hyy
    have hylo := HLL.out y (List.mem_of_getElem? hyy)
    have HDE : Hid (MD = (b && (litT X y && (lits.drop (k2 + 1)).all (litT X)))) := Lib.hid (by rw [HDX.out, ey, List.all_cons])
    rcases bool2 b with rfl | rfl
    case inr =>
      have HDN : Hid (MD = (false && (lits.drop (k2 + 1)).all (litT X))) := Lib.hid (by rw [HDE.out]; simp)
      clear HDX HDE ey hyy hll hylo
      go_wp2_with fail
      go_roundg (gk - 1)
      case measure => omega
      case rel => exact ⟨k2 + 1, false, by omega, by go_num, rfl, rfl, HDN⟩
    have hva := fun w => variable_any y w (by obtain ⟨_, h2, h3⟩ := hylo; omega)
    obtain ⟨v', hv'⟩ : ∃ v', v' + 1 = y.natAbs := ⟨y.natAbs - 1, by have := hylo.1; omega⟩
    obtain ⟨bx, hbx⟩ : ∃ b, X[v']? = some b := ⟨_, List.getElem?_eq_getElem (by obtain ⟨_, h2, h3⟩ := hylo; have := HXL.out; omega)⟩
    have hif := HI6.out
    obtain ⟨xb, xo, rfl, _, hxb, hxc⟩ := hif.at hbx
    obtain ⟨pb, hpb⟩ : ∃ p, decide (0 < y) = p := ⟨_, rfl⟩
    have HDN : Hid (MD = ((bx == pb) && (lits.drop (k2 + 1)).all (litT X))) := Lib.hid (by
      rw [HDE.out, litT, show y.natAbs - 1 = v' by omega, hpb, List.getD, hbx]; simp)
    have hvm : varM y = ((v' + 1 : Nat) : Int) := by rw [varM_pos]; omega
    rw [hvm] at hva
    have HVA := Lib.hid hva
    have hw1 : IntKind.i64.wrap (((v' + 1 : Nat) : Int) - 1) = (v' : Int) := by rw [IntWalk.i64_in _ ⟨by obtain ⟨_, h2, h3⟩ := hylo; omega, by obtain ⟨_, h2, h3⟩ := hylo; omega⟩]; omega
    have hw2 : (((v' + 1 : Nat) : Int) - 1) = (v' : Int) := by omega
    have hv3 : v' < V := by obtain ⟨_, h2, h3⟩ := hylo; omega
    clear HDX HDE ey hyy hll hif hva hvm hbx hv' hylo
    rcases bool2 pb with rfl | rfl
    · have hpp : 0 < y := of_decide_eq_true hpb
      rcases bool2 bx with rfl | rfl
      all_goals
        go_wp2_with fail
        refine (HVA.out _).mono ?_
        rintro e w7 ⟨rfl, rfl⟩
        go_wp2_with fail
        go_roundg (gk - 1)
        case measure => omega
        case rel => exact ⟨k2 + 1, _, by omega, by go_num, rfl, rfl, HDN⟩
    · have hpp : ¬ 0 < y := of_decide_eq_false hpb
      rcases bool2 bx with rfl | rfl
      all_goals
        go_wp2_with fail
        refine (HVA.out _).mono ?_
        rintro e w7 ⟨rfl, rfl⟩
        go_wp2_with fail
        go_roundg (gk - 1)
        case measure => omega
        case rel => exact ⟨k2 + 1, _, by omega, by go_num, rfl, rfl, HDN⟩
  have HMB : Hid (MD = b) := Lib.hid (by rw [HDX.out, List.drop_eq_nil_of_le (by have := HLN.out; omega)]; simp)
  have hdk2 : decide (k2 < ln) = false := decide_eq_false hk2
  have HMOD : Hid (b = true → Mod V cs lits X) := Lib.hid (fun h => by
    have h1 := HMB.out
    rw [h, ← HMD.out, Bool.and_eq_true, ← HMH.out] at h1
    exact ⟨HXL.out, h1.1, fun l hl => List.all_eq_true.1 h1.2 l hl⟩)
  clear hk2 HDX HMD HMB
  obtain ⟨r1, r2⟩ := r
  simp only at HM6 HMN ⊢
  rcases bool2 r2 with rfl | rfl
  · have hbf : b = false := by
      rcases bool2 b with rfl | rfl
      · exact absurd (HRES.out.conf.1 rfl) (fun h => h.no HLO.out HLL.out (HMOD.out rfl).2.1 (HMOD.out rfl).2.2)
      · rfl
    subst hbf
    go_wp2_with fail
    go_ret
    exact ⟨rfl, HB6.out⟩
  have hr1l : ∀ l ∈ r1, LitOk V l := fun l hl => ((res_mem HLO.out HLL.out HRES.out l).1 hl).lit HLO.out HLL.out
  have hpo := Propagate_any V keep (.slice a n c) (.slice ma mn mc) cs r1 w6 HX6.out.cls HM6.out hv (by assumption)
  rw [prop_of H0.out HLO.out hr1l (res_again HLO.out HLL.out HRES.out)] at hpo
  have HPO := Lib.hid hpo
  have HR1L := Lib.hid hr1l
  have HTRUE : Hid (b = true → ∀ l ∈ r1, litT X l = true) := Lib.hid (fun h l hl => (HMOD.out h).der HLO.out ((res_mem HLO.out HLL.out HRES.out l).1 hl))
  clear hpo hr1l HMOD HRES
  go_wp2_with fail
  refine HPO.out.mono ?_
  rintro e w7 ⟨av, rfl, ham, hb7⟩
  have HB7 : Hid (Below w.heap.size w w7) := Lib.hid (HB6.out.trans (hb7.mono HB6.out.size))
  have HX7 := Lib.hid (HX6.out.below hb7)
  have HM7 := Lib.hid (HM6.out.below hb7)
  have HI7 := Lib.hid (Bools.below HI6.out hb7)
  have heq := equal_any av (.slice ma mn mc) r1 r1 w7 ham HM7.out
  have hxx : (r1 == r1) = true := by simp
  rw [hxx] at heq
  have HEQ := Lib.hid heq
  obtain ⟨aa, ac, rfl, _⟩ := ham.form
  clear hb7 ham c0 c1 c2 HX6 HB6 HM6 HI6 HPO heq hxx
  simp only
  go_wp2_with fail
  refine HEQ.out.mono ?_
  rintro e w8 ⟨rfl, h8⟩
  have hb8 : Below w7.heap.size w7 w8 := by
    obtain ⟨n8, rfl⟩ := h8
    exact below_drewN (Below.refl _ _) n8
  have HB8 : Hid (Below w.heap.size w w8) := Lib.hid (HB7.out.trans (hb8.mono HB7.out.size))
  have HX8 := Lib.hid (HX7.out.below hb8)
  have HM8 := Lib.hid (HM7.out.below hb8)
  have HI8 := Lib.hid (Bools.below HI7.out hb8)
  clear hb8 h8 HX7 HB7 HM7 HI7 HEQ
  have c0 := HX8.out.c0
  go_wp2_with fail
  go_loopg [116] mn (fun gg u116 wx => ∃ k : Nat, k + gg = mn ∧ u116 = .int .i64 k ∧ w8 = wx)
  case atStart => exact ⟨0, by omega, rfl, rfl⟩
  case round =>
  obtain ⟨k3, hkg3, rfl, rfl⟩ := hrel
  by_cases hk3 : k3 < mn
  case neg =>
    have hk4 : mn ≤ k3 := by omega
    clear hk3
    go_wp2_with fail
    go_ret
    exact ⟨rfl, HB8.out⟩
  obtain ⟨y, hyy, ey⟩ := drop_at (xs := r1) (k := k3) (by have := HMN.out; omega)
  have hll := HM8.out
  obtain ⟨yb, yo, rfl, _, hyb, hyc, hy64⟩ := hll.at hyy
  have hylo := HR1L.out y (List.mem_of_getElem? hyy)
  have hli := literal_any V y w8 ⟨by omega, by omega⟩ hy64
  rw [litB_iff.2 hylo] at hli
  have HLI := Lib.hid hli
  have HYT : Hid (b = true → litT X y = true) := Lib.hid (fun h => HTRUE.out h y (List.mem_of_getElem? hyy))
  rcases bool2 b with rfl | rfl
  case inr =>
    clear ey hyy hll hylo hli hy64 HYT
    go_wp2_with fail
    refine HLI.out.mono ?_
    rintro e w9 ⟨rfl, rfl⟩
    go_wp2_with fail
    go_roundg (gk - 1)
    case measure => omega
    case rel => exact ⟨k3 + 1, by omega, by go_num, rfl⟩
  have hva := fun w => variable_any y w (by obtain ⟨_, h2, h3⟩ := hylo; omega)
  obtain ⟨v', hv'⟩ : ∃ v', v' + 1 = y.natAbs := ⟨y.natAbs - 1, by have := hylo.1; omega⟩
  obtain ⟨bx, hbx⟩ : ∃ b, X[v']? = some b := ⟨_, List.getElem?_eq_getElem (by obtain ⟨_, h2, h3⟩ := hylo; have := HXL.out; omega)⟩
  have hif := HI8.out
  obtain ⟨xb, xo, rfl, _, hxb, hxc⟩ := hif.at hbx
  obtain ⟨pb, hpb⟩ : ∃ p, decide (0 < y) = p := ⟨_, rfl⟩
  have hbp : bx = pb := by
    have := HYT.out rfl
    rw [litT, show y.natAbs - 1 = v' by omega, hpb, List.getD, hbx] at this
    simpa using this
  have hvm : varM y = ((v' + 1 : Nat) : Int) := by rw [varM_pos]; omega
  rw [hvm] at hva
  have HVA := Lib.hid hva
  have hw1 : IntKind.i64.wrap (((v' + 1 : Nat) : Int) - 1) = (v' : Int) := by rw [IntWalk.i64_in _ ⟨by obtain ⟨_, h2, h3⟩ := hylo; omega, by obtain ⟨_, h2, h3⟩ := hylo; omega⟩]; omega
  have hw2 : (((v' + 1 : Nat) : Int) - 1) = (v' : Int) := by omega
  have hv3 : v' < V := by obtain ⟨_, h2, h3⟩ := hylo; omega
  subst hbp
  clear ey hyy hll hif hva hvm hbx hv' hylo hli hy64 HYT
  rcases bool2 bx with rfl | rfl
  · have hpp : 0 < y := of_decide_eq_true hpb
    go_wp2_with fail
    refine HLI.out.mono ?_
    rintro e w9 ⟨rfl, rfl⟩
    go_wp2_with fail
    refine (HVA.out _).mono ?_
    rintro e w9 ⟨rfl, rfl⟩
    go_wp2_with fail
    go_roundg (gk - 1)
    case measure => omega
    case rel => exact ⟨k3 + 1, by omega, by go_num, rfl⟩
  · have hpp : ¬ 0 < y := of_decide_eq_false hpb
    go_wp2_with fail
    refine HLI.out.mono ?_
    rintro e w9 ⟨rfl, rfl⟩
    go_wp2_with fail
    refine (HVA.out _).mono ?_
    rintro e w9 ⟨rfl, rfl⟩
    go_wp2_with fail
    go_roundg (gk - 1)
    case measure => omega
    case rel => exact ⟨k3 + 1, by omega, by go_num, rfl⟩
end Go.Proofs.Ytjbhglmmakkkgaa
