/- Walks: the statements' assignment and plain, True. No condition but the sizes, and that the literals are variables. -/
import Derived.Test.YtjjbpfbbfjdhdaaQm
namespace Go.Proofs.Ytjjbpfbbfjdhdaa
open Go.ChangeShapes Go.WideShapes Go.ChangeAt Go.RowKit
set_option linter.unusedVariables false

theorem i64_low (n : Int) : bits .and .i64 n 1 = n % 2 := by
  have h1 : (BitVec.ofInt 64 n &&& BitVec.ofInt 64 1).toNat = (n % ((2 ^ 64 : Nat) : Int)).toNat % 2 := by
    rw [BitVec.toNat_and, BitVec.toNat_ofInt, show (BitVec.ofInt 64 1).toNat = 2 ^ 1 - 1 by decide, Nat.and_two_pow_sub_one_eq_mod]
  show IntKind.i64.wrap ((BitVec.ofInt 64 n &&& BitVec.ofInt 64 1).toNat : Nat) = n % 2
  rw [h1, IntKind.wrap_i64]
  omega
theorem bit_test (k g : Nat) : (bits .and .i64 ((k : Int) / 2 ^ g) 1 == 1) = k.testBit g := by
  rw [i64_low, show ((k : Int) / 2 ^ g) = ((k / 2 ^ g : Nat) : Int) by simp, Nat.testBit_eq_decide_div_mod_eq]
  rcases Nat.mod_two_eq_zero_or_one (k / 2 ^ g) with h | h
  · rw [show ((k / 2 ^ g : Nat) : Int) % 2 = 0 by omega, h]; rfl
  · rw [show ((k / 2 ^ g : Nat) : Int) % 2 = 1 by omega, h]; rfl

/-- the assignment with the number k -/
def assM (n k : Nat) : List Bool := (List.range n).map fun j => k.testBit (n - 1 - j)
theorem assM_len (n k : Nat) : (assM n k).length = n := by simp [assM]
theorem assM_take (n k j : Nat) (h : j < n) : (assM n k).take (j + 1) = (assM n k).take j ++ [k.testBit (n - 1 - j)] := by
  rw [List.take_succ_eq_append_getElem (by rw [assM_len]; exact h)]
  simp [assM]
set_option maxHeartbeats 1000000 in
theorem assign_any (n k : Nat) (w : World) (hn : n ≤ 62) (hk : k < 4611686018427387904) :
    Calls Try.prog 18 #[.int .i64 n, .int .i64 k] w (BoolsPost w (assM n k)) := by
  have hinfo : (Try.prog.info? 4).map (fun i => (i.zero, i.size, i.bytes)) = some (some (.bool false), 1, 1) := by kernel_rfl
  have HI := Lib.hid hinfo
  clear hinfo
  have ho0 : (w.alloc (.cells #[] 4)).ownsRow w.heap.size 4 1 (.slice (some ⟨w.heap.size, 0, none⟩) 0 0) 0 (((assM n k).take 0).map .bool) := by simpa using own_new (base := w.heap.size) (w := w) #[] 4 (by omega) (by simp)
  have hb0 : Below w.heap.size w (w.alloc (.cells #[] 4)) := (Below.refl _ _).alloc (Nat.le_refl _) _
  have HO0 := Lib.hid ho0
  have HB0 := Lib.hid hb0
  clear ho0 hb0
  go_enter Try.func18, Try.ntmps18
  go_wp2
  go_loopg [5, 6] (n) (fun g u5 u6 wx => ∃ (j : Nat), j + g = n ∧ u6 = .int .i64 ((g : Int) - 1) ∧ Below w.heap.size w wx ∧ wx.ownsRow w.heap.size 4 1 u5 j (((assM n k).take j).map .bool))
  case atStart => exact ⟨0, by omega, by go_num, HB0.out, HO0.out⟩
  case round =>
    clear HO0 HB0
    obtain ⟨j, hj, rfl, hB, hown⟩ := hrel
    have HB := Lib.hid hB
    have HO := Lib.hid hown
    have hbs := hB.size
    clear hB hown
    rcases gk with _ | g
    · have hjn : j = n := by omega
      subst hjn
      go_wp2
      go_ret
      have h := HO.out
      rw [List.take_of_length_le (by rw [assM_len]; omega)] at h
      exact ⟨_, rfl, (ownsRow_sl1 h (by omega)).mono fun b hb => hb.1, HB.out⟩
    · have hown := HO.out
      go_wp2_with (at_builtin; go_loud (refine wpList_push1 rfl _ _ 37 rfl 4 (.bool false) 1 Try.underlying37 HI.out rfl w.heap.size u5 j _ wr _ rfl rfl hown rfl (by omega) (by omega) (by omega) ?_); intro g3 cap3 w3 hown3 hg3 hs3 hgb hgl _; have HB3 := Lib.hid (HB.out.grown hg3 (by omega) (fun k hk => (hown.lt k hk).1)); have HO3 := Lib.hid hown3; clear hown3 hg3 hown)
      go_roundg g
      case measure => omega
      case rel =>
        refine ⟨j + 1, by omega, by go_num, HB3.out, ?_⟩
        have h := HO3.out
        rw [assM_take n k j (by omega), List.map_append, show n - 1 - j = g by omega, ← bit_test]
        exact h
/-- a literal is true under an assignment -/
def litT (inp : List Bool) (x : Int) : Bool := (decide (0 < x) && inp.getD (x.toNat - 1) false) || (decide (x < 0) && !inp.getD ((-x).toNat - 1) false)
/-- True -/
def trueM (cs : List (List Int)) (inp : List Bool) : Bool := cs.all fun c => c.any (litT inp)
/-- plain -/
def plainM (cs : List (List Int)) (n : Nat) : Bool := !(cs.any fun c => c.any (outB n))
theorem plain_lits {cs : List (List Int)} {n : Nat} (h : plainM cs n = true) : ∀ c ∈ cs, ∀ x ∈ c, x ≠ 0 ∧ varM x ≤ n := by
  intro c hc x hx
  unfold plainM at h
  have h1 : (cs.any fun c => c.any (outB n)) = false := by simpa using h
  have h2 := List.any_eq_false.1 h1 c hc
  have h3 := List.any_eq_false.1 (by simpa using h2) x hx
  unfold outB at h3
  simp at h3
  exact ⟨h3.1, by omega⟩
theorem Bools.drewN {F : Nat → Prop} {w : World} {v : Value} {xs : List Bool} (h : Bools F w v xs) (n : Nat) : Bools F (w.drewN n) v xs := Bools.move (w' := w.drewN n) h fun _ _ _ => rfl
set_option maxRecDepth 100000 in
set_option maxHeartbeats 4000000 in
theorem true_any (F G : Nat → Prop) (v u : Value) (cs : List (List Int)) (inp : List Bool) (w : World) (hx : Clss F w v cs) (hy : Bools G w u inp) (hin : ∀ c ∈ cs, ∀ x ∈ c, x ≠ 0 ∧ varM x ≤ inp.length) :
    Calls Try.prog 19 #[v, u] w (QuietPost w (.bool (trueM cs inp))) := by
  obtain ⟨a, n, c, rfl, HN, hn⟩ := hx.form'
  obtain ⟨ia, im, ic, rfl, HM, him⟩ : ∃ a m c, u = .slice a m c ∧ Hid (m = inp.length) ∧ m ≤ 9223372036854775807 := by
    obtain ⟨a, c, h1, h2⟩ := hy.form
    exact ⟨a, _, c, h1, rfl, h2⟩
  have HX := Lib.hid hx
  have HY := Lib.hid hy
  have HIN := Lib.hid hin
  obtain ⟨R, hR⟩ : ∃ R, trueM cs inp = R := ⟨_, rfl⟩
  have HR : Hid (R = trueM (cs.drop 0) inp) := Lib.hid hR.symm
  rw [hR]
  clear hR hx hy hin
  go_enter Try.func19, Try.ntmps19
  go_wp2
  go_loopg [12] n (fun g u12 wx => ∃ k nq : Nat, k + g = n ∧ u12 = .int .i64 k ∧ wx = w.drewN nq ∧ Hid (R = trueM (cs.drop k) inp))
  case atStart => exact ⟨0, 0, by omega, rfl, rfl, HR⟩
  case round =>
  clear HR
  obtain ⟨k, nq, hkg, rfl, rfl, HR⟩ := hrel
  obtain ⟨GK, hGK⟩ : ∃ G, G = gk := ⟨_, rfl⟩
  subst hGK
  by_cases hk : k < n
  case neg =>
    have hdk : decide ((k : Int) < n) = false := by simp; omega
    have hdk' : decide (k < n) = false := decide_eq_false hk
    have HF : Hid (R = true) := Lib.hid (by rw [HR.out, List.drop_eq_nil_of_le (by have := HN.out; omega)]; rfl)
    clear HR
    go_wp2
    go_ret
    exact ⟨by rw [HF.out]; rfl, _, rfl⟩
  obtain ⟨x, hxx, e⟩ := drop_at (xs := cs) (k := k) (by have := HN.out; omega)
  have hcs := HX.out
  obtain ⟨b, o, uu, rfl, _, hb, hcc, hu⟩ := hcs.at hxx
  obtain ⟨ua, un, uc, rfl, HU, hun⟩ := hu.form'
  have HUI := Lib.hid hu
  have HIX : Hid (∀ y ∈ x, y ≠ 0 ∧ varM y ≤ inp.length) := Lib.hid (HIN.out x (List.mem_of_getElem? hxx))
  obtain ⟨T, hT⟩ : ∃ T, x.any (litT inp) = T := ⟨_, rfl⟩
  have HR1 : Hid (R = (T && trueM (cs.drop (k + 1)) inp)) := Lib.hid (by rw [HR.out, e, trueM, List.all_cons, hT]; rfl)
  have HT : Hid (T = (false || (x.drop 0).any (litT inp))) := Lib.hid (by rw [← hT]; rfl)
  have hdk : decide ((k : Int) < n) = true := by simp; omega
  have hdk' : decide (k < n) = true := decide_eq_true hk
  clear HR e hxx hcs hu hT
  go_wp2_with fail
  go_loopg [7, 18] un (fun g u7 u18 wx => ∃ (j nq : Nat) (ok : Bool), j + g = un ∧ u18 = .int .i64 j ∧ u7 = .bool ok ∧ wx = w.drewN nq ∧ Hid (T = (ok || (x.drop j).any (litT inp))))
  case atStart => exact ⟨0, nq, false, by omega, rfl, rfl, rfl, HT⟩
  case round =>
  clear HT
  obtain ⟨j, nq2, ok, hjg, rfl, rfl, rfl, HT⟩ := hrel
  by_cases hj : j < un
  case neg =>
    have hdj : decide ((j : Int) < un) = false := by simp; omega
    have hdj' : decide (j < un) = false := decide_eq_false hj
    have hTT : T = ok := by rw [HT.out, List.drop_eq_nil_of_le (by have := HU.out; omega)]; simp
    subst hTT
    clear HT
    rcases bool2 T with rfl | rfl
    · have HF : Hid (R = trueM (cs.drop (k + 1)) inp) := Lib.hid (by rw [HR1.out]; rfl)
      go_wp2_with fail
      go_roundg (GK - 1)
      case measure => omega
      case rel => exact ⟨k + 1, nq2, by omega, by go_num, rfl, HF⟩
    · have HF : Hid (R = false) := Lib.hid (by rw [HR1.out]; rfl)
      go_wp2_with fail
      try rw [Exit.noGoto_ret]
      go_ret
      exact ⟨by rw [HF.out]; rfl, _, rfl⟩
  obtain ⟨y, hyy, ey⟩ := drop_at (xs := x) (k := j) (by have := HU.out; omega)
  have hui := HUI.out
  obtain ⟨yb, yo, rfl, _, hyb, hyc, hy64⟩ := hui.at hyy
  obtain ⟨hy0, hyv⟩ := HIX.out y (List.mem_of_getElem? hyy)
  have HT2 : Hid (T = (ok || (litT inp y || (x.drop (j + 1)).any (litT inp)))) := Lib.hid (by rw [HT.out, ey, List.any_cons])
  have hdj : decide ((j : Int) < un) = true := by simp; omega
  have hdj' : decide (j < un) = true := decide_eq_true hj
  clear HT ey hyy hui
  rcases bool2 ok with rfl | rfl
  · have HF : Hid (T = (true || (x.drop (j + 1)).any (litT inp))) := Lib.hid (by rw [HT2.out, Bool.true_or, Bool.true_or])
    clear HT2
    go_wp2_with fail
    go_roundg (gk - 1)
    case measure => omega
    case rel => exact ⟨j + 1, _, true, by omega, by go_num, rfl, rfl, HF⟩
  by_cases hp : 0 < y
  · obtain ⟨q, hq⟩ : ∃ q : Nat, y.toNat - 1 = q := ⟨_, rfl⟩
    have hyq : y = (q : Int) + 1 := by omega
    have hql : q < inp.length := by
      unfold varM at hyv
      rw [if_neg (by omega)] at hyv
      omega
    obtain ⟨bt, hbt⟩ : ∃ bt, inp[q]? = some bt := ⟨_, List.getElem?_eq_getElem hql⟩
    have hy := HY.out
    obtain ⟨ib, io, rfl, _, hib, hic⟩ := hy.at hbt
    have hlt : litT inp y = bt := by
      unfold litT
      rw [decide_eq_true hp, decide_eq_false (show ¬ y < 0 by omega), hq]
      simp [List.getD_eq_getElem?_getD, hbt]
    rw [hlt] at HT2
    have HF : Hid (T = (bt || (x.drop (j + 1)).any (litT inp))) := Lib.hid (by rw [HT2.out, Bool.false_or])
    have hd0 : decide (0 < y) = true := decide_eq_true hp
    have hd1 : decide (y < 0) = false := decide_eq_false (by omega)
    have hw1 : IntKind.i64.wrap (y - 1) = (q : Int) := by rw [IntWalk.i64_in _ ⟨by omega, by have := hy64.2; omega⟩]; omega
    have hw0 : wrap64 (y - 1) = (q : Int) := by rw [IntWalk.wrap64_in _ ⟨by omega, by have := hy64.2; omega⟩]; omega
    have hqm : q < im := by rw [HM.out]; exact hql
    have hq0 : (0 : Int) ≤ q := by omega
    have hq1 : (q : Int) < im := by omega
    clear HT2 hy hbt hq hyq hql hlt hp hyv hy0
    rcases bool2 bt with rfl | rfl
    · go_wp2_with fail
      go_roundg (gk - 1)
      case measure => omega
      case rel => exact ⟨j + 1, _, true, by omega, by go_num, rfl, rfl, HF⟩
    · go_wp2_with fail
      go_roundg (gk - 1)
      case measure => omega
      case rel => exact ⟨j + 1, _, false, by omega, by go_num, rfl, rfl, HF⟩
  · obtain ⟨q, hq⟩ : ∃ q : Nat, (-y).toNat - 1 = q := ⟨_, rfl⟩
    have hyq : y = -((q : Int) + 1) := by omega
    have hql : q < inp.length := by
      unfold varM at hyv
      rw [if_pos (by omega)] at hyv
      omega
    obtain ⟨bt, hbt⟩ : ∃ bt, inp[q]? = some bt := ⟨_, List.getElem?_eq_getElem hql⟩
    have hy := HY.out
    obtain ⟨ib, io, rfl, _, hib, hic⟩ := hy.at hbt
    have hlt : litT inp y = !bt := by
      unfold litT
      rw [decide_eq_false hp, decide_eq_true (show y < 0 by omega), hq]
      simp [List.getD_eq_getElem?_getD, hbt]
    rw [hlt] at HT2
    have HF : Hid (T = (!bt || (x.drop (j + 1)).any (litT inp))) := Lib.hid (by rw [HT2.out, Bool.false_or])
    have hd0 : decide (0 < y) = false := decide_eq_false hp
    have hd1 : decide (y < 0) = true := decide_eq_true (by omega)
    have hql2 : (q : Int) + 1 ≤ 9223372036854775807 := by have := HM.out; omega
    obtain ⟨ym, hym⟩ : ∃ ym : Int, (q : Int) + 1 = ym := ⟨_, rfl⟩
    have hw1 : IntKind.i64.wrap (-y) = ym := by rw [IntWalk.i64_in _ ⟨by omega, by omega⟩]; omega
    have hw2 : IntKind.i64.wrap (ym - 1) = (q : Int) := by rw [IntWalk.i64_in _ ⟨by omega, by omega⟩]; omega
    have hqm : q < im := by rw [HM.out]; exact hql
    have hq0 : (0 : Int) ≤ q := by omega
    have hq1 : (q : Int) < im := by omega
    clear HT2 hy hbt hq hyq hql hlt hp hyv hy0 hym hql2
    rcases bool2 bt with rfl | rfl
    · go_wp2_with fail
      go_roundg (gk - 1)
      case measure => omega
      case rel => exact ⟨j + 1, _, false, by omega, by go_num, rfl, rfl, HF⟩
    · go_wp2_with fail
      go_roundg (gk - 1)
      case measure => omega
      case rel => exact ⟨j + 1, _, true, by omega, by go_num, rfl, rfl, HF⟩
set_option maxRecDepth 100000 in
set_option maxHeartbeats 4000000 in
theorem plain_any (F : Nat → Prop) (V : Nat) (v : Value) (cs : List (List Int)) (w : World) (hx : Clss F w v cs) (hV : V ≤ 20000) :
    Calls Try.prog 17 #[v, .int .i64 (V : Int)] w fun e w' => e = .returned (.bool (plainM cs V)) ∧ w' = w := by
  obtain ⟨a, n, c, rfl, HN, hn⟩ := hx.form'
  have HX := Lib.hid hx
  obtain ⟨R, hR⟩ : ∃ R, plainM cs V = R := ⟨_, rfl⟩
  have HR : Hid (R = plainM (cs.drop 0) V) := Lib.hid hR.symm
  rw [hR]
  have hwu : IntKind.u64.wrap (V : Int) = (V : Int) := by simp [IntKind.wrap, IntKind.bits, IntKind.signed]; omega
  clear hR hx
  go_enter Try.func17, Try.ntmps17
  go_wp2
  go_loopg [11] n (fun g u11 wx => ∃ k : Nat, k + g = n ∧ u11 = .int .i64 k ∧ wx = w ∧ Hid (R = plainM (cs.drop k) V))
  case atStart => exact ⟨0, by omega, rfl, rfl, HR⟩
  case round =>
  clear HR
  obtain ⟨k, hkg, rfl, rfl, HR⟩ := hrel
  obtain ⟨GK, hGK⟩ : ∃ G, G = gk := ⟨_, rfl⟩
  subst hGK
  by_cases hk : k < n
  case neg =>
    have hdk : decide ((k : Int) < n) = false := by simp; omega
    have hdk' : decide (k < n) = false := decide_eq_false hk
    have HF : Hid (R = true) := Lib.hid (by rw [HR.out, List.drop_eq_nil_of_le (by have := HN.out; omega)]; rfl)
    clear HR
    go_wp2
    go_ret
    exact ⟨by rw [HF.out]; rfl, rfl⟩
  obtain ⟨x, hxx, e⟩ := drop_at (xs := cs) (k := k) (by have := HN.out; omega)
  have hcs := HX.out
  obtain ⟨b, o, u, rfl, _, hb, hcc, hu⟩ := hcs.at hxx
  obtain ⟨ua, un, uc, rfl, HU, hun⟩ := hu.form'
  have HUI := Lib.hid hu
  obtain ⟨S, hS⟩ : ∃ S, plainM (cs.drop (k + 1)) V = S := ⟨_, rfl⟩
  have HS := Lib.hid hS
  have HI : Hid (R = (!(x.drop 0).any (outB V) && S)) := Lib.hid (by
    rw [HR.out, e, ← hS, plainM, plainM, List.any_cons, List.drop_zero, Bool.not_or])
  have hdk : decide ((k : Int) < n) = true := by simp; omega
  have hdk' : decide (k < n) = true := decide_eq_true hk
  clear HR e hxx hcs hu hS
  go_wp2_with fail
  go_loopg [17] un (fun g u17 wx => ∃ (j : Nat), j + g = un ∧ u17 = .int .i64 j ∧ wx = wr ∧ Hid (R = (!(x.drop j).any (outB V) && S)))
  case atStart => exact ⟨0, by omega, rfl, rfl, HI⟩
  case round =>
  clear HI
  obtain ⟨j, hjg, rfl, rfl, HR⟩ := hrel
  by_cases hj : j < un
  case neg =>
    have hdj : decide ((j : Int) < un) = false := by simp; omega
    have hdj' : decide (j < un) = false := decide_eq_false hj
    have HF : Hid (R = plainM (cs.drop (k + 1)) V) := Lib.hid (by rw [HR.out, List.drop_eq_nil_of_le (by have := HU.out; omega), HS.out]; rfl)
    clear HR
    go_wp2_with fail
    go_roundg (GK - 1)
    case measure => omega
    case rel => exact ⟨k + 1, by omega, by go_num, rfl, HF⟩
  obtain ⟨y, hyy, ey⟩ := drop_at (xs := x) (k := j) (by have := HU.out; omega)
  have hui := HUI.out
  obtain ⟨yb, yo, rfl, _, hyb, hyc, hy64⟩ := hui.at hyy
  have HR2 : Hid (R = (!(outB V y || (x.drop (j + 1)).any (outB V)) && S)) := Lib.hid (by rw [HR.out, ey, List.any_cons])
  have hdj : decide ((j : Int) < un) = true := by simp; omega
  have hdj' : decide (j < un) = true := decide_eq_true hj
  clear HR ey hyy hui
  by_cases h0 : y = 0
  · have HF : Hid (R = false) := Lib.hid (by rw [HR2.out, outB, decide_eq_true h0]; rfl)
    have hd0 : (y == 0) = true := by simp [h0]
    clear h0 HR2
    go_wp2_with fail
    try rw [Exit.noGoto_ret]
    go_ret
    exact ⟨by rw [HF.out]; rfl, rfl⟩
  have hd0 : (y == 0) = false := by simp [h0]
  have HM := Lib.hid (lmagnitude_any y wr hy64)
  have hov : outB V y = decide ((V : Int) < varM y) := by rw [outB, decide_eq_false h0]; rfl
  rw [hov] at HR2
  generalize varM y = m at *
  clear h0 hov
  by_cases h1 : (V : Int) < m
  · have HF : Hid (R = false) := Lib.hid (by rw [HR2.out, decide_eq_true h1]; rfl)
    have hq : decide ((V : Int) < m) = true := decide_eq_true h1
    clear h1 HR2
    go_wp2_with fail
    refine HM.out.mono ?_
    rintro e w9 ⟨rfl, rfl⟩
    go_wp2_with fail
    try rw [Exit.noGoto_ret]
    go_ret
    exact ⟨by rw [HF.out]; rfl, rfl⟩
  · have HF : Hid (R = (!(x.drop (j + 1)).any (outB V) && S)) := Lib.hid (by rw [HR2.out, decide_eq_false h1]; rfl)
    have hq : decide ((V : Int) < m) = false := decide_eq_false h1
    clear h1 HR2
    go_wp2_with fail
    refine HM.out.mono ?_
    rintro e w9 ⟨rfl, rfl⟩
    go_wp2_with fail
    go_roundg (gk - 1)
    case measure => omega
    case rel => exact ⟨j + 1, by omega, by go_num, rfl, HF⟩
end Go.Proofs.Ytjjbpfbbfjdhdaa
