/- Walks: the statement's own magnitude and literals. No condition. -/
import Derived.Test.YteadlkecngfcoaaGreatKg
import Derived.Test.YteadlkecngfcoaaGreatKo
namespace Go.Proofs.YteadlkecngfcoaaGreat
open Go.ChangeShapes Go.WideShapes Go.ChangeAt Go.RowKit
set_option linter.unusedVariables false

theorem lmagnitude_any (n : Int) (w : World) (h : I64 n) :
    Calls Tryz.prog 69 #[.int .i64 n] w fun e w' => e = .returned (.int .u64 (varM n)) ∧ w' = w := by
  obtain ⟨i1, i2⟩ := h
  by_cases h0 : n < 0
  · have HV : Hid (varM n = -n) := Lib.hid (by unfold varM; rw [if_pos h0])
    have hd : decide (n < 0) = true := decide_eq_true h0
    have hw : IntKind.u64.wrap (IntKind.u64.wrap (IntKind.i64.wrap (-(IntKind.i64.wrap (n + 1)))) + 1) = -n := by
      simp [IntKind.wrap, IntKind.bits, IntKind.signed]
      omega
    obtain ⟨r, hr⟩ : ∃ r, -n = r := ⟨_, rfl⟩
    have HW : Hid (IntKind.u64.wrap (IntKind.u64.wrap (IntKind.i64.wrap (-(IntKind.i64.wrap (n + 1)))) + 1) = -n) := Lib.hid hw
    go_enter Tryz.func69, Tryz.ntmps69
    go_wp2
    go_ret
    refine ⟨?_, rfl⟩
    rw [HV.out]
    first | rfl | go_num
  · have HV : Hid (varM n = n) := Lib.hid (by unfold varM; rw [if_neg h0])
    have hd : decide (n < 0) = false := decide_eq_false h0
    go_enter Tryz.func69, Tryz.ntmps69
    go_wp2
    go_ret
    refine ⟨?_, rfl⟩
    rw [HV.out]
    go_num

theorem cmpM_val (x y : Int) : cmpM x y = -1 ∨ cmpM x y = 0 ∨ cmpM x y = 1 := by
  unfold cmpM
  rcases Int.lt_trichotomy x y with h | h | h
  · rw [if_pos h]; exact .inl rfl
  · rw [if_neg (by omega), if_neg (by omega)]; exact .inr (.inl rfl)
  · rw [if_neg (by omega), if_pos h]; exact .inr (.inr rfl)
theorem lliterals_any (a b : Int) (w : World) (ha : I64 a) (hb : I64 b) :
    Calls Tryz.prog 44 #[.int .i64 a, .int .i64 b] w fun e w' => e = .returned (.int .i64 (litC a b)) ∧ w' = w := by
  have HA := Lib.hid ha
  have HB := Lib.hid hb
  have hma := fun w => lmagnitude_any a w ha
  have hmb := fun w => lmagnitude_any b w hb
  obtain ⟨R, hR⟩ : ∃ R, litC a b = R := ⟨_, rfl⟩
  have hneg := litC_neg (a := a) (b := b)
  have hpos := litC_neg (a := b) (b := a)
  have hz := litC_eq (a := a) (b := b)
  have hfl := litC_flip a b
  have h3 : litC a b = -1 ∨ litC a b = 0 ∨ litC a b = 1 := by
    unfold litC
    split
    · exact cmpM_val _ _
    · exact cmpM_val _ _
  rw [hfl] at hpos
  rw [hR] at hneg hpos hz h3 ⊢
  obtain ⟨x, hx⟩ : ∃ x, varM a = x := ⟨_, rfl⟩
  obtain ⟨y, hy⟩ : ∃ y, varM b = y := ⟨_, rfl⟩
  rw [hx] at hneg hpos hma
  rw [hy] at hneg hpos hmb
  have HMA := Lib.hid hma
  have HMB := Lib.hid hmb
  clear hma hmb hfl hR ha hb
  rcases h3 with rfl | rfl | rfl
  · have h1 := hneg.1 (by omega)
    clear hneg hpos hz hx hy
    rcases h1 with h1 | ⟨rfl, h1⟩
    · have hd : decide (x < y) = true := decide_eq_true h1
      go_enter Tryz.func44, Tryz.ntmps44
      go_wp2_with fail
      refine (HMA.out _).mono ?_
      rintro e w1 ⟨rfl, rfl⟩
      go_wp2_with fail
      refine (HMB.out _).mono ?_
      rintro e w1 ⟨rfl, rfl⟩
      go_wp2_with fail
      go_ret
      exact ⟨rfl, rfl⟩
    · have hd : decide (x < x) = false := by simp
      have hd1 : (x == x) = true := by simp
      have hd2 : decide (a < b) = true := decide_eq_true h1
      go_enter Tryz.func44, Tryz.ntmps44
      go_wp2_with fail
      refine (HMA.out _).mono ?_
      rintro e w1 ⟨rfl, rfl⟩
      go_wp2_with fail
      refine (HMB.out _).mono ?_
      rintro e w1 ⟨rfl, rfl⟩
      go_wp2_with fail
      go_ret
      exact ⟨rfl, rfl⟩
  · obtain rfl := hz.1 rfl
    have e : x = y := by omega
    subst e
    clear hneg hpos hz hx hy
    have hd : decide (x < x) = false := by simp
    have hd1 : (x == x) = true := by simp
    have hd2 : decide (a < a) = false := by simp
    go_enter Tryz.func44, Tryz.ntmps44
    go_wp2_with fail
    refine (HMA.out _).mono ?_
    rintro e w1 ⟨rfl, rfl⟩
    go_wp2_with fail
    refine (HMB.out _).mono ?_
    rintro e w1 ⟨rfl, rfl⟩
    go_wp2_with fail
    go_ret
    exact ⟨rfl, rfl⟩
  · have h1 := hpos.1 (by omega)
    clear hneg hpos hz hx hy
    rcases h1 with h1 | ⟨rfl, h1⟩
    · have hd : decide (x < y) = false := decide_eq_false (by omega)
      have hd1 : (x == y) = false := by simp; omega
      have hd2 : decide (y < x) = true := decide_eq_true h1
      go_enter Tryz.func44, Tryz.ntmps44
      go_wp2_with fail
      refine (HMA.out _).mono ?_
      rintro e w1 ⟨rfl, rfl⟩
      go_wp2_with fail
      refine (HMB.out _).mono ?_
      rintro e w1 ⟨rfl, rfl⟩
      go_wp2_with fail
      go_ret
      exact ⟨rfl, rfl⟩
    · have hd : decide (y < y) = false := by simp
      have hd1 : (y == y) = true := by simp
      have hd2 : decide (a < b) = false := decide_eq_false (by omega)
      have hd3 : decide (b < a) = true := decide_eq_true h1
      go_enter Tryz.func44, Tryz.ntmps44
      go_wp2_with fail
      refine (HMA.out _).mono ?_
      rintro e w1 ⟨rfl, rfl⟩
      go_wp2_with fail
      refine (HMB.out _).mono ?_
      rintro e w1 ⟨rfl, rfl⟩
      go_wp2_with fail
      go_ret
      exact ⟨rfl, rfl⟩

set_option maxHeartbeats 2000000 in
theorem lcmpf_any {F G : Nat → Prop} (v u : Value) (xs ys : List Int) (w : World) (hx : Ints F w v xs) (hy : Ints G w u ys) :
    Calls Tryz.prog 71 #[v, u, .func (.func 44) #[] #[]] w fun e w' => e = .returned (.int .i64 (clsC xs ys)) ∧ w' = w := by
  obtain ⟨a, n, c, rfl, HN, hn⟩ := hx.form'
  obtain ⟨b, m, d, rfl, HM, hm⟩ := hy.form'
  obtain ⟨R, hR⟩ : ∃ R, clsC xs ys = R := ⟨_, rfl⟩
  have HR : Hid (R = clsC (xs.drop 0) (ys.drop 0)) := Lib.hid hR.symm
  rw [hR]
  have HX := Lib.hid hx
  have HY := Lib.hid hy
  clear hR hx hy
  go_enter Tryz.func71, Tryz.ntmps71
  go_wp2
  go_loopg [13] n (fun g u13 wx => ∃ (k : Nat), k + g = n ∧ u13 = .int .i64 k ∧ w = wx ∧ k ≤ m ∧ Hid (R = clsC (xs.drop k) (ys.drop k)))
  case atStart => exact ⟨0, by omega, rfl, rfl, by omega, HR⟩
  case round =>
  obtain ⟨k, hkg, rfl, rfl, hkm, hinv⟩ := hrel
  by_cases hk : k < n
  case neg =>
    have ex : xs.drop k = [] := List.drop_eq_nil_of_le (by have := HN.out; omega)
    have hkn : n = k := by omega
    by_cases hm2 : k < m
    · obtain ⟨y, hyy, ey⟩ := drop_at (xs := ys) (k := k) (by have := HM.out; omega)
      have HF : Hid (R = -1) := Lib.hid (by rw [hinv.out, ex, ey]; rfl)
      have hd : decide ((n : Int) < m) = true := by simp; omega
      have hd0 : n < m := by omega
      clear hinv ex ey hyy
      go_wp2
      go_ret
      exact ⟨by rw [HF.out]; rfl, rfl⟩
    · have HF : Hid (R = 0) := Lib.hid (by rw [hinv.out, ex, show ys.drop k = [] from List.drop_eq_nil_of_le (by have := HM.out; omega)]; rfl)
      have hd : decide ((n : Int) < m) = false := by simp; omega
      have hd0 : m ≤ n := by omega
      clear hinv ex
      go_wp2
      go_ret
      exact ⟨by rw [HF.out]; rfl, rfl⟩
  obtain ⟨x, hxx, ex⟩ := drop_at (xs := xs) (k := k) (by have := HN.out; omega)
  have hxs := HX.out
  obtain ⟨xb, xo, rfl, _, hxb, hxc, hx64⟩ := hxs.at hxx
  by_cases hm2 : k < m
  case neg =>
    have HF : Hid (R = 1) := Lib.hid (by rw [hinv.out, ex, show ys.drop k = [] from List.drop_eq_nil_of_le (by have := HM.out; omega)]; rfl)
    have hd : m ≤ k := by omega
    clear hinv ex hxx hxs hm2
    go_wp2
    go_ret
    exact ⟨by rw [HF.out]; rfl, rfl⟩
  obtain ⟨y, hyy, ey⟩ := drop_at (xs := ys) (k := k) (by have := HM.out; omega)
  have hys := HY.out
  obtain ⟨yb, yo, rfl, _, hyb, hyc, hy64⟩ := hys.at hyy
  obtain ⟨C, hC⟩ : ∃ C, litC x y = C := ⟨_, rfl⟩
  have hcc := fun w => lliterals_any x y w hx64 hy64
  have HE : Hid (R = if C ≠ 0 then C else clsC (xs.drop (k + 1)) (ys.drop (k + 1))) := Lib.hid (by rw [hinv.out, ex, ey, ← hC]; rfl)
  rw [hC] at hcc
  have HCC := Lib.hid hcc
  clear hinv ex ey hxx hyy hxs hys hC hcc
  by_cases h0 : C = 0
  · have HF : Hid (R = clsC (xs.drop (k + 1)) (ys.drop (k + 1))) := Lib.hid (by rw [HE.out, if_neg (by omega)])
    have hd : (C != 0) = false := by simp [h0]
    clear h0 HE
    go_wp2_with fail
    refine (HCC.out _).mono ?_
    rintro e w1 ⟨rfl, rfl⟩
    go_wp2_with fail
    go_roundg (gk - 1)
    case measure => omega
    case rel => exact ⟨k + 1, by omega, by go_num, rfl, by omega, HF⟩
  · have HF : Hid (R = C) := Lib.hid (by rw [HE.out, if_pos h0])
    have hd : (C != 0) = true := by simp [h0]
    clear h0 HE
    go_wp2_with fail
    refine (HCC.out _).mono ?_
    rintro e w1 ⟨rfl, rfl⟩
    go_wp2_with fail
    go_ret
    exact ⟨by rw [HF.out]; rfl, rfl⟩

theorem lcompare_any {F G : Nat → Prop} (v u : Value) (xs ys : List Int) (w : World) (hx : Ints F w v xs) (hy : Ints G w u ys) :
    Calls Tryz.prog 47 #[v, u] w fun e w' => e = .returned (.int .i64 (clsC xs ys)) ∧ w' = w := by
  have H := Lib.hid (lcmpf_any v u xs ys w hx hy)
  clear hx hy
  go_enter Tryz.func47, Tryz.ntmps47
  go_wp2_with fail
  refine H.out.mono ?_
  rintro e w1 ⟨rfl, rfl⟩
  go_wp2_with fail
  go_ret
  exact ⟨rfl, rfl⟩


theorem lcanon1_any {F G : Nat → Prop} (v u : Value) (xs ys : List Int) (w : World) (hx : Ints F w v xs) (hy : Ints G w u ys) :
    Calls Tryz.prog 49 #[v, u] w (QuietPost w (.bool (xs == ys))) := by
  have hc := lcompare_any v u xs ys w hx hy
  obtain ⟨C, hC⟩ : ∃ C, clsC xs ys = C := ⟨_, rfl⟩
  have hz := clsC_eq (a := xs) (b := ys)
  rw [hC] at hc hz
  have HC := Lib.hid hc
  have HZ : Hid ((xs == ys) = decide (C = 0)) := Lib.hid (by
    by_cases e : xs = ys
    · rw [decide_eq_true (hz.2 e)]; simp [e]
    · rw [decide_eq_false (fun h => e (hz.1 h))]; simp [e])
  clear hx hy hc hC hz
  by_cases h0 : C = 0
  · have hd : (C == 0) = true := by simp [h0]
    have hd2 : decide (C = 0) = true := decide_eq_true h0
    rw [HZ.out, hd2]
    clear h0 hd2 HZ
    go_enter Tryz.func49, Tryz.ntmps49
    go_wp2_with fail
    refine HC.out.mono ?_
    rintro e w1 ⟨rfl, rfl⟩
    go_wp2_with fail
    go_ret
    exact ⟨rfl, 0, rfl⟩
  · have hd : (C == 0) = false := by simp [h0]
    have hd2 : decide (C = 0) = false := decide_eq_false h0
    rw [HZ.out, hd2]
    clear h0 hd2 HZ
    go_enter Tryz.func49, Tryz.ntmps49
    go_wp2_with fail
    refine HC.out.mono ?_
    rintro e w1 ⟨rfl, rfl⟩
    go_wp2_with fail
    go_ret
    exact ⟨rfl, 0, rfl⟩

/- Walks: CompactFunc with the statement's own closure; the sort with the statement's own comparator. No condition but the length. -/
open Go.ChangeShapes Go.WideShapes Go.ChangeAt Go.RowKit
set_option linter.unusedVariables false

theorem lsortlit_own (w : World) (base : Nat) (e : TypeId) (v : Value) (xs : List Int) (hown : w.ownsRow base e 1 v xs.length (xs.map (.int .i64))) (h64 : ∀ x ∈ xs, I64 x) (hl : xs.length ≤ 16777216) :
    Calls Tryz.prog 43 #[v, .func (.func 44) #[] #[]] w (SortedPost w base e v (srtC litC xs)) := by
  obtain ⟨ds, hds⟩ := lift_ints h64
  have hc : Cmp fun x y : I64s => litC x.1 y.1 := ⟨fun a b => litC_flip a.1 b.1, fun a b => litC_eq.trans (by rw [Subtype.ext_iff]), fun a b d => litC_tr⟩
  have hm : ds.map (fun x : I64s => Value.int .i64 x.1) = xs.map (.int .i64) := by rw [← hds, List.map_map]; rfl
  have hlen : ds.length = xs.length := by rw [← hds, List.length_map]
  rw [← hm, ← hlen] at hown
  have h := sort_own sortI (fun x : I64s => Value.int .i64 x.1) (fun _ => rfl) (fun x y : I64s => litC x.1 y.1) (swo_of hc) 44
    (enters_of Tryz.func44 (by kernel_rfl) rfl) w base e v ds hown (by omega) (fun x y w' _ => lliterals_any x.1 y.1 w' x.2 y.2)
  refine Calls.mono h ?_
  rintro r w' ⟨rfl, ts, hp, hs, ho, hg⟩
  have hts : ts.map Subtype.val = srtC litC xs := by
    refine srtC_unique litCmp ?_ ?_
    · rw [← hds]; exact hp.map _
    · rw [List.pairwise_map]; exact hs
  have hlt : (srtC litC xs).length = ds.length := by rw [(srtC_perm litC xs).length_eq, hlen]
  refine ⟨rfl, ?_, hg⟩
  rw [hlt, ← hts, List.map_map]
  exact ho

set_option maxRecDepth 100000 in
set_option maxHeartbeats 4000000 in
theorem lcompactf_any (w : World) (base : Nat) (v : Value) (ps : List (Value × List Int)) (hown : w.ownsRow base 22 1 v ps.length (ps.map Prod.fst)) (hps : ∀ p ∈ ps, Ints (fun b => v.ownBlock ≠ some b) w p.1 p.2) (hl : ps.length ≤ 1048576) :
    Calls Tryz.prog 48 #[v, .func (.func 49) #[] #[]] w (CptPost w base v ps) := by
  obtain ⟨n, hn⟩ : ∃ n, ps.length = n := ⟨_, rfl⟩
  have HN := Lib.hid hn
  rw [hn] at hown
  have HOWN := Lib.hid hown
  obtain ⟨qs, hqs⟩ : ∃ q, cptP none ps = q := ⟨_, rfl⟩
  have HP : Hid (∀ p ∈ ps, Ints (fun b => v.ownBlock ≠ some b ∧ b < w.heap.size) w p.1 p.2) := Lib.hid fun p hp => (hps p hp).lt
  rcases hown.2 with ⟨rfl, h0⟩ | ⟨b, cap, cur, rfl, hbase, hb, hnc, hcap, hcs, ht⟩
  · have hps0 : ps = [] := List.eq_nil_of_length_eq_zero (by omega)
    have HF : Hid (CptPost w base (.slice none 0 0) ps (.returned (.slice none 0 0)) w) := Lib.hid (by
      subst hps0
      exact ⟨_, rfl, World.ownsRow_nil _ _ _ _, rfl, ⟨rfl, rfl, rfl, Nat.le_refl _, fun _ _ _ => rfl⟩⟩)
    clear hown hps hn hqs hps0 h0 HP HOWN
    go_enter Tryz.func48, Tryz.ntmps48
    go_wp2
    go_ret
    exact HF.out
  have hbw : b < w.heap.size := (Array.getElem?_eq_some_iff.1 hb).1
  have HB := Lib.hid hbase
  have hcap2 : cap ≤ 9223372036854775807 := by unfold maxLen at hcap; omega
  have hn2 : n ≤ 1048576 := by omega
  have hz := Tryz.zeroValue22
  have hu := Tryz.underlying29
  have HZ := Lib.hid hz
  have HU := Lib.hid hu
  have HSAME : Hid (∀ nq, qs = ps → CptPost w base (.slice (some ⟨b, 0, none⟩) n cap) ps (.returned (.slice (some ⟨b, 0, none⟩) n cap)) (w.drewN nq)) := Lib.hid fun nq e => by
    refine ⟨_, rfl, ?_, rfl, rfl, rfl, rfl, Nat.le_refl _, fun _ _ _ => rfl⟩
    rw [hqs, e, hn]
    exact own_same HOWN.out fun _ _ => rfl
  have HQ0 : Hid (qs = cptP none ps) := Lib.hid hqs.symm
  have HQE : Hid (cptP none ps = qs) := Lib.hid hqs
  clear hown hps hb hcap hcs ht hn hbase hqs hz hu hl
  by_cases h2 : n < 2
  · have HF : Hid (qs = ps) := Lib.hid (by
      rw [HQ0.out]
      have := HN.out
      match ps, this with
      | [], _ => rfl
      | [x], _ => rfl
      | _ :: _ :: _, h => simp at h; omega)
    have hd : decide ((n : Int) < 2) = true := decide_eq_true (by omega)
    clear h2
    go_enter Tryz.func48, Tryz.ntmps48
    go_wp2
    go_ret
    exact HSAME.out 0 HF.out
  have HST : Hid (qs = ps.take 1 ++ cptP ((ps[0]?).map Prod.snd) (ps.drop 1)) := Lib.hid (by
    rw [HQ0.out]
    have := HN.out
    rcases ps with _ | ⟨x, r⟩
    · simp only [List.length_nil] at this
      omega
    · rfl)
  have hd2 : decide ((n : Int) < 2) = false := decide_eq_false (by omega)
  go_enter Tryz.func48, Tryz.ntmps48
  go_wp2
  go_loopg [5] n (fun g u5 wx => ∃ (j K nq : Nat), K + g = n + 1 ∧ K ≤ n ∧ j + 1 = K ∧ u5 = .int .i64 K ∧ wx = w.drewN nq ∧ Hid (qs = ps.take K ++ cptP ((ps[j]?).map Prod.snd) (ps.drop K)))
  case atStart => exact ⟨0, 1, 0, by omega, by omega, rfl, rfl, rfl, HST⟩
  case round =>
  obtain ⟨j, K, nq, hkg, hKn, hjK, rfl, rfl, hinv⟩ := hrel
  by_cases hk : K < n
  case neg =>
    have HF : Hid (qs = ps) := Lib.hid (by
      rw [hinv.out, List.drop_eq_nil_of_le (by have := HN.out; omega), List.take_of_length_le (by have := HN.out; omega), cptP, List.append_nil])
    have hk2 : decide (K < n) = false := decide_eq_false hk
    clear hinv
    go_wp2
    go_ret
    exact HSAME.out nq HF.out
  obtain ⟨xv, x, hx, _⟩ := pair_at (xs := ps) (j := j) (by have := HN.out; omega)
  obtain ⟨yv, y, hy, ey⟩ := pair_at (xs := ps) (j := K) (by have := HN.out; omega)
  obtain ⟨_, hx1, hxc, _⟩ := own_at (c := Prod.fst) HOWN.out (v := j) (by omega)
  obtain ⟨_, hy1, hyc, _⟩ := own_at (c := Prod.fst) HOWN.out (v := K) hk
  rw [hx] at hx1
  rw [hy] at hy1
  injection hx1 with hx1
  injection hy1 with hy1
  subst hx1 hy1
  have heq := fun nq => lcanon1_any yv xv y x (w.drewN nq) ((HP.out _ (List.mem_of_getElem? hy)).drewN nq) ((HP.out _ (List.mem_of_getElem? hx)).drewN nq)
  obtain ⟨C, hC⟩ : ∃ C, (y == x) = C := ⟨_, rfl⟩
  rw [hC] at heq
  have HEQ := Lib.hid heq
  have HI : Hid (qs = ps.take K ++ (if C = true then cptP (some y) (ps.drop (K + 1)) else (yv, y) :: cptP (some y) (ps.drop (K + 1)))) := Lib.hid (by
    rw [hinv.out, hx, ey, Option.map_some, cptP]
    rw [← hC]
    by_cases e : x = y
    · rw [if_pos (by rw [e]), if_pos (by simp [e])]
    · rw [if_neg (by simpa using e), if_neg (by simpa using fun h => e h.symm)])
  have HY := Lib.hid hy
  have hw1 : IntKind.i64.wrap ((K : Int) - 1) = (j : Int) := by rw [IntWalk.i64_in _ ⟨by omega, by omega⟩]; omega
  have hw2 : ((K : Int) - 1) = (j : Int) := by omega
  have hk3 : decide (K < n) = true := decide_eq_true hk
  have hj0 : (0 : Int) ≤ j := by omega
  have hj1 : (j : Int) < n := by omega
  have hK0 : (0 : Int) ≤ K := by omega
  have hK1 : (K : Int) < n := by omega
  clear hinv hx hy ey heq hC
  rcases bool2 C with rfl | rfl
  case inr =>
    have HF : Hid (qs = ps.take (K + 1) ++ cptP ((ps[K]?).map Prod.snd) (ps.drop (K + 1))) := Lib.hid (by
      rw [HI.out, if_neg (by simp), HY.out, Option.map_some]
      have h := HY.out
      have hlt := (List.getElem?_eq_some_iff.1 h).1
      rw [List.take_succ_eq_append_getElem hlt, List.append_assoc]
      rw [List.getElem?_eq_getElem hlt] at h
      injection h with h
      rw [h]
      rfl)
    clear HI
    go_upto_region 6 with fail
    go_quiet ((go_at_call 49; exact quiet_add (HEQ.out _)))
    go_wp2
    go_roundg (gk - 1)
    case measure => omega
    case rel => exact ⟨K, K + 1, _, by omega, by omega, rfl, by go_num, rfl, HF⟩
  have HQ1 : Hid (qs = ps.take K ++ cptP (some y) (ps.drop (K + 1))) := Lib.hid (by rw [HI.out, if_pos rfl])
  have hm1 : K + 1 ≤ n := by omega
  have HKK := Lib.hid hjK
  clear HI hw1 hw2
  have hw1 : IntKind.i64.wrap ((K : Int) - 1) = (j : Int) := by rw [IntWalk.i64_in _ ⟨by omega, by omega⟩]; omega
  have hw2 : ((K : Int) - 1) = (j : Int) := by omega
  obtain ⟨GK, hGK⟩ : ∃ G, G = gk := ⟨_, rfl⟩
  subst hGK
  go_upto_region 6 with fail
  go_quiet ((go_at_call 49; exact quiet_add (HEQ.out _)))
  obtain ⟨L, hL⟩ : ∃ L, K + L = n := ⟨n - K, by omega⟩
  have hnK : n - K = L := by omega
  go_wp2
  have HO0 : Hid (∀ N, (w.drewN N).ownsRow base 22 1 (.slice (some ⟨b, 0, none⟩) n cap) n (ps.map Prod.fst)) := Lib.hid fun N => own_same HOWN.out fun _ _ => rfl
  have HG0 : Hid (∀ N, w.grownBy (w.drewN N) (some b)) := Lib.hid fun N => ⟨rfl, rfl, rfl, Nat.le_refl _, fun _ _ _ => rfl⟩
  have HQ2 : Hid (qs = ps.take K ++ cptP ((ps[K]?).map Prod.snd) (ps.drop (K + 1))) := Lib.hid (by rw [HQ1.out, HY.out]; rfl)
  clear hxc hyc HQ1 HY HEQ hw1 hw2 HSAME HST HQ0
  clear hnK
  go_loopg [5, 7] L (fun g u5 u7 wx => ∃ (kk k2 m' : Nat) (ds : List (Value × List Int)), k2 + g = L + 1 ∧ k2 ≤ L ∧ 1 ≤ k2 ∧ m' + 1 = K + k2 ∧ kk ≤ m' ∧ u5 = .int .i64 kk ∧ u7 = .int .i64 k2 ∧ Hid (ds.length = n) ∧ Hid (ds.drop kk = ps.drop kk) ∧
    Hid (qs = ds.take kk ++ cptP ((ps[m']?).map Prod.snd) (ps.drop (m' + 1))) ∧ Hid (w.grownBy wx (some b)) ∧ Hid (wx.ownsRow base 22 1 (.slice (some ⟨b, 0, none⟩) n cap) n (ds.map Prod.fst)))
  case atStart => exact ⟨K, 1, K, ps, by omega, by omega, by omega, rfl, Nat.le_refl _, rfl, rfl, HN, Lib.hid rfl, HQ2, Lib.hid (HG0.out _), Lib.hid (HO0.out _)⟩
  case round =>
  clear HQ2 HO0 HG0
  obtain ⟨kk, k2, m', ds, hkg2, hk2L, hk21, hm', hkkm, rfl, rfl, HDL, HDD, HQQ, HG, HO⟩ := hrel
  by_cases hk2 : k2 < L
  case neg =>
    have hk2e : k2 = L := by omega
    have HF : Hid (qs = ds.take kk) := Lib.hid (by
      rw [HQQ.out, List.drop_eq_nil_of_le (by have := HN.out; omega), cptP, List.append_nil])
    have hdl : decide ((k2 : Int) < (L : Int)) = false := decide_eq_false (by omega)
    have hcl : ∀ ty, (Builtin.clear_ #[29] ty #[.slice (some ⟨b, kk, none⟩) (n - kk) (cap - kk)]).run Tryz.prog wr = .ok (.tuple #[]) (wr.setCells b kk (List.replicate (n - kk) (.slice none 0 0))) :=
      fun ty => Lib.run_clear_slice wr _ _ ty _ HU.out HZ.out rfl rfl b kk _ _ (by omega) (fun i hi => by
        obtain ⟨_, _, h, _⟩ := own_at (c := Prod.fst) HO.out (v := kk + i) (by omega)
        rw [h]; rfl) (fun i hi => by
        obtain ⟨_, _, _, h, _⟩ := own_at (c := Prod.fst) HO.out (v := kk + i) (by omega)
        exact h)
    have hkkn : (kk : Int) ≤ n := by omega
    have hkk0 : (0 : Int) ≤ kk := by omega
    have hkkc : kk ≤ cap := by omega
    have hkkn2 : kk ≤ n := by omega
    go_wp2
    go_ret
    obtain ⟨k1, k3⟩ := own_high (List.replicate (n - kk) (.slice none 0 0)) kk wr (Nat.le_refl _) (own_cut HO.out hkkn2)
    have hlq : qs.length = kk := by rw [HF.out, List.length_take, HDL.out]; omega
    refine ⟨_, rfl, ?_, rfl, ?_⟩
    · rw [HQE.out, hlq, HF.out, List.map_take]
      exact k1
    · exact ⟨k3.os.trans HG.out.os, k3.tape.trans HG.out.tape, k3.output.trans HG.out.output, Nat.le_trans HG.out.size k3.size, fun i hi hne => (k3.block i (Nat.lt_of_lt_of_le hi HG.out.size) hne).trans (HG.out.block i hi hne)⟩
  obtain ⟨zv, z, hz, _⟩ := pair_at (xs := ps) (j := m') (by have := HN.out; omega)
  obtain ⟨uv, u, hu, eu⟩ := pair_at (xs := ps) (j := K + k2) (by have := HN.out; omega)
  obtain ⟨_, hz1, hzc, _⟩ := own_at (c := Prod.fst) HO.out (v := m') (by omega)
  obtain ⟨_, hu1, huc, _⟩ := own_at (c := Prod.fst) HO.out (v := K + k2) (by omega)
  rw [drop_of_drop HDD.out hkkm, hz] at hz1
  rw [drop_of_drop HDD.out (by omega), hu] at hu1
  injection hz1 with hz1
  injection hu1 with hu1
  subst hz1 hu1
  have hrd : ∀ p ∈ ps, Ints (fun _ => True) wr p.1 p.2 := fun p hp => ((HP.out p hp).move fun k hk _ => HG.out.block k hk.2 fun e => hk.1 (by injection e with e; rw [e]; rfl)).mono fun _ _ => trivial
  obtain ⟨ua, un, uc, rfl, _, _⟩ := (hrd _ (List.mem_of_getElem? hu)).form'
  have heq0 := lcanon1_any (.slice ua un uc) zv u z wr (hrd _ (List.mem_of_getElem? hu)) (hrd _ (List.mem_of_getElem? hz))
  have heq := fun nq => lcanon1_any (.slice ua un uc) zv u z (wr.drewN nq) ((hrd _ (List.mem_of_getElem? hu)).drewN nq) ((hrd _ (List.mem_of_getElem? hz)).drewN nq)
  obtain ⟨D, hD⟩ : ∃ D, (u == z) = D := ⟨_, rfl⟩
  rw [hD] at heq heq0
  have HEQ2 := Lib.hid heq
  have HEQ0 := Lib.hid heq0
  have hmm : m' + 1 = K + k2 := hm'
  have HI2 : Hid (qs = ds.take kk ++ (if D = true then cptP (some u) (ps.drop (K + k2 + 1)) else (.slice ua un uc, u) :: cptP (some u) (ps.drop (K + k2 + 1)))) := Lib.hid (by
    rw [HQQ.out, hz, hmm, eu, Option.map_some, cptP, ← hD]
    by_cases e : z = u
    · rw [if_pos (by rw [e]), if_pos (by simp [e])]
    · rw [if_neg (by simpa using e), if_neg (by simpa using fun h => e h.symm)])
  have HU2 := Lib.hid hu
  obtain ⟨q, hq⟩ : ∃ q, q + 1 = k2 := ⟨k2 - 1, by omega⟩
  have hmq : m' = K + q := by omega
  rw [hmq] at hzc
  have hv1 : IntKind.i64.wrap ((k2 : Int) - 1) = (q : Int) := by rw [IntWalk.i64_in _ ⟨by omega, by omega⟩]; omega
  have hv2 : ((k2 : Int) - 1) = (q : Int) := by omega
  have hv3 : IntKind.i64.wrap (q : Int) = (q : Int) := IntWalk.i64_in _ ⟨by omega, by omega⟩
  have hdl : decide ((k2 : Int) < (L : Int)) = true := decide_eq_true (by omega)
  have hk20 : (0 : Int) ≤ k2 := by omega
  have hk2b : (k2 : Int) < L := by omega
  have hq0 : (0 : Int) ≤ q := by omega
  have hqb : (q : Int) < L := by omega
  have HMQ := Lib.hid hmq
  have HMM := Lib.hid hmm
  clear hz hu eu hrd heq heq0 hD HQQ hm' hmm hmq
  rcases bool2 D with rfl | rfl
  · have HF : Hid (qs = ds.take kk ++ cptP ((ps[K + k2]?).map Prod.snd) (ps.drop (K + k2 + 1))) := Lib.hid (by rw [HI2.out, if_pos rfl, HU2.out]; rfl)
    clear HI2 HU2
    go_upto_region 11 with fail
    go_quiet ((go_at_call 49; first | exact quiet_add (HEQ2.out _) | exact Calls.quiet_of (HEQ2.out _) | exact Calls.quiet_of HEQ0.out | exact Calls.quiet_of (fun n => HEQ2.out n)))
    go_wp2
    go_roundg (gk - 1)
    case measure => omega
    case rel => exact ⟨kk, k2 + 1, K + k2, ds, by omega, by omega, by omega, rfl, by have := HMM.out; omega, rfl, by go_num, HDL, HDD, HF, Lib.hid (by have h := HG.out; exact ⟨h.os, h.tape, h.output, h.size, h.block⟩), Lib.hid (own_same HO.out fun _ _ => rfl)⟩
  have hkkn : (kk : Int) < n := by have := HMM.out; omega
  have hkkn2 : kk < n := by have := HMM.out; omega
  have hkk0 : (0 : Int) ≤ kk := by omega
  obtain ⟨_, _, hkc, hkz, _, _, hst⟩ := own_at (c := Prod.fst) HO.out (v := kk) hkkn2
  have HST2 := Lib.hid (hst (.slice ua un uc, u))
  have HF : Hid (qs = (ds.set kk (.slice ua un uc, u)).take (kk + 1) ++ cptP ((ps[K + k2]?).map Prod.snd) (ps.drop (K + k2 + 1))) := Lib.hid (by
    have hlt : kk < (ds.set kk (.slice ua un uc, u)).length := by rw [List.length_set, HDL.out]; exact hkkn2
    rw [HI2.out, if_neg (by simp), HU2.out, List.take_succ_eq_append_getElem hlt, List.getElem_set_self, List.take_set_of_le (Nat.le_refl _), List.append_assoc]
    rfl)
  have HDD2 : Hid ((ds.set kk (.slice ua un uc, u)).drop (kk + 1) = ps.drop (kk + 1)) := Lib.hid (by
    rw [List.drop_set_of_lt (by omega), ← List.drop_drop, HDD.out, List.drop_drop])
  clear HI2 HU2 hst HDD
  go_upto_region 11 with fail
  go_quiet ((go_at_call 49; first | exact quiet_add (HEQ2.out _) | exact Calls.quiet_of (HEQ2.out _) | exact Calls.quiet_of HEQ0.out | exact Calls.quiet_of (fun n => HEQ2.out n)))
  go_wp2
  go_roundg (gk - 1)
  case measure => omega
  case rel => exact ⟨kk + 1, k2 + 1, K + k2, ds.set kk (.slice ua un uc, u), by omega, by omega, by omega, rfl, by have := HMM.out; omega, by go_num, by go_num, Lib.hid (by rw [List.length_set]; exact HDL.out), HDD2, HF, Lib.hid (by
      have h := HG.out
      refine ⟨h.os, h.tape, h.output, by simpa using h.size, fun i hi hne => ?_⟩
      exact (Below.heap_setCell wr ⟨b, kk, none⟩ _ i (fun e => hne (by rw [e]))).trans (h.block i hi hne)), Lib.hid (own_same HST2.out fun _ _ => rfl)⟩

/- Laying: SortFunc with the statement's comparer of clauses. No condition but the lengths. -/
open Go.ChangeShapes Go.WideShapes Go.ChangeAt Go.RowKit
set_option linter.unusedVariables false

theorem lsortcls_own (w : World) (base : Nat) (v : Value) (ps : List (Value × List Int)) (hown : w.ownsRow base 22 1 v ps.length (ps.map Prod.fst)) (hps : ∀ p ∈ ps, Ints (fun b => v.ownBlock ≠ some b) w p.1 p.2) (hl : ps.length ≤ 1048576) :
    Calls Tryz.prog 46 #[v, .func (.func 47) #[] #[]] w (SortedRows w base v ps) :=
  sortrows _ (enters_of Tryz.func47 (by kernel_rfl) rfl) (fun v u xs ys w hx hy => lcompare_any v u xs ys w hx hy) w base v ps hown hps hl

/- Walk: the statement's Equal. No condition. -/
open Go.ChangeShapes Go.WideShapes Go.ChangeAt Go.RowKit
set_option linter.unusedVariables false

/- Walk: the statement's Canonical. No condition but the lengths. -/
open Go.ChangeShapes Go.WideShapes Go.ChangeAt Go.RowKit
set_option linter.unusedVariables false

set_option maxRecDepth 100000 in
set_option maxHeartbeats 4000000 in
theorem lcanonical_any (F : Nat → Prop) (v : Value) (cs : List (List Int)) (w : World) (hx : Clss F w v cs) (hl : cs.length ≤ 1048576) (hll : ∀ c ∈ cs, c.length ≤ 16777216) :
    Calls Tryz.prog 26 #[v] w (CanonPost w cs) := by
  obtain ⟨a, n, c, rfl, HN, hn⟩ := hx.form'
  have hinfo : (Tryz.prog.info? 22).map (fun i => (i.zero, i.size, i.bytes)) = some (some (.slice none 0 0), 1, 24) := by kernel_rfl
  have HI := Lib.hid hinfo
  have HX := Lib.hid hx
  have HLL := Lib.hid hll
  have hn2 : n ≤ 1048576 := by rw [HN.out]; exact hl
  obtain ⟨B, hB⟩ : ∃ B, w.heap.size = B := ⟨_, rfl⟩
  have HBE := Lib.hid hB
  have HB0 : Hid (Below B w (w.alloc (.cells #[] 22))) := Lib.hid ((Below.refl _ _).alloc (by omega) _)
  have HO0 : Hid (Out B (w.alloc (.cells #[] 22)) (.slice (some ⟨w.heap.size, 0, none⟩) 0 0) []) := Lib.hid ⟨by simpa using own_new (base := B) (w := w) #[] 22 (by omega) (by simp), by simp⟩
  have HS0 : Hid (B ≤ (w.alloc (.cells #[] 22)).heap.size) := Lib.hid (by simp; omega)
  obtain ⟨Q, hQ⟩ : ∃ Q, keepM cs = Q := ⟨_, rfl⟩
  have HQ0 : Hid (Q = keepM (cs.drop 0)) := Lib.hid hQ.symm
  have HQE : Hid (canM cs = cptM (srtC clsC Q)) := Lib.hid (by rw [← hQ]; rfl)
  clear hx hll hinfo hl hB hQ
  go_enter Tryz.func26, Tryz.ntmps26
  go_wp2
  go_loopg [3, 12] n (fun gg u3 u12 wx => ∃ (k : Nat) (ov : Value) (ps : List (Value × List Int)), k + gg = n ∧ u12 = .int .i64 k ∧ u3 = ov ∧ Hid (Below B w wx) ∧ Hid (B ≤ wx.heap.size) ∧ Hid (Out B wx ov ps) ∧ ps.length ≤ k ∧ Hid (Q = ps.map Prod.snd ++ keepM (cs.drop k)))
  case atStart => exact ⟨0, _, [], by omega, rfl, rfl, HB0, HS0, HO0, by simp, HQ0⟩
  case round =>
  clear HB0 HS0 HO0 HQ0
  obtain ⟨k, ov, ps, hkg, rfl, rfl, HB, HSZ, HO, hpk, HQ⟩ := hrel
  obtain ⟨oa, oc, hov⟩ := own_form HO.out.1
  obtain ⟨pn, hpn⟩ : ∃ m, ps.length = m := ⟨_, rfl⟩
  rw [hpn] at hov hpk
  subst hov
  have HPN := Lib.hid hpn
  clear hpn
  by_cases hk : k < n
  case neg =>
    have hd : decide (k < n) = false := decide_eq_false hk
    have HQF : Hid (Q = ps.map Prod.snd) := Lib.hid (by
      rw [HQ.out, List.drop_eq_nil_of_le (by have := HN.out; omega)]
      exact List.append_nil _)
    have HSO := Lib.hid (lsortcls_own wr B (.slice oa pn oc) ps HO.out.1 (fun p hp => (HO.out.2 p hp).mono fun _ h => h.2) (by have := HPN.out; omega))
    clear HQ
    go_wp2_with fail
    refine HSO.out.mono ?_
    rintro e w2 ⟨rfl, qs0, hp0, hq0, ho0, hg0⟩
    have hlen0 : qs0.length = ps.length := hp0.length_eq
    have HC := Lib.hid (lcompactf_any w2 B (.slice oa pn oc) qs0 (by rw [hlen0]; exact ho0) (fun p hp' => ((HO.out.2 p (hp0.subset hp')).lt.move fun k hk _ => hg0.block k hk.2 fun e => hk.1.2 e.symm).mono fun _ h => h.1.2) (by have := HPN.out; omega))
    have HG0 := Lib.hid hg0
    have HQ0 : Hid ((cptP none qs0).map Prod.snd = cptM (srtC clsC (ps.map Prod.snd)) ∧ ∀ q ∈ cptP none qs0, q ∈ ps) := Lib.hid ⟨by rw [cptP_snd, hq0]; rfl, fun q hq' => hp0.subset (cptP_mem _ _ q hq')⟩
    clear ho0 hg0 hp0 hq0 hlen0 HSO
    go_wp2_with fail
    refine HC.out.mono ?_
    rintro e w3 ⟨v3, rfl, ho3, hb3, hg3'⟩
    have hg3 := grown_trans HG0.out hg3'
    obtain ⟨qs, hqs⟩ : ∃ q, cptP none qs0 = q := ⟨_, rfl⟩
    have hqq := HQ0.out
    rw [hqs] at ho3 hqq
    obtain ⟨hq3, hm3⟩ := hqq
    have HF : Hid (CanonPost w cs (.returned v3) w3) := Lib.hid (by
      have hbel : Below B w w3 := HB.out.grown hg3 HSZ.out fun k hk => (HO.out.lt k hk).1
      refine ⟨v3, rfl, ?_, by rw [HBE.out]; exact hbel⟩
      rw [HBE.out, HQE.out, HQF.out, ← hq3]
      have hlq : qs.length ≤ 9223372036854775807 := by
        have h1 := congrArg List.length hq3
        rw [List.length_map] at h1
        have h2 := cptG_len none (srtC clsC (ps.map Prod.snd))
        rw [(srtC_perm clsC _).length_eq, List.length_map] at h2
        have h3 := HPN.out
        unfold cptM at h1
        omega
      refine ⟨qs.map Prod.fst, (ownsRow_sl1 ho3 hlq).mono fun b hb => hb.1, by simp, fun j u c hu hc => ?_⟩
      rw [List.getElem?_map] at hu hc
      rcases hj : qs[j]? with _ | q
      · rw [hj] at hu; cases hu
      · rw [hj] at hu hc
        injection hu with hu
        injection hc with hc
        subst hu hc
        exact ((HO.out.2 q (hm3 q (List.mem_of_getElem? hj))).lt.move fun k hk _ => hg3.block k hk.2 fun e => hk.1.2 e.symm).mono fun b hb => hb.1.1)
    obtain ⟨a3, c3, rfl⟩ := own_form ho3
    clear ho3 hq3 hm3 hb3 hg3 hg3' HC HG0 HQ0
    go_wp2_with fail
    go_ret
    exact HF.out
  obtain ⟨x, hxx, ex⟩ := drop_at (xs := cs) (k := k) (by have := HN.out; omega)
  have hcw := Rows1.move (w' := wr) (fun _ _ _ _ _ h hm => h.move hm) (show Clss (fun b => b < w.heap.size) w _ cs from HX.out.lt) fun b hb _ => HB.out.block b (by rw [← HBE.out]; exact hb)
  obtain ⟨b, o, u, rfl, _, hb, hcc, hu⟩ := hcw.at hxx
  have hck := clone_own _ u x wr hu (HLL.out x (List.mem_of_getElem? hxx))
  obtain ⟨ua, un, uc, rfl, _, _⟩ := hu.form'
  have HCK := Lib.hid hck
  have HX64 := Lib.hid hu.2
  have HXL := Lib.hid (HLL.out x (List.mem_of_getElem? hxx))
  have H64 : Hid (∀ y ∈ claM x, I64 y) := Lib.hid fun y hy => hu.2 y (claM_mem hy)
  have HLX : Hid ((claM x).length ≤ 16777216) := Lib.hid (Nat.le_trans (claM_len x) (HLL.out x (List.mem_of_getElem? hxx)))
  have HQ1 : Hid (Q = ps.map Prod.snd ++ (if oppM (claM x) = true then keepM (cs.drop (k + 1)) else claM x :: keepM (cs.drop (k + 1)))) := Lib.hid (by
    rw [HQ.out, ex, keepM, List.map_cons, List.filter_cons]
    rcases h : oppM (claM x) with _ | _
    · rw [if_pos (by simp), if_neg (by simp)]; rfl
    · rw [if_neg (by simp), if_pos rfl]; rfl)
  clear hcw hck hu hxx ex HQ
  go_wp2_with fail
  refine HCK.out.mono ?_
  rintro e w1 ⟨v1, rfl, ho1, hb1⟩
  have HS1 := Lib.hid (lsortlit_own w1 _ _ v1 x ho1 HX64.out HXL.out)
  have HBa := Lib.hid hb1
  have hlt1 := ho1.lt
  obtain ⟨a1, c1, rfl⟩ := own_form ho1
  clear ho1 hb1 HCK
  go_wp2_with fail
  refine HS1.out.mono ?_
  rintro e w2 ⟨rfl, ho2, hg2⟩
  have HBb := Lib.hid (HBa.out.grown hg2 HBa.out.size fun k hk => (hlt1 k hk).1)
  have hlen : (srtC litC x).length = x.length := (srtC_perm litC x).length_eq
  have HC1 := Lib.hid (compact_own w2 _ _ _ (srtC litC x) ho2 (by have := HXL.out; omega))
  have hlt2 := ho2.lt
  clear ho2 hg2 HS1 HBa
  go_wp2_with fail
  refine HC1.out.mono ?_
  rintro e w4 ⟨v4, rfl, ho4', _, hg4⟩
  have hb4 := HBb.out.grown hg4 HBb.out.size fun k hk => (hlt2 k hk).1
  have ho4 : w4.ownsRow wr.heap.size 3 1 v4 (claM x).length ((claM x).map (.int .i64)) := by
    rw [List.length_map] at ho4'; exact ho4'
  clear ho4' hg4 HC1 HBb hlt1 hlt2 hlen
  obtain ⟨a4, c4, rfl⟩ := own_form ho4
  obtain ⟨n4, hn4⟩ : ∃ m, (claM x).length = m := ⟨_, rfl⟩
  have hr4 : Ints (fun b => wr.heap.size ≤ b) w4 (.slice a4 (claM x).length c4) (claM x) := ⟨(ownsRow_sl1 ho4 (by have := HLX.out; omega)).mono fun b hb => hb.1, H64.out⟩
  rw [hn4] at hr4 ⊢
  have HN4 := Lib.hid hn4
  have HR4 := Lib.hid hr4
  have hn4b : n4 ≤ 16777216 := by have := HLX.out; omega
  have hsz4 := hb4.size
  have hszr := HSZ.out
  have HB4 := Lib.hid (HB.out.trans (hb4.mono HSZ.out))
  have HO4 := Lib.hid (HO.out.below hb4)
  obtain ⟨O, hO⟩ : ∃ b, oppM (claM x) = b := ⟨_, rfl⟩
  rw [hO] at HQ1
  have HOO : Hid (O = (false || oppM ((claM x).drop (0 - 1)))) := Lib.hid (by rw [← hO]; rfl)
  have hlt4 : ∀ b, wr.heap.size ≤ b → B ≤ b ∧ (Value.slice oa pn oc).ownBlock ≠ some b := fun b hb => ⟨by omega, fun e => by have := (HO.out.lt b e).2; omega⟩
  have HLT4 := Lib.hid hlt4
  obtain ⟨GK, hGK⟩ : ∃ G, G = gk := ⟨_, rfl⟩
  subst hGK
  clear ho4 hb4 hr4 hO hn4 hlt4 HO HB HLX H64 HSZ
  go_wp2_with fail
  go_loopg [7, 24] n4 (fun gg u7 u24 wx => ∃ (i nq : Nat) (db : Bool), i + gg = n4 ∧ u24 = .int .i64 i ∧ u7 = .bool db ∧ wx = w4.drewN nq ∧ Hid (O = (db || oppM ((claM x).drop (i - 1)))))
  case atStart => exact ⟨0, 0, false, by omega, rfl, rfl, rfl, HOO⟩
  case round =>
  clear HOO
  obtain ⟨i, nq, db, hig, rfl, rfl, rfl, hinv⟩ := hrel
  by_cases hi : i < n4
  case neg =>
    have HFO : Hid (O = db) := Lib.hid (by rw [hinv.out, oppM_end (by have := HN4.out; omega), Bool.or_false])
    have hd : decide (i < n4) = false := decide_eq_false hi
    clear hinv
    obtain rfl := HFO.out
    clear HFO
    have HB5 := Lib.hid (below_drewN HB4.out nq)
    have HO5 : Hid (Out B (w4.drewN nq) (.slice oa pn oc) ps) := Lib.hid (HO4.out.below (below_drewN (Below.refl _ _) nq))
    have HR5 := Lib.hid ((HR4.out.drewN nq).mono HLT4.out)
    obtain ⟨w6, hw6⟩ : ∃ W, W = w4.drewN nq := ⟨_, rfl⟩
    have hs6 : w4.heap.size = w6.heap.size := by rw [hw6]; rfl
    rw [← hw6] at HB5 HO5 HR5 ⊢
    clear hw6 HB4 HO4 HR4
    rcases bool2 O with rfl | rfl
    · have HF : Hid (Q = ps.map Prod.snd ++ keepM (cs.drop (k + 1))) := Lib.hid (by rw [HQ1.out, if_pos rfl])
      clear HQ1
      go_wp2_with fail
      go_roundg (GK - 1)
      case measure => omega
      case rel => exact ⟨k + 1, _, ps, by omega, by go_num, rfl, HB5, Lib.hid (by omega), HO5, by have := HPN.out; omega, HF⟩
    have HF : Hid (Q = (ps ++ [(Value.slice a4 n4 c4, claM x)]).map Prod.snd ++ keepM (cs.drop (k + 1))) := Lib.hid (by rw [HQ1.out, if_neg (by simp), List.map_append, List.append_assoc]; rfl)
    have hown6 := HO5.out.1
    rw [HPN.out] at hown6
    clear HQ1
    go_wp2_with (at_builtin; go_loud (refine wpList_push1 rfl _ _ 29 rfl 22 (.slice none 0 0) 24 Tryz.underlying29 HI.out rfl B (.slice oa pn oc) pn (ps.map Prod.fst) w6 (.slice a4 n4 c4) rfl rfl hown6 rfl (by omega) (by omega) (by omega) ?_); intro g7 cap7 w7 hown7 hg7 hs7 hgb hgl hat; have HB7 := Lib.hid (HB5.out.grown hg7 (by omega) (fun k hk => (hown6.lt k hk).1)); have HO7 : Hid (Out B w7 (.slice (some ⟨g7, 0, none⟩) (ps.length + 1) cap7) (ps ++ [(Value.slice a4 n4 c4, claM x)])) := Lib.hid (HO5.out.push HR5.out (by rw [HPN.out]; exact hown7) hg7 hat); clear hown7 hg7 hown6)
    go_roundg (GK - 1)
    case measure => omega
    case rel => exact ⟨k + 1, _, _, by omega, by go_num, rfl, HB7, Lib.hid (by omega), by rw [HPN.out] at HO7; exact HO7, by have := HPN.out; simp; omega, HF⟩
  have hdi : decide ((i : Int) < n4) = true := by simp; omega
  have hdi2 : decide (i < n4) = true := by simp; omega
  rcases bool2 db with rfl | rfl
  · have HF : Hid (O = (true || oppM ((claM x).drop (i + 1 - 1)))) := Lib.hid (by rw [hinv.out, Bool.true_or, Bool.true_or])
    clear hinv
    go_upto_region 12 with fail
    go_quiet (fail)
    go_wp2
    go_roundg (gk - 1)
    case measure => omega
    case rel => exact ⟨i + 1, _, true, by omega, by go_num, rfl, rfl, HF⟩
  rcases Nat.eq_zero_or_pos i with rfl | hip
  · have HF : Hid (O = (false || oppM ((claM x).drop (0 + 1 - 1)))) := Lib.hid hinv.out
    have hd0 : decide ((0 : Int) < ((0 : Nat) : Int)) = false := by simp
    clear hinv
    go_upto_region 12 with fail
    go_quiet (fail)
    go_wp2
    go_roundg (gk - 1)
    case measure => omega
    case rel => exact ⟨1, _, false, by omega, by go_num, rfl, rfl, HF⟩
  obtain ⟨m, hm⟩ : ∃ m, m + 1 = i := ⟨i - 1, by omega⟩
  obtain ⟨p, hpx⟩ : ∃ y, (claM x)[m]? = some y := ⟨_, List.getElem?_eq_getElem (by have := HN4.out; omega)⟩
  obtain ⟨q, hqx⟩ : ∃ y, (claM x)[m + 1]? = some y := ⟨_, List.getElem?_eq_getElem (by have := HN4.out; omega)⟩
  have HE : Hid (O = ((decide (q ≠ 0) && decide (q = -p) && decide (q ≠ p)) || oppM ((claM x).drop (i + 1 - 1)))) := Lib.hid (by rw [hinv.out, Bool.false_or, show i - 1 = m by omega, oppM_cons hpx hqx, hm, Nat.add_sub_cancel])
  have hxs := HR4.out
  obtain ⟨xb, xo, rfl, _, hxb, hxc, hx0⟩ := hxs.at hpx
  obtain ⟨yb, yo, hyo, _, hyb, hyc, hy0⟩ := hxs.at hqx
  injection hyo with hyo
  injection hyo with h1 h2
  subst h1 h2
  rw [hm] at hyc
  obtain ⟨pm, hpm⟩ : ∃ z, IntKind.i64.wrap (-p) = z := ⟨_, rfl⟩
  have hopp : (q = -p ∧ q ≠ p) ↔ (q = pm ∧ q ≠ p) := by rw [← hpm]; exact opp_wrap hx0 hy0
  have hw1 : IntKind.i64.wrap ((i : Int) - 1) = (m : Int) := by rw [IntWalk.i64_in _ ⟨by omega, by omega⟩]; omega
  have hw2 : ((i : Int) - 1) = (m : Int) := by omega
  have hw3 : IntKind.i64.wrap (m : Int) = (m : Int) := IntWalk.i64_in _ ⟨by omega, by omega⟩
  have hd0 : decide ((0 : Int) < (i : Int)) = true := by simp; omega
  have hi0 : (0 : Int) ≤ i := by omega
  have hm0 : (0 : Int) ≤ m := by omega
  have hm1 : (m : Int) < n4 := by omega
  have hi1 : (i : Int) < n4 := by omega
  have hm3 : m < n4 := by omega
  have HMI := Lib.hid hm
  by_cases e1 : q = p
  · have HF : Hid (O = (false || oppM ((claM x).drop (i + 1 - 1)))) := Lib.hid (by rw [HE.out, decide_eq_false (p := q ≠ p) (by simp [e1])]; simp)
    have hd1 : (p != q) = false := by simp [e1]
    clear hinv hpx hqx HE hxs e1 hm hopp
    go_upto_region 12 with fail
    go_quiet (fail)
    go_wp2
    go_roundg (gk - 1)
    case measure => omega
    case rel => exact ⟨i + 1, _, false, by omega, by go_num, rfl, rfl, HF⟩
  have hd1 : (p != q) = true := by simp; exact fun e => e1 e.symm
  by_cases e2 : q = pm
  · have hd2 : (q == pm) = true := by simp [e2]
    by_cases e3 : q = 0
    · have HF : Hid (O = (false || oppM ((claM x).drop (i + 1 - 1)))) := Lib.hid (by rw [HE.out, decide_eq_false (p := q ≠ 0) (by omega)]; simp)
      have hd3 : (q != 0) = false := by simp [e3]
      clear hinv hpx hqx HE hxs e1 e2 e3 hm hopp
      go_upto_region 12 with fail
      go_quiet (fail)
      go_wp2
      go_roundg (gk - 1)
      case measure => omega
      case rel => exact ⟨i + 1, _, false, by omega, by go_num, rfl, rfl, HF⟩
    · have HF : Hid (O = (true || oppM ((claM x).drop (i + 1 - 1)))) := Lib.hid (by rw [HE.out, decide_eq_true e3, decide_eq_true (hopp.2 ⟨e2, e1⟩).1, decide_eq_true e1]; simp)
      have hd3 : (q != 0) = true := by simp [e3]
      clear hinv hpx hqx HE hxs e1 e2 e3 hm hopp
      go_upto_region 12 with fail
      go_quiet (fail)
      go_wp2
      go_roundg (gk - 1)
      case measure => omega
      case rel => exact ⟨i + 1, _, true, by omega, by go_num, rfl, rfl, HF⟩
  · have HF : Hid (O = (false || oppM ((claM x).drop (i + 1 - 1)))) := Lib.hid (by
      rw [HE.out, decide_eq_true (p := q ≠ p) e1, decide_eq_false (p := q = -p) (fun h3 => e2 (hopp.1 ⟨h3, e1⟩).1)]; simp)
    have hd2 : (q == pm) = false := by simp [e2]
    clear hinv hpx hqx HE hxs e1 e2 hm hopp
    go_upto_region 12 with fail
    go_quiet (fail)
    go_wp2
    go_roundg (gk - 1)
    case measure => omega
    case rel => exact ⟨i + 1, _, false, by omega, by go_num, rfl, rfl, HF⟩
end Go.Proofs.YteadlkecngfcoaaGreat
