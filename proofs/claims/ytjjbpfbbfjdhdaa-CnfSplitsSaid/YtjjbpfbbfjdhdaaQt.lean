/- Plain: what is left under a literal. Walk: the statement CnfSplits. No condition. -/
import Derived.Test.YtjjbpfbbfjdhdaaQs
import Derived.Test.YtjjbpfbbfjdhdaaQo
namespace Go.Proofs.Ytjjbpfbbfjdhdaa
open Go.ChangeShapes Go.WideShapes Go.ChangeAt Go.RowKit
set_option linter.unusedVariables false

theorem neg_small {lit : Int} (h : -6 ≤ lit ∧ lit ≤ 6) : IntKind.i64.wrap (-lit) = -lit := IntWalk.i64_in _ ⟨by omega, by omega⟩
theorem resM_mem {cs : List (List Int)} {lit : Int} {d : List Int} (h : d ∈ resM cs lit) : ∃ x ∈ cs, x.contains lit = false ∧ d = claM (rstM lit x) := by
  unfold resM at h
  obtain ⟨_, c, hc, rfl⟩ := canM_iff.1 h
  obtain ⟨x, hx, h1, rfl⟩ := resG_mem lit cs c hc
  exact ⟨x, hx, h1, rfl⟩
theorem resM_len (cs : List (List Int)) (lit : Int) : (resM cs lit).length ≤ cs.length := Nat.le_trans (canM_len _) (resG_len lit cs)
theorem resM_each {cs : List (List Int)} {lit : Int} {d : List Int} {m : Nat} (hm : ∀ c ∈ cs, c.length ≤ m) (h : d ∈ resM cs lit) : d.length ≤ m := by
  obtain ⟨x, hx, _, rfl⟩ := resM_mem h
  exact Nat.le_trans (claM_len _) (Nat.le_trans (rstM_len lit x) (hm x hx))
theorem resM_lit {cs : List (List Int)} {lit y : Int} {d : List Int} (hs : -6 ≤ lit ∧ lit ≤ 6) (h : d ∈ resM cs lit) (hy : y ∈ d) : ∃ x ∈ cs, y ∈ x ∧ y ≠ lit ∧ y ≠ -lit := by
  obtain ⟨x, hx, hc, rfl⟩ := resM_mem h
  rw [claM_iff, rstM, List.mem_filter, neg_small hs] at hy
  exact ⟨x, hx, hy.1, (fun e => by subst e; rw [List.contains_iff_mem.2 hy.1] at hc; exact absurd hc (by simp)), by simpa using hy.2⟩
theorem plain_res {cs : List (List Int)} {lit : Int} {n : Nat} (hs : -6 ≤ lit ∧ lit ≤ 6) (h : plainM cs n = true) : plainM (resM cs lit) n = true := by
  unfold plainM at h ⊢
  have h1 : (cs.any fun c => c.any (outB n)) = false := by simpa using h
  have h2 : ((resM cs lit).any fun c => c.any (outB n)) = false := by
    rw [List.any_eq_false]
    intro d hd
    simp only [Bool.not_eq_true, List.any_eq_false]
    intro y hy
    obtain ⟨x, hx, hyx, _⟩ := resM_lit hs hd hy
    have h3 := List.any_eq_false.1 h1 x hx
    simpa using List.any_eq_false.1 (by simpa using h3) y hyx
  rw [h2]
  rfl
theorem occ_res {cs : List (List Int)} {lit v : Int} (hs : -6 ≤ lit ∧ lit ≤ 6) (h : plainM cs 6 = true) (hv : v ∈ mags (resM cs lit)) : v ≠ lit ∧ v ≠ -lit ∧ 1 ≤ v ∧ v ≤ 6 := by
  obtain ⟨d, hd, hm⟩ := List.mem_flatMap.1 hv
  obtain ⟨y, hy, rfl⟩ := List.mem_map.1 (List.mem_filter.1 hm).1
  obtain ⟨x, hx, hyx, h1, h2⟩ := resM_lit hs hd hy
  have h3 := plain_lits (plain_res hs h) d hd y hy
  have h4 := h3.2
  have h5 := h3.1
  unfold varM at h4 ⊢
  split <;> omega
theorem true_res {cs : List (List Int)} {lit : Int} {inp : List Bool} (hs : -6 ≤ lit ∧ lit ≤ 6) (h0 : lit ≠ 0) (hl : litT inp lit = true) : trueM (resM cs lit) inp = trueM cs inp := by
  unfold resM
  rw [true_can]
  unfold trueM
  rw [Bool.eq_iff_iff, List.all_eq_true, List.all_eq_true]
  have hr : ∀ x : List Int, (rstM lit x).any (litT inp) = x.any (litT inp) := fun x => by
    rw [Bool.eq_iff_iff, List.any_eq_true, List.any_eq_true]
    constructor
    · rintro ⟨y, hy, ht⟩
      exact ⟨y, (List.mem_filter.1 hy).1, ht⟩
    · rintro ⟨y, hy, ht⟩
      refine ⟨y, List.mem_filter.2 ⟨hy, ?_⟩, ht⟩
      rw [neg_small hs]
      have : y ≠ -lit := fun e => by rw [e, litT_neg inp h0, hl] at ht; cases ht
      simpa using this
  constructor
  · intro h x hx
    rcases bool2 (x.contains lit) with hc | hc
    · rw [List.any_eq_true]
      exact ⟨lit, List.contains_iff_mem.1 hc, hl⟩
    · have : rstM lit x ∈ resG lit cs := by
        clear h
        induction cs with
        | nil => cases hx
        | cons c r ih =>
          rw [resG]
          rcases List.mem_cons.1 hx with rfl | hx
          · rw [if_neg (by rw [hc]; simp)]
            exact List.mem_cons_self ..
          · split
            · exact ih hx
            · exact List.mem_cons_of_mem _ (ih hx)
      have := h _ this
      rwa [hr] at this
  · intro h d hd
    obtain ⟨x, hx, _, rfl⟩ := resG_mem lit cs d hd
    rw [hr]
    exact h x hx
/-- the literal is made true -/
def setL (inp : List Bool) (lit : Int) : List Bool := if 0 < lit then inp.set (lit.toNat - 1) true else inp.set ((-lit).toNat - 1) false
theorem setL_lit {inp : List Bool} {lit : Int} (h0 : lit ≠ 0) (hl : (varM lit).toNat ≤ inp.length) : litT (setL inp lit) lit = true := by
  unfold setL litT
  unfold varM at hl
  by_cases h : 0 < lit
  · rw [if_pos h, decide_eq_true h]
    rw [if_neg (by omega)] at hl
    simp [List.getD_eq_getElem?_getD, show lit.toNat - 1 < inp.length by omega]
  · rw [if_neg h, decide_eq_true (show lit < 0 by omega), decide_eq_false h]
    rw [if_pos (by omega)] at hl
    simp [List.getD_eq_getElem?_getD, show (-lit).toNat - 1 < inp.length by omega]
theorem setL_len (inp : List Bool) (lit : Int) : (setL inp lit).length = inp.length := by
  unfold setL
  split <;> simp
set_option maxHeartbeats 1000000 in
theorem assign_own (n k : Nat) (w : World) (hn : n ≤ 62) (hk : k < 4611686018427387904) :
    Calls Try.prog 18 #[.int .i64 n, .int .i64 k] w fun e w' => ∃ v, e = .returned v ∧ w'.ownsRow w.heap.size 4 1 v n ((assM n k).map .bool) ∧ Below w.heap.size w w' := by
  have hinfo : (Try.prog.info? 4).map (fun i => (i.zero, i.size, i.bytes)) = some (some (.bool false), 1, 1) := by kernel_rfl
  have HI := Lib.hid hinfo
  clear hinfo
  have ho0 : (w.alloc (.cells #[] 4)).ownsRow w.heap.size 4 1 (.slice (some ⟨w.heap.size, 0, none⟩) 0 0) 0 (((assM n k).take 0).map .bool) := by simpa using own_new (base := w.heap.size) (w := w) #[] 4 (by omega) (by simp)
  have hb0 : Below w.heap.size w (w.alloc (.cells #[] 4)) := (Below.refl _ _).alloc (Nat.le_refl _) _
  have HO0 := Lib.hid ho0
  have HB0 := Lib.hid hb0
  clear ho0 hb0
  go_enter Try.func18, Try.ntmps18
  go_wp2
  go_loopg [5, 6] (n) (fun g u5 u6 wx => ∃ (j : Nat), j + g = n ∧ u6 = .int .i64 ((g : Int) - 1) ∧ Below w.heap.size w wx ∧ wx.ownsRow w.heap.size 4 1 u5 j (((assM n k).take j).map .bool))
  case atStart => exact ⟨0, by omega, by go_num, HB0.out, HO0.out⟩
  case round =>
    clear HO0 HB0
    obtain ⟨j, hj, rfl, hB, hown⟩ := hrel
    have HB := Lib.hid hB
    have HO := Lib.hid hown
    have hbs := hB.size
    clear hB hown
    rcases gk with _ | g
    · have hjn : j = n := by omega
      subst hjn
      go_wp2
      go_ret
      have h := HO.out
      rw [List.take_of_length_le (by rw [assM_len]; omega)] at h
      exact ⟨_, rfl, h, HB.out⟩
    · have hown := HO.out
      go_wp2_with (at_builtin; go_loud (refine wpList_push1 rfl _ _ 37 rfl 4 (.bool false) 1 Try.underlying37 HI.out rfl w.heap.size u5 j _ wr _ rfl rfl hown rfl (by omega) (by omega) (by omega) ?_); intro g3 cap3 w3 hown3 hg3 hs3 hgb hgl _; have HB3 := Lib.hid (HB.out.grown hg3 (by omega) (fun k hk => (hown.lt k hk).1)); have HO3 := Lib.hid hown3; clear hown3 hg3 hown)
      go_roundg g
      case measure => omega
      case rel =>
        refine ⟨j + 1, by omega, by go_num, HB3.out, ?_⟩
        have h := HO3.out
        rw [assM_take n k j (by omega), List.map_append, show n - 1 - j = g by omega, ← bit_test]
        exact h

set_option maxRecDepth 100000 in
set_option maxHeartbeats 8000000 in
theorem CnfSplits_any (F : Nat → Prop) (lit : Int) (cv : Value) (cs : List (List Int)) (w : World) (hx : Clss F w cv cs) (hi : I64 lit) :
    Calls Try.prog 9 #[cv, .int .i64 lit] w (BoolPost w true) := by
  obtain ⟨a, n, c, rfl, HN, hn⟩ := hx.form'
  have HX := Lib.hid hx
  have HI := Lib.hid hi
  clear hx hi
  go_enter Try.func9, Try.ntmps9
  go_wp2_with fail
  refine (known_any w).mono ?_
  rintro e w2 ⟨rfl, hb2⟩
  have HX2 := Lib.hid (HX.out.below hb2)
  have HB2 := Lib.hid hb2
  obtain ⟨Fw, hFw⟩ : ∃ b, fewC cs 20 100 = b := ⟨_, rfl⟩
  have hfew := lfew_any F (.slice a n c) cs 20 100 w2 HX2.out (by omega) (by omega)
  rw [hFw] at hfew
  have HFEW := Lib.hid hfew
  have HFW := Lib.hid hFw
  clear hb2 HX hfew hFw
  go_wp2_with fail
  refine HFEW.out.mono ?_
  rintro e w3 ⟨rfl, rfl⟩
  rcases bool2 Fw with rfl | rfl
  case inr =>
    go_wp2_with fail
    go_ret
    exact ⟨rfl, HB2.out⟩
  obtain ⟨hl, hll⟩ := few_lens HFW.out
  have HL : Hid (cs.length ≤ 20 ∧ (∀ c ∈ cs, c.length ≤ 300) ∧ ∀ c ∈ cs, c.length ≤ 16777216) := Lib.hid ⟨by omega, fun c hc => by have := hll c hc; omega, fun c hc => by have := hll c hc; omega⟩
  obtain ⟨Pl, hPl⟩ : ∃ b, plainM cs 6 = b := ⟨_, rfl⟩
  have hpl := plain_any F 6 (.slice a n c) cs w3 HX2.out (by omega)
  rw [hPl] at hpl
  have HPL := Lib.hid hpl
  have HPE := Lib.hid hPl
  clear HFEW HFW hl hll hpl hPl
  by_cases l0 : lit = 0
  · have hq0 : (lit == 0) = true := by simp [l0]
    clear l0
    rcases bool2 Pl with rfl | rfl
    all_goals (go_wp2_with fail; refine HPL.out.mono ?_; rintro e w4 ⟨rfl, rfl⟩; go_wp2_with fail; go_ret; exact ⟨rfl, HB2.out⟩)
  have hq0 : (lit == 0) = false := by simp [l0]
  by_cases l1 : lit < -6
  · have hq1 : decide (lit < -6) = true := decide_eq_true l1
    clear l0 l1
    rcases bool2 Pl with rfl | rfl
    all_goals (go_wp2_with fail; refine HPL.out.mono ?_; rintro e w4 ⟨rfl, rfl⟩; go_wp2_with fail; go_ret; exact ⟨rfl, HB2.out⟩)
  have hq1 : decide (lit < -6) = false := decide_eq_false l1
  by_cases l2 : 6 < lit
  · have hq2 : decide (6 < lit) = true := decide_eq_true l2
    clear l0 l1 l2
    rcases bool2 Pl with rfl | rfl
    all_goals (go_wp2_with fail; refine HPL.out.mono ?_; rintro e w4 ⟨rfl, rfl⟩; go_wp2_with fail; go_ret; exact ⟨rfl, HB2.out⟩)
  have hq2 : decide (6 < lit) = false := decide_eq_false l2
  rcases bool2 Pl with rfl | rfl
  case inr =>
    clear l0 l1 l2
    go_wp2_with fail
    refine HPL.out.mono ?_
    rintro e w4 ⟨rfl, rfl⟩
    go_wp2_with fail
    go_ret
    exact ⟨rfl, HB2.out⟩
  have HS : Hid (-6 ≤ lit ∧ lit ≤ 6 ∧ lit ≠ 0) := Lib.hid ⟨by omega, by omega, l0⟩
  clear l0 l1 l2
  go_wp2_with fail
  refine HPL.out.mono ?_
  rintro e w4 ⟨rfl, rfl⟩
  have HR1 := Lib.hid (residual_any F (.slice a n c) cs lit w4 HX2.out HI.out (by have := HL.out.1; omega) HL.out.2.2)
  clear HPL
  go_wp2_with fail
  refine HR1.out.mono ?_
  rintro e w5 ⟨v5, rfl, hc5, hb5⟩
  obtain ⟨qa, qn, qc, rfl, _, _⟩ := hc5.form'
  have HC5 := Lib.hid hc5
  have HX5 := Lib.hid (HX2.out.below hb5)
  have HB5 : Hid (Below w.heap.size w w5) := Lib.hid (HB2.out.trans (hb5.mono HB2.out.size))
  have hpl := plain_any _ 6 (.slice qa qn qc) (resM cs lit) w5 HC5.out (by omega)
  rw [plain_res ⟨HS.out.1, HS.out.2.1⟩ HPE.out] at hpl
  have HPL := Lib.hid hpl
  clear hc5 hb5 HR1 HX2 HB2 hpl
  go_wp2_with fail
  refine HPL.out.mono ?_
  rintro e w6 ⟨rfl, rfl⟩
  have HOC := Lib.hid (occur_any _ (.slice qa qn qc) (resM cs lit) w6 HC5.out (by have := resM_len cs lit; have := HL.out.1; omega) (fun d hd => resM_each HL.out.2.1 hd))
  clear HPL
  go_wp2_with fail
  refine HOC.out.mono ?_
  rintro e w7 ⟨v7, os, rfl, hi7, hb7, hs7, hm7⟩
  obtain ⟨oa, on, oc, rfl, HON, hon⟩ := hi7.form'
  have HI7 := Lib.hid hi7
  have HX7 := Lib.hid (HX5.out.below hb7)
  have HC7 := Lib.hid (Clss.below HC5.out hb7)
  have HB7 : Hid (Below w.heap.size w w7) := Lib.hid (HB5.out.trans (hb7.mono HB5.out.size))
  have HOV : Hid (∀ v ∈ os, v ≠ lit ∧ v ≠ -lit ∧ 1 ≤ v ∧ v ≤ 6) := Lib.hid fun v hv => occ_res ⟨HS.out.1, HS.out.2.1⟩ HPE.out ((hm7 v).1 hv)
  have hneg : IntKind.i64.wrap (-lit) = -lit := neg_small ⟨HS.out.1, HS.out.2.1⟩
  clear hi7 hb7 hs7 hm7 HOC HX5 HC5 HB5
  go_wp2_with fail
  go_loopg [41] on (fun g u41 wx => ∃ k : Nat, k + g = on ∧ u41 = .int .i64 k ∧ wx = w7)
  case atStart => exact ⟨0, by omega, rfl, rfl⟩
  case round =>
  obtain ⟨k, hkg, rfl, rfl⟩ := hrel
  by_cases hk : k < on
  · obtain ⟨y, hyy, _⟩ := drop_at (xs := os) (k := k) (by have := HON.out; omega)
    have hui := HI7.out
    obtain ⟨yb, yo, rfl, _, hyb, hyc, hy64⟩ := hui.at hyy
    obtain ⟨e1, e2, e3, e4⟩ := HOV.out y (List.mem_of_getElem? hyy)
    have hdk : decide ((k : Int) < on) = true := by simp; omega
    have hdk' : decide (k < on) = true := decide_eq_true hk
    have p1 : (y == lit) = false := by simp [e1]
    have p2 : (y == -lit) = false := by simp [e2]
    have p3 : decide (y < 1) = false := decide_eq_false (by omega)
    have p4 : decide (6 < y) = false := decide_eq_false (by omega)
    clear hyy hui e1 e2 e3 e4
    go_wp2_with fail
    go_roundg (gk - 1)
    case measure => omega
    case rel => exact ⟨k + 1, by omega, by go_num, rfl⟩
  have hdk : decide ((k : Int) < on) = false := by simp; omega
  have hdk' : decide (k < on) = false := decide_eq_false hk
  obtain ⟨w8, hw8⟩ : ∃ W, W = wr := ⟨_, rfl⟩
  subst hw8
  have HBL : Hid (Below w8.heap.size w8 w8) := Lib.hid (Below.refl _ _)
  have HP1 : Hid (∀ c ∈ cs, ∀ x ∈ c, x ≠ 0 ∧ varM x ≤ (6 : Nat)) := Lib.hid (plain_lits HPE.out)
  have HP2 : Hid (∀ c ∈ resM cs lit, ∀ x ∈ c, x ≠ 0 ∧ varM x ≤ (6 : Nat)) := Lib.hid (plain_lits (plain_res ⟨HS.out.1, HS.out.2.1⟩ HPE.out))
  have HT : Hid (∀ inp : List Bool, inp.length = 6 → trueM (resM cs lit) (setL inp lit) = trueM cs (setL inp lit)) := Lib.hid fun inp hin =>
    true_res ⟨HS.out.1, HS.out.2.1⟩ HS.out.2.2 (setL_lit HS.out.2.2 (by rw [hin]; have := HS.out; unfold varM; split <;> omega))
  obtain ⟨q, hq⟩ : ∃ q : Nat, (varM lit).toNat - 1 = q := ⟨_, rfl⟩
  have hq6 : q < 6 := by have := HS.out; unfold varM at hq; split at hq <;> omega
  clear HPE HOV
  go_wp2_with fail
  go_loopg [8] 64 (fun g u8 wx => ∃ k : Nat, k + g = 64 ∧ u8 = .int .i64 k ∧ Hid (Below w8.heap.size w8 wx))
  case atStart => exact ⟨0, by omega, rfl, HBL⟩
  case round =>
  clear HBL
  obtain ⟨k2, hkg2, rfl, HBL⟩ := hrel
  have HBW : Hid (Below w.heap.size w wr) := Lib.hid (HB7.out.trans (HBL.out.mono HB7.out.size))
  by_cases hk2 : k2 < 64
  case neg =>
    have hd : decide ((k2 : Int) < 64) = false := by simp; omega
    go_wp2_with fail
    go_ret
    exact ⟨rfl, HBW.out⟩
  have hd : decide ((k2 : Int) < 64) = true := by simp; omega
  have HAS := Lib.hid (assign_own 6 k2 wr (by omega) (by omega))
  go_wp2_with fail
  refine Calls.mono HAS.out ?_
  rintro e w9 ⟨iv, rfl, hown9, hb9⟩
  obtain ⟨g9, c9, rfl⟩ : ∃ g c, iv = .slice (some ⟨g, 0, none⟩) 6 c := by
    rcases hown9.2 with ⟨_, h0⟩ | ⟨g, cap, cur, rfl, _⟩
    · omega
    · exact ⟨_, _, rfl⟩
  obtain ⟨x9, hx9, hc9, hf9, hbg, hgl, hset⟩ := own_at .bool hown9 hq6
  have HB9 : Hid (Below w8.heap.size w8 w9) := Lib.hid (HBL.out.trans (hb9.mono HBL.out.size))
  have HSET : Hid (∀ bt : Bool, (if 0 < lit then true else false) = bt → Below w8.heap.size w8 (w9.setCell ⟨g9, q, none⟩ (.bool bt)) ∧ Bools (fun _ => True) (w9.setCell ⟨g9, q, none⟩ (.bool bt)) (.slice (some ⟨g9, 0, none⟩) 6 c9) (setL (assM 6 k2) lit)) := Lib.hid fun bt hbt => by
    refine ⟨HB9.out.setCell (by show _ ≤ g9; have := HBL.out.size; omega) _, ?_⟩
    have h := (ownsRow_sl1 (hset bt) (by omega)).mono (G := fun _ => True) fun _ _ => trivial
    have he : (assM 6 k2).set q bt = setL (assM 6 k2) lit := by
      unfold setL
      unfold varM at hq
      split at hq
      · rw [if_neg (by omega)]
        rw [if_neg (by omega)] at hbt
        rw [hq, hbt]
      · rw [if_pos (by have := HS.out; omega)]
        rw [if_pos (by have := HS.out; omega)] at hbt
        rw [hq, hbt]
    rw [he] at h
    exact h
  have hq0' : (0 : Int) ≤ q := by omega
  have hq6' : (q : Int) < 6 := by omega
  clear hown9 hb9 hset hbg hx9
  obtain ⟨wf, T, hwf⟩ : ∃ (wf : Bool → World) (T : Bool), wf = (fun bt => w9.setCell ⟨g9, q, none⟩ (.bool bt)) ∧ trueM cs (setL (assM 6 k2) lit) = T := ⟨_, _, rfl, rfl⟩
  have HTT : Hid (∀ bt : Bool, (if 0 < lit then true else false) = bt →
      Calls Try.prog 19 #[.slice qa qn qc, .slice (some ⟨g9, 0, none⟩) 6 c9] (w9.setCell ⟨g9, q, none⟩ (.bool bt)) (QuietPost (w9.setCell ⟨g9, q, none⟩ (.bool bt)) (.bool T)) ∧
      ∀ m, Calls Try.prog 19 #[.slice a n c, .slice (some ⟨g9, 0, none⟩) 6 c9] ((w9.setCell ⟨g9, q, none⟩ (.bool bt)).drewN m) (QuietPost ((w9.setCell ⟨g9, q, none⟩ (.bool bt)).drewN m) (.bool T))) := Lib.hid fun bt hbt => by
    obtain ⟨s1, s2⟩ := HSET.out bt hbt
    have h1 := true_any _ _ _ _ _ (setL (assM 6 k2) lit) _ (Clss.below HC7.out s1) s2 (by rw [setL_len, assM_len]; exact HP2.out)
    rw [HT.out _ (assM_len 6 k2), hwf.2] at h1
    refine ⟨h1, fun m => ?_⟩
    have h2 := true_any _ _ _ _ _ (setL (assM 6 k2) lit) _ ((HX7.out.below s1).drewN m) (s2.drewN m) (by rw [setL_len, assM_len]; exact HP1.out)
    rwa [hwf.2] at h2
  have hTT : (T != T) = false := by simp
  clear hwf
  by_cases hp : 0 < lit
  · obtain ⟨s1, _⟩ := HSET.out true (if_pos hp)
    obtain ⟨t1, t2⟩ := HTT.out true (if_pos hp)
    have HS1 := Lib.hid s1
    have H1 := Lib.hid t1
    have H2 := Lib.hid t2
    have hdp : decide (0 < lit) = true := decide_eq_true hp
    have hwq : IntKind.i64.wrap (lit - 1) = (q : Int) := by
      have := HS.out
      unfold varM at hq
      rw [if_neg (by omega)] at hq
      rw [IntWalk.i64_in _ ⟨by omega, by omega⟩]
      omega
    clear hp s1 t1 t2 HTT HSET hq
    go_wp2_with fail
    refine H1.out.mono ?_
    rintro e w10 ⟨rfl, n8, rfl⟩
    go_wp2_with fail
    refine (H2.out n8).mono ?_
    rintro e w11 ⟨rfl, n9, rfl⟩
    go_wp2_with fail
    go_roundg (gk - 1)
    case measure => omega
    case rel => exact ⟨k2 + 1, by omega, by go_num, Lib.hid (below_drewN HS1.out (n8 + n9))⟩
  · obtain ⟨s1, _⟩ := HSET.out false (if_neg hp)
    obtain ⟨t1, t2⟩ := HTT.out false (if_neg hp)
    have HS1 := Lib.hid s1
    have H1 := Lib.hid t1
    have H2 := Lib.hid t2
    have hdp : decide (0 < lit) = false := decide_eq_false hp
    have hwq : IntKind.i64.wrap (-lit - 1) = (q : Int) := by
      have := HS.out
      unfold varM at hq
      rw [if_pos (by omega)] at hq
      rw [IntWalk.i64_in _ ⟨by omega, by omega⟩]
      omega
    clear hp s1 t1 t2 HTT HSET hq
    go_wp2_with fail
    refine H1.out.mono ?_
    rintro e w10 ⟨rfl, n8, rfl⟩
    go_wp2_with fail
    refine (H2.out n8).mono ?_
    rintro e w11 ⟨rfl, n9, rfl⟩
    go_wp2_with fail
    go_roundg (gk - 1)
    case measure => omega
    case rel => exact ⟨k2 + 1, by omega, by go_num, Lib.hid (below_drewN HS1.out (n8 + n9))⟩
end Go.Proofs.Ytjjbpfbbfjdhdaa
