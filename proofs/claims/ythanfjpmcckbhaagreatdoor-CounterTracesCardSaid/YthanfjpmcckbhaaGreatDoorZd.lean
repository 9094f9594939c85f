/- (Counter seat) Walks of the statements' own: magnitude, asked, short, few. No condition but the sizes. -/
import Derived.Test.YthanfjpmcckbhaaGreatDoorZa
import Derived.Test.YthanfjpmcckbhaaGreatDoorQk
namespace Go.Proofs.YthanfjpmcckbhaaGreatDoor
open Go.ChangeShapes Go.WideShapes Go.ChangeAt Go.RowKit
set_option linter.unusedVariables false
set_option linter.unusedSimpArgs false

theorem lmag_any (n : Int) (w : World) (h : I64 n) :
    Calls Tryz.prog 33 #[.int .i64 n] w fun e w' => e = .returned (.int .u64 (varM n)) ∧ w' = w := by
  obtain ⟨i1, i2⟩ := h
  by_cases h0 : n < 0
  · have HV : Hid (varM n = -n) := Lib.hid (by unfold varM; rw [if_pos h0])
    have hd : decide (n < 0) = true := decide_eq_true h0
    have h1 : IntKind.i64.wrap (n + 1) = n + 1 := IntWalk.i64_in _ ⟨by omega, by omega⟩
    have h2 : IntKind.i64.wrap (-(n + 1)) = -(n + 1) := IntWalk.i64_in _ ⟨by omega, by omega⟩
    have h3 : IntKind.u64.wrap (-(n + 1)) = -(n + 1) := IntWalk.u64_in _ ⟨by omega, by omega⟩
    have h4 : IntKind.u64.wrap (-(n + 1) + 1) = -(n + 1) + 1 := IntWalk.u64_in _ ⟨by omega, by omega⟩
    go_enter Tryz.func33, Tryz.ntmps33
    go_wp2
    go_ret
    refine ⟨?_, rfl⟩
    rw [HV.out]
    go_num
  · have HV : Hid (varM n = n) := Lib.hid (by unfold varM; rw [if_neg h0])
    have hd : decide (n < 0) = false := decide_eq_false h0
    have h3 : IntKind.u64.wrap n = n := IntWalk.u64_in _ ⟨by omega, by omega⟩
    go_enter Tryz.func33, Tryz.ntmps33
    go_wp2
    go_ret
    refine ⟨?_, rfl⟩
    rw [HV.out]
    go_num
set_option maxRecDepth 100000 in
set_option maxHeartbeats 8000000 in
theorem lasked_any (F G : Nat → Prop) (vars keep : Int) (cv lv : Value) (cs : List (List Int)) (ls : List Int) (w : World) (hc : Clss F w cv cs) (hl : Ints G w lv ls) (hiv : I64 vars) (hik : I64 keep) (hs : SzL cs) :
    Calls Tryz.prog 14 #[.agg #[.int .i64 vars, .int .i64 keep, cv], lv] w (CodePost w (askedM vars keep cs ls)) := by
  obtain ⟨ca, cn, cc, rfl, HCN, _⟩ := hc.form'
  obtain ⟨la, ln, lc, rfl, HLN, _⟩ := hl.form'
  obtain ⟨bb, hbb⟩ : ∃ b, w.heap.size = b := ⟨_, rfl⟩
  obtain ⟨W1, hW1⟩ : ∃ W, w.alloc (.cells #[.int .i64 vars, .int .i64 keep, .slice ca cn cc] 24) = W := ⟨_, rfl⟩
  have hb1 : Below w.heap.size w W1 := by rw [← hW1]; exact (Below.refl _ _).alloc (Nat.le_refl _) _
  have hrow : W1.heap[bb]? = some (.cells #[.int .i64 vars, .int .i64 keep, .slice ca cn cc] 24) := by rw [← hW1]; exact new_at' _ _ hbb.symm
  have c0 : W1.cell? ⟨bb, 0, none⟩ = some (.int .i64 vars) := by rw [cell_of_row _ _ _ _ _ _ hrow]; rfl
  have c1 : W1.cell? ⟨bb, 1, none⟩ = some (.int .i64 keep) := by rw [cell_of_row _ _ _ _ _ _ hrow]; rfl
  have hlt1 := block_lt c0
  obtain ⟨R, hR⟩ : ∃ R, askedM vars keep cs ls = R := ⟨_, rfl⟩
  have hR2 := hR
  unfold askedM at hR2
  rw [hR]
  have hck := lcheck_any F vars keep _ cs W1 (hc.below hb1) hiv hik (by have := hs.1; omega) (fun c h => by have := hs.2 c h; omega)
  obtain ⟨C, hC⟩ : ∃ C, checkM vars keep cs = C := ⟨_, rfl⟩
  rw [hC] at hck hR2
  have HCK := Lib.hid hck
  have HC := Lib.hid hC
  have HL := Lib.hid (hl.below hb1)
  have HB1 := Lib.hid hb1
  have HW1 := Lib.hid hW1
  have HBB := Lib.hid hbb
  clear hck hC hc hl hs hb1 hW1 hrow hR hbb
  go_enter Tryz.func14, Tryz.ntmps14
  go_wp2_with fail
  try rw [HW1.out]
  try rw [HBB.out]
  refine HCK.out.mono ?_
  rintro e w2 ⟨rfl, hb2⟩
  have HB2 : Hid (Below w.heap.size w w2) := Lib.hid (HB1.out.trans (hb2.mono HB1.out.size))
  have e0 := below_c hb2 hlt1 c0
  have e1 := below_c hb2 hlt1 c1
  have HL2 := Lib.hid (HL.out.below hb2)
  clear hb2 c0 c1 hlt1 HCK HL
  by_cases hC0 : C = 0
  case neg =>
    rw [if_pos hC0] at hR2
    subst hR2
    have hd : (C != 0) = true := by simp; exact hC0
    clear hC0
    go_wp2_with fail
    go_ret
    exact ⟨rfl, HB2.out⟩
  subst hC0
  have hd : ((0 : Int) != 0) = false := by decide
  rw [if_neg (by simp)] at hR2
  have hcv := check_vars HC.out
  have hwv : IntKind.u64.wrap vars = vars := IntWalk.u64_in _ ⟨by omega, by omega⟩
  have HCV := Lib.hid hcv
  have HR0 : Hid ((if ((ls.drop 0).any fun x => decide (x = 0) || (decide (vars < x) || decide (x < -vars))) = true then 3 else if 40 < keep then (4 : Int) else 0) = R) := Lib.hid hR2
  have HBW : Hid (Below w2.heap.size w2 w2) := Lib.hid (Below.refl _ _)
  clear hR2 hcv hd
  go_wp2_with fail
  go_loopg [15] ln (fun gg u15 wx => ∃ k nq : Nat, k + gg = ln ∧ u15 = .int .i64 k ∧ wx = w2.drewN nq ∧ Hid ((if ((ls.drop k).any fun x => decide (x = 0) || (decide (vars < x) || decide (x < -vars))) = true then 3 else if 40 < keep then (4 : Int) else 0) = R))
  case atStart => exact ⟨0, 0, by omega, rfl, rfl, HR0⟩
  case round =>
  clear HR0
  obtain ⟨k, nq, hkg, rfl, rfl, HR⟩ := hrel
  by_cases hk : k < ln
  · obtain ⟨x, hxk, ex⟩ := drop_at (xs := ls) (k := k) (by rw [← HLN.out]; exact hk)
    obtain ⟨yb, yo, hae, _, _, hcy, hyi⟩ := HL2.out.at hxk
    subst hae
    have hdk : decide ((k : Int) < ln) = true := by simp; omega
    have hdk' : decide (k < ln) = true := decide_eq_true hk
    have hr := HR.out
    rw [ex, List.any_cons] at hr
    have HYI := Lib.hid hyi
    clear hxk ex hyi HR
    by_cases q0 : x = 0
    · subst q0
      rw [decide_eq_true (rfl : (0 : Int) = 0), Bool.true_or, Bool.true_or, if_pos rfl] at hr
      subst hr
      have hd0 : ((0 : Int) == 0) = true := by decide
      go_wp2_with fail
      go_quiet (fail)
      go_wp2_with fail
      try rw [Exit.noGoto_ret]
      go_ret
      first | exact ⟨rfl, below_drewN HB2.out _⟩ | exact ⟨rfl, below_drewN (below_drewN HB2.out _) _⟩
    · have hd0 : (x == 0) = false := by simp; exact q0
      rw [decide_eq_false q0, Bool.false_or] at hr
      have HMG : Hid (∀ n, Calls Tryz.prog 33 #[.int .i64 x] (w2.drewN n) fun e w' => e = .returned (.int .u64 (varM x)) ∧ w' = w2.drewN n) := Lib.hid fun n => lmag_any x _ HYI.out
      obtain ⟨V, hV⟩ : ∃ V, varM x = V := ⟨_, rfl⟩
      rw [hV] at HMG
      have hmx : (decide (vars < x) || decide (x < -vars)) = decide (vars < V) := by
        rw [← hV]
        have := HCV.out
        unfold varM
        rw [← Bool.decide_or, decide_eq_decide]
        split <;> omega
      rw [hmx] at hr
      clear hmx hV q0
      by_cases q1 : vars < V
      · have d1 : decide (vars < V) = true := decide_eq_true q1
        rw [d1, Bool.true_or, if_pos rfl] at hr
        subst hr
        clear q1
        go_wp2_with fail
        go_quiet ((go_at_call 33; first | exact quiet_add_same (HMG.out _) | exact Calls.quiet_of_same (HMG.out _)))
        go_wp2_with fail
        try rw [Exit.noGoto_ret]
        go_ret
        first | exact ⟨rfl, below_drewN HB2.out _⟩ | exact ⟨rfl, below_drewN (below_drewN HB2.out _) _⟩
      · have d1 : decide (vars < V) = false := decide_eq_false q1
        rw [d1, Bool.false_or] at hr
        have HRN := Lib.hid hr
        clear q1 hr
        go_wp2_with fail
        go_quiet ((go_at_call 33; first | exact quiet_add_same (HMG.out _) | exact Calls.quiet_of_same (HMG.out _)))
        go_wp2_with fail
        go_roundg (gk - 1)
        case measure => omega
        case rel => exact ⟨k + 1, _, by omega, by go_num, rfl, HRN⟩
  · obtain rfl : ln = k := by omega
    have hdk : decide ((ln : Int) < ln) = false := by simp
    have hdk' : decide (ln < ln) = false := decide_eq_false (by omega)
    have hr := HR.out
    rw [List.drop_eq_nil_of_le (by rw [HLN.out]; exact Nat.le_refl _), List.any_nil, if_neg (by simp)] at hr
    by_cases q : 40 < keep
    · have dq : decide (40 < keep) = true := decide_eq_true q
      rw [if_pos q] at hr
      subst hr
      clear q HR
      go_wp2_with fail
      go_ret
      first | exact ⟨rfl, below_drewN HB2.out _⟩ | exact ⟨rfl, below_drewN (below_drewN HB2.out _) _⟩
    · have dq : decide (40 < keep) = false := decide_eq_false q
      rw [if_neg q] at hr
      subst hr
      clear q HR
      go_wp2_with fail
      go_ret
      first | exact ⟨rfl, below_drewN HB2.out _⟩ | exact ⟨rfl, below_drewN (below_drewN HB2.out _) _⟩
/-! ### short, few -/
theorem clong_any (F : Nat → Prop) (u : Value) (y : List Int) (w : World) (hy : Ints F w u y) :
    Calls Tryz.prog 42 #[u] w (QuietPost w (.bool (decide (14 < y.length)))) := by
  obtain ⟨a, n, c, rfl, HN, _⟩ := hy.form'
  have hb : decide (14 < y.length) = decide ((14 : Int) < n) := by rw [decide_eq_decide, ← HN.out]; omega
  rw [hb]
  obtain ⟨B, hB⟩ : ∃ B, decide ((14 : Int) < n) = B := ⟨_, rfl⟩
  rw [hB]
  clear hy hb
  go_enter Tryz.func42, Tryz.ntmps42
  go_wp2
  go_ret
  exact ⟨rfl, 0, rfl⟩
set_option maxHeartbeats 1000000 in
theorem indexfLz_any (F : Nat → Prop) (P : List Int → Bool) (v : Value) (xs : List (List Int)) (w : World) (hx : Clss F w v xs)
    (hp : ∀ (nq : Nat) (u : Value) (y : List Int), y ∈ xs → Ints F (w.drewN nq) u y → Calls Tryz.prog 42 #[u] (w.drewN nq) (QuietPost (w.drewN nq) (.bool (P y)))) :
    Calls Tryz.prog 68 #[v, .func (.func 42) #[] #[]] w (QuietPost w (.int .i64 (pGo P xs 0))) := by
  obtain ⟨a, n, c, rfl, HN, hn⟩ := hx.form'
  obtain ⟨R, hR⟩ : ∃ R, pGo P xs 0 = R := ⟨_, rfl⟩
  have HR : Hid (R = pGo P (xs.drop 0) 0) := Lib.hid hR.symm
  rw [hR]
  have HX := Lib.hid hx
  have HP := Lib.hid hp
  clear hR hx hp
  go_enter Tryz.func68, Tryz.ntmps68
  go_wp2
  go_loopg [4, 8] n (fun g u4 u8 wx => ∃ k nq : Nat, k + g = n ∧ u8 = .int .i64 k ∧ u4 = .int .i64 0 ∧ wx = w.drewN nq ∧ Hid (R = pGo P (xs.drop k) k))
  case atStart => exact ⟨0, 0, by omega, rfl, rfl, rfl, HR⟩
  case round =>
    obtain ⟨k, nq, hk, rfl, rfl, rfl, hinv⟩ := hrel
    by_cases hlt : k < n
    · obtain ⟨y, hy, e⟩ := drop_at (xs := xs) (k := k) (by have := HN.out; omega)
      have hxs := HX.out
      obtain ⟨b, off, yv, rfl, _, hb, hc, hyi⟩ := hxs.at hy
      obtain ⟨ya, yn, yc, rfl, HYN, hyn⟩ := hyi.form'
      have HI : Hid (R = if P y = true then (k : Int) else pGo P (xs.drop (k + 1)) (k + 1)) := Lib.hid (by rw [hinv.out, e]; rfl)
      obtain ⟨B, hB⟩ : ∃ B, P y = B := ⟨_, rfl⟩
      have hoc := fun nq => HP.out nq _ y (List.mem_of_getElem? hy) (hyi.drewN nq)
      rw [hB] at HI hoc
      have HOC := Lib.hid hoc
      clear hinv e hy hB hoc hxs hyi
      rcases bool2 B with rfl | rfl
      · have HF : Hid (R = k) := Lib.hid (by rw [HI.out, if_pos rfl])
        go_wp2_with fail
        refine (HOC.out _).mono ?_
        rintro e w' ⟨rfl, n1, rfl⟩
        go_wp2_with fail
        go_ret
        exact ⟨by rw [HF.out]; rfl, _, rfl⟩
      · have HF : Hid (R = pGo P (xs.drop (k + 1)) (k + 1)) := Lib.hid (by rw [HI.out, if_neg (by simp)])
        go_wp2_with fail
        refine (HOC.out _).mono ?_
        rintro e w' ⟨rfl, n1, rfl⟩
        go_wp2_with fail
        go_roundg (gk - 1)
        case measure => omega
        case rel => exact ⟨k + 1, _, by omega, by go_num, rfl, rfl, HF⟩
    · have HF : Hid (R = -1) := Lib.hid (by rw [hinv.out, List.drop_eq_nil_of_le (by have := HN.out; omega)]; rfl)
      clear hinv
      go_wp2
      go_ret
      exact ⟨by rw [HF.out]; rfl, nq, rfl⟩
theorem containsfLz_any (F : Nat → Prop) (P : List Int → Bool) (v : Value) (xs : List (List Int)) (w : World) (hx : Clss F w v xs)
    (hp : ∀ (nq : Nat) (u : Value) (y : List Int), y ∈ xs → Ints F (w.drewN nq) u y → Calls Tryz.prog 42 #[u] (w.drewN nq) (QuietPost (w.drewN nq) (.bool (P y)))) :
    Calls Tryz.prog 41 #[v, .func (.func 42) #[] #[]] w (QuietPost w (.bool (xs.any P))) := by
  have hc := pGo_any P xs 0
  have hI := indexfLz_any F P v xs w hx hp
  obtain ⟨R, hR⟩ : ∃ R, pGo P xs 0 = R := ⟨_, rfl⟩
  rw [hR] at hc hI
  rw [← hc]
  have HI := Lib.hid hI
  clear hc hR hI hx hp
  go_enter Tryz.func41, Tryz.ntmps41
  go_wp2_with fail
  refine HI.out.mono ?_
  rintro e w' ⟨rfl, n1, rfl⟩
  go_wp2_with fail
  go_ret
  exact ⟨rfl, _, rfl⟩
def shortB (cs : List (List Int)) : Bool := decide (cs.length ≤ 40) && !cs.any fun c => decide (14 < c.length)
theorem shortB_sz {cs : List (List Int)} (h : shortB cs = true) : cs.length ≤ 40 ∧ ∀ c ∈ cs, c.length ≤ 14 := by
  unfold shortB at h
  rw [Bool.and_eq_true, Bool.not_eq_true', List.any_eq_false] at h
  refine ⟨of_decide_eq_true h.1, fun c hc => ?_⟩
  have := h.2 c hc
  simp at this
  exact this
theorem SzL.of_short {cs : List (List Int)} (h : shortB cs = true) : SzL cs := by
  obtain ⟨h1, h2⟩ := shortB_sz h
  exact ⟨by omega, fun c hc => by have := h2 c hc; omega⟩
set_option maxRecDepth 100000 in
set_option maxHeartbeats 4000000 in
theorem lshort_any (F : Nat → Prop) (cv : Value) (cs : List (List Int)) (w : World) (hc : Clss F w cv cs) :
    Calls Tryz.prog 19 #[cv] w (QuietPost w (.bool (shortB cs))) := by
  obtain ⟨ca, cn, cc, rfl, HCN, _⟩ := hc.form'
  obtain ⟨R, hR⟩ : ∃ R, shortB cs = R := ⟨_, rfl⟩
  have hR2 := hR
  unfold shortB at hR2
  rw [hR]
  by_cases h40 : cs.length ≤ 40
  · have hcf := containsfLz_any F (fun c => decide (14 < c.length)) _ cs w hc fun nq u y _ hy => clong_any F u y _ hy
    obtain ⟨B, hB⟩ : ∃ B, (cs.any fun c => decide (14 < c.length)) = B := ⟨_, rfl⟩
    rw [hB] at hcf hR2
    rw [decide_eq_true h40, Bool.true_and] at hR2
    subst hR2
    have hd : decide ((cn : Int) ≤ 40) = true := by simp; rw [HCN.out]; omega
    have hd' : decide (cn ≤ 40) = true := by rw [HCN.out]; exact decide_eq_true h40
    have HCF := Lib.hid hcf
    clear hcf hB h40 hc hR
    go_enter Tryz.func19, Tryz.ntmps19
    go_wp2_with fail
    refine HCF.out.mono ?_
    rintro e w2 ⟨rfl, q, rfl⟩
    go_wp2_with fail
    go_ret
    exact ⟨rfl, q, rfl⟩
  · rw [decide_eq_false h40, Bool.false_and] at hR2
    subst hR2
    have hd : decide ((cn : Int) ≤ 40) = false := by simp; rw [HCN.out]; omega
    have hd' : decide (cn ≤ 40) = false := by rw [HCN.out]; exact decide_eq_false h40
    clear h40 hc hR
    go_enter Tryz.func19, Tryz.ntmps19
    go_wp2_with fail
    go_ret
    exact ⟨rfl, 0, rfl⟩
def fewB (vars keep : Int) (cs : List (List Int)) : Bool := shortB cs && (decide (checkM vars keep cs ≠ 0) || decide (vars ≤ 9))
theorem fewB_ok {vars keep : Int} {cs : List (List Int)} (h : fewB vars keep cs = true) : SzL cs ∧ (checkM vars keep cs = 0 → vars ≤ 9) ∧ cs.length ≤ 40 ∧ ∀ c ∈ cs, c.length ≤ 14 := by
  unfold fewB at h
  rw [Bool.and_eq_true, Bool.or_eq_true] at h
  refine ⟨SzL.of_short h.1, fun hc => ?_, shortB_sz h.1⟩
  rcases h.2 with h2 | h2
  · exact absurd hc (of_decide_eq_true h2)
  · exact of_decide_eq_true h2
set_option maxRecDepth 100000 in
set_option maxHeartbeats 4000000 in
theorem lfew_any (F : Nat → Prop) (vars keep : Int) (cv : Value) (cs : List (List Int)) (w : World) (hc : Clss F w cv cs) (hiv : I64 vars) (hik : I64 keep) :
    Calls Tryz.prog 12 #[.agg #[.int .i64 vars, .int .i64 keep, cv]] w (BoolPost w (fewB vars keep cs)) := by
  obtain ⟨ca, cn, cc, rfl, HCN, _⟩ := hc.form'
  obtain ⟨bb, hbb⟩ : ∃ b, w.heap.size = b := ⟨_, rfl⟩
  obtain ⟨W1, hW1⟩ : ∃ W, w.alloc (.cells #[.int .i64 vars, .int .i64 keep, .slice ca cn cc] 24) = W := ⟨_, rfl⟩
  have hb1 : Below w.heap.size w W1 := by rw [← hW1]; exact (Below.refl _ _).alloc (Nat.le_refl _) _
  have hrow : W1.heap[bb]? = some (.cells #[.int .i64 vars, .int .i64 keep, .slice ca cn cc] 24) := by rw [← hW1]; exact new_at' _ _ hbb.symm
  have c0 : W1.cell? ⟨bb, 0, none⟩ = some (.int .i64 vars) := by rw [cell_of_row _ _ _ _ _ _ hrow]; rfl
  have c1 : W1.cell? ⟨bb, 1, none⟩ = some (.int .i64 keep) := by rw [cell_of_row _ _ _ _ _ _ hrow]; rfl
  have c2 : W1.cell? ⟨bb, 2, none⟩ = some (.slice ca cn cc) := by rw [cell_of_row _ _ _ _ _ _ hrow]; rfl
  have hlt1 := block_lt c0
  obtain ⟨R, hR⟩ : ∃ R, fewB vars keep cs = R := ⟨_, rfl⟩
  have hR2 := hR
  unfold fewB at hR2
  rw [hR]
  have HSH := Lib.hid (lshort_any F _ cs W1 (hc.below hb1))
  have HC := Lib.hid (hc.below hb1)
  have HB1 := Lib.hid hb1
  have HW1 := Lib.hid hW1
  have HBB := Lib.hid hbb
  have HIV := Lib.hid hiv
  have HIK := Lib.hid hik
  obtain ⟨S, hS⟩ : ∃ S, shortB cs = S := ⟨_, rfl⟩
  have HS := Lib.hid hS
  rw [hS] at HSH hR2
  clear hc hb1 hW1 hrow hR hbb hS hiv hik
  go_enter Tryz.func12, Tryz.ntmps12
  go_wp2_with fail
  try rw [HW1.out]
  try rw [HBB.out]
  refine HSH.out.mono ?_
  rintro e w2 ⟨rfl, q, rfl⟩
  have hb2 : Below W1.heap.size W1 (W1.drewN q) := below_drewN (Below.refl _ _) q
  obtain ⟨W2, hW2⟩ : ∃ W, W1.drewN q = W := ⟨_, rfl⟩
  rw [hW2] at hb2 ⊢
  have HB2 : Hid (Below w.heap.size w W2) := Lib.hid (HB1.out.trans (hb2.mono HB1.out.size))
  have e0 := below_c hb2 hlt1 c0
  have e1 := below_c hb2 hlt1 c1
  have e2 := below_c hb2 hlt1 c2
  have hlt2 := block_lt e0
  have HC2 := Lib.hid (HC.out.below hb2)
  clear hb2 c0 c1 c2 hlt1 HSH HC hW2
  rcases bool2 S with rfl | rfl
  case inr =>
    rw [Bool.false_and] at hR2
    subst hR2
    go_wp2_with fail
    go_ret
    exact ⟨rfl, HB2.out⟩
  rw [Bool.true_and] at hR2
  have hsz := SzL.of_short HS.out
  have hck := lcheck_any _ vars keep _ cs W2 HC2.out HIV.out HIK.out (by have := hsz.1; omega) (fun c h => by have := hsz.2 c h; omega)
  obtain ⟨C, hC⟩ : ∃ C, checkM vars keep cs = C := ⟨_, rfl⟩
  rw [hC] at hck hR2
  have HCK := Lib.hid hck
  clear hck hC hsz
  go_wp2_with fail
  refine HCK.out.mono ?_
  rintro e w3 ⟨rfl, hb3⟩
  have HB3 : Hid (Below w.heap.size w w3) := Lib.hid (HB2.out.trans (hb3.mono HB2.out.size))
  have f0 := below_c hb3 hlt2 e0
  clear hb3 e0 e1 e2 hlt2 HCK
  by_cases hC0 : C = 0
  · subst hC0
    have hd : ((0 : Int) != 0) = false := by decide
    rw [decide_eq_false (by simp), Bool.false_or] at hR2
    subst hR2
    go_wp2_with fail
    go_ret
    exact ⟨rfl, HB3.out⟩
  · have hd : (C != 0) = true := by simp; exact hC0
    rw [decide_eq_true hC0, Bool.true_or] at hR2
    subst hR2
    clear hC0
    go_wp2_with fail
    go_ret
    exact ⟨rfl, HB3.out⟩

/- (Counter seat) Plain: the numbers of the chapter's examples. No program in sight. -/
open Go.RowKit
set_option linter.unusedVariables false
set_option linter.unusedSimpArgs false

/-! ### the counts -/
def as3 (a b c : Bool) : Asg := fun v => if v = 1 then a else if v = 2 then b else c
theorem cnt_12 (C : Asg → Prop) (t1 t2 t3 t4 : Nat) (h1 : cntN (fun f => (C f ∧ f 1 = true) ∧ f 2 = true) [] = t1) (h2 : cntN (fun f => (C f ∧ f 1 = true) ∧ f 2 = false) [] = t2) (h3 : cntN (fun f => (C f ∧ f 1 = false) ∧ f 2 = true) [] = t3) (h4 : cntN (fun f => (C f ∧ f 1 = false) ∧ f 2 = false) [] = t4) :
    cntN C (ivl 0 2) = t1 + t2 + (t3 + t4) := by
  have e : ivl 0 2 = [1, 2] := by decide
  have e1 : ∀ (C : Asg → Prop) (v : Int) (S : List Int), cntN C (v :: S) = cntN (fun f => C f ∧ f v = true) S + cntN (fun f => C f ∧ f v = false) S := fun C v S => by rw [cntN]
  rw [e, e1, e1, e1, h1, h2, h3, h4]
theorem cnt_y {C : Asg → Prop} (f : Asg) (h : C f) : cntN C [] = 1 := by rw [cntN, if_pos ⟨f, h⟩]
theorem cnt_n {C : Asg → Prop} (h : ∀ f, ¬ C f) : cntN C [] = 0 := cnt_none h []
theorem ev_12 (f : Asg) : Ev [[1, 2]] f ↔ (f 1 = true ∨ f 2 = true) := by
  unfold Ev evR litR
  simp
theorem ev_b (f : Asg) : Ev [[-1, 3], [-2, -3]] f ↔ ((f 1 = false ∨ f 3 = true) ∧ (f 2 = false ∨ f 3 = false)) := by
  unfold Ev evR litR
  simp
theorem lits_1 (x : Int) (f : Asg) : LitsT [x] f ↔ litR f x = true := by
  unfold LitsT
  simp
theorem cw_1 : cwN 2 [[1, 2]] [] = 3 := by
  unfold cwN
  have : cntN (fun f => Ev [[1, 2]] f ∧ LitsT [] f) (ivl 0 (2 : Int).toNat) = 3 := by
    refine cnt_12 _ 1 1 1 0 (cnt_y (as3 true true true) ?_) (cnt_y (as3 true false true) ?_) (cnt_y (as3 false true true) ?_) (cnt_n fun f h => ?_)
    · simp [ev_12, LitsT, as3]
    · simp [ev_12, LitsT, as3]
    · simp [ev_12, LitsT, as3]
    · rw [ev_12] at h
      simp [h.1.2, h.2] at h
  rw [this]
  rfl
theorem cw_2 : cwN 2 [[1, 2]] [-1] = 1 := by
  unfold cwN
  have : cntN (fun f => Ev [[1, 2]] f ∧ LitsT [-1] f) (ivl 0 (2 : Int).toNat) = 1 := by
    refine cnt_12 _ 0 0 1 0 (cnt_n fun f h => ?_) (cnt_n fun f h => ?_) (cnt_y (as3 false true true) ?_) (cnt_n fun f h => ?_)
    · rw [lits_1, litR] at h
      simp [h.1.2] at h
    · rw [lits_1, litR] at h
      simp [h.1.2] at h
    · simp [ev_12, lits_1, litR, as3]
    · rw [ev_12] at h
      simp [h.1.2, h.2] at h
  rw [this]
  rfl
theorem cw_3 : cwN 2 [[1, 2]] [1] = 2 := by
  unfold cwN
  have : cntN (fun f => Ev [[1, 2]] f ∧ LitsT [1] f) (ivl 0 (2 : Int).toNat) = 2 := by
    refine cnt_12 _ 1 1 0 0 (cnt_y (as3 true true true) ?_) (cnt_y (as3 true false true) ?_) (cnt_n fun f h => ?_) (cnt_n fun f h => ?_)
    · simp [ev_12, lits_1, litR, as3]
    · simp [ev_12, lits_1, litR, as3]
    · rw [lits_1, litR] at h
      simp [h.1.2] at h
    · rw [lits_1, litR] at h
      simp [h.1.2] at h
  rw [this]
  rfl
theorem cw_4 : cwN 2 [[1, 2]] [2] = 2 := by
  unfold cwN
  have : cntN (fun f => Ev [[1, 2]] f ∧ LitsT [2] f) (ivl 0 (2 : Int).toNat) = 2 := by
    refine cnt_12 _ 1 0 1 0 (cnt_y (as3 true true true) ?_) (cnt_n fun f h => ?_) (cnt_y (as3 false true true) ?_) (cnt_n fun f h => ?_)
    · simp [ev_12, lits_1, litR, as3]
    · rw [lits_1, litR] at h
      simp [h.2] at h
    · simp [ev_12, lits_1, litR, as3]
    · rw [lits_1, litR] at h
      simp [h.2] at h
  rw [this]
  rfl
theorem cw_5 : cwN 2 [[-1, 3], [-2, -3]] [] = 3 := by
  unfold cwN
  have : cntN (fun f => Ev [[-1, 3], [-2, -3]] f ∧ LitsT [] f) (ivl 0 (2 : Int).toNat) = 3 := by
    refine cnt_12 _ 0 1 1 1 (cnt_n fun f h => ?_) (cnt_y (as3 true false true) ?_) (cnt_y (as3 false true false) ?_) (cnt_y (as3 false false false) ?_)
    · rw [ev_b] at h
      rcases q : f 3 with _ | _ <;> simp [h.1.2, h.2, q] at h
    · simp [ev_b, LitsT, as3]
    · simp [ev_b, LitsT, as3]
    · simp [ev_b, LitsT, as3]
  rw [this]
  rfl
theorem as_1 : askedM 2 2 [[1, 2]] [] = 0 := by decide +kernel
theorem as_2 : askedM 2 2 [[1, 2]] [-1] = 0 := by decide +kernel
theorem as_3 : askedM 3 2 [[-1, 3], [-2, -3]] [] = 0 := by decide +kernel
/-! ### the components -/
def exCo : List (List Int) := [[1, 2], [3], [-2, 4], [], [5, -3]]
theorem grpI_ext {f g : Nat → Nat} {n : Nat} (h : ∀ i, i < n → f i = g i) : grpI f n = grpI g n := by
  unfold grpI
  rw [grpTo_all, grpTo_all, groupsOf_ext h]
/-- the classes are those of the repeated passes -/
theorem grp_least {cs : List (List Int)} {f : Nat → Nat} (h : Roots cs.length (Rel (connB cs) cs.length) f) : grpI f cs.length = grpI (fun i => (leastL (connB cs) cs.length).getD i 0) cs.length :=
  grpI_ext fun i hi => h.unique (leastL_roots (connB_sym cs)) (rel_within _ _) hi
theorem ex_co {f : Nat → Nat} (h : Roots exCo.length (Rel (connB exCo) exCo.length) f) : grpI f exCo.length = [[0, 2], [1, 4], [3]] := by
  rw [grp_least h]
  decide +kernel

/- (Counter seat) Walk: known, the chapter's examples. No condition but that the table of powers lies as laid. -/
open Go.ChangeShapes Go.WideShapes Go.ChangeAt Go.RowKit
set_option linter.unusedVariables false
set_option linter.unusedSimpArgs false

theorem clss_blk {w : World} {b : Nat} {arr : Array Value} {T : TypeId} {fr : Nat × Nat} (us : List Value) (css : List (List Int)) (h : w.heap[b]? = some (.cells arr T fr)) (ha : arr = us.toArray) (hl : us.length = css.length) (hs : us.length ≤ 1000)
    (hr : ∀ (j : Nat) u c, us[j]? = some u → css[j]? = some c → Ints (fun _ => True) w u c) : Clss (fun _ => True) w (.slice (some ⟨b, 0, none⟩) us.length us.length) css := by
  have h1 := sl1_block us us.length h (by omega) (fun j v hv => by rw [ha]; simpa using hv)
  exact ⟨us, h1.mono fun _ _ => trivial, hl, hr⟩
theorem ints_blk {w : World} {b n : Nat} {arr : Array Value} {T : TypeId} {fr : Nat × Nat} (xs : List Int) (h : w.heap[b]? = some (.cells arr T fr)) (ha : arr = (xs.map (.int .i64)).toArray) (hn : n = xs.length) (hs : xs.length ≤ 1000) (hx : ∀ x ∈ xs, I64 x) : Ints (fun _ => True) w (.slice (some ⟨b, 0, none⟩) n n) xs := by
  subst hn
  exact (ints_block xs xs.length h (by omega) ha hx).mono fun _ _ => trivial
theorem i64_small {xs : List Int} (h : xs.all (fun x => decide (-100 ≤ x) && decide (x ≤ 100)) = true) : ∀ x ∈ xs, I64 x := fun x hx => by
  have := List.all_eq_true.1 h x hx
  simp at this
  unfold I64
  omega
theorem szl_small {cs : List (List Int)} (h : (decide (cs.length ≤ 100) && cs.all fun c => decide (c.length ≤ 100)) = true) : SzL cs := by
  rw [Bool.and_eq_true, List.all_eq_true] at h
  exact ⟨by have := of_decide_eq_true h.1; omega, fun c hc => by have := of_decide_eq_true (h.2 c hc); omega⟩
set_option maxRecDepth 100000 in
set_option maxHeartbeats 16000000 in
theorem known_any (w : World) (htab : TabB w.heap.size w) : Calls Tryz.prog 11 #[] w (BoolPost w true) := by
  have HTAB := Lib.hid htab
  obtain ⟨b, hb⟩ : ∃ b, w.heap.size = b := ⟨_, rfl⟩
  have HBE := Lib.hid hb
  obtain ⟨W1, hW1⟩ : ∃ W, ((w.alloc (.cells #[.int .i64 1, .int .i64 2] 3)).alloc (.cells #[.slice (some ⟨b, 0, none⟩) 2 2] 32)).alloc (.cells #[.int .i64 2, .int .i64 2, .slice (some ⟨b + 1, 0, none⟩) 1 1] 24) = W := ⟨_, rfl⟩
  have hb1 : Below w.heap.size w W1 := by rw [← hW1]; exact (((Below.refl _ _).alloc (Nat.le_refl _) _).alloc (by simp) _).alloc (by simp; omega) _
  have r0 : W1.heap[b]? = some (.cells #[.int .i64 1, .int .i64 2] 3) := by rw [← hW1]; exact old_at _ _ _ (old_at _ _ _ (new_at' _ _ hb.symm))
  have r1 : W1.heap[b + 1]? = some (.cells #[.slice (some ⟨b, 0, none⟩) 2 2] 32) := by rw [← hW1]; exact old_at _ _ _ (new_at' _ _ (by simp; omega))
  have r2 : W1.heap[b + 2]? = some (.cells #[.int .i64 2, .int .i64 2, .slice (some ⟨b + 1, 0, none⟩) 1 1] 24) := by rw [← hW1]; exact new_at' _ _ (by simp; omega)
  have c0 : W1.cell? ⟨b + 1 + 1, 0, none⟩ = some (.int .i64 2) := by rw [cell_of_row _ _ _ _ _ _ r2]; rfl
  have c1 : W1.cell? ⟨b + 1 + 1, 1, none⟩ = some (.int .i64 2) := by rw [cell_of_row _ _ _ _ _ _ r2]; rfl
  have c2 : W1.cell? ⟨b + 1 + 1, 2, none⟩ = some (.slice (some ⟨b + 1, 0, none⟩) 1 1) := by rw [cell_of_row _ _ _ _ _ _ r2]; rfl
  have hi0 : Ints (fun _ => True) W1 (.slice (some ⟨b, 0, none⟩) 2 2) [1, 2] := ints_blk [1, 2] r0 rfl rfl (by simp) (i64_small rfl)
  have hcl : Clss (fun _ => True) W1 (.slice (some ⟨b + 1, 0, none⟩) 1 1) [[1, 2]] := clss_blk [.slice (some ⟨b, 0, none⟩) 2 2] [[1, 2]] r1 rfl rfl (by simp) fun j u c hu hc => by
    match j, hu, hc with
    | 0, hu, hc => simp at hu hc; subst hu hc; exact hi0
    | j + 1, hu, _ => simp at hu
  have hlt1 := block_lt c0
  have HCL := Lib.hid hcl
  have HB1 := Lib.hid hb1
  have HCT := Lib.hid (pcount_any _ 2 2 _ [[1, 2]] W1 hcl ⟨by decide, by decide⟩ ⟨by decide, by decide⟩ (szl_small rfl) (fun _ => by decide) ((htab.below hb1 (Nat.le_refl _)).up hb1.size))
  have HW1 := Lib.hid hW1
  clear hcl hi0 r0 r1 r2 hb1 htab
  go_enter Tryz.func11, Tryz.ntmps11
  go_wp2_with fail
  try rw [hW1]
  try rw [hb]
  refine HCT.out.mono ?_
  rintro e w2 ⟨n, c, rfl, q1, q2, q3, hb2⟩
  rw [as_1] at q1
  subst q1
  have hn := q3 rfl
  rw [cw_1] at hn
  subst hn
  have HB2 : Hid (Below w.heap.size w w2) := Lib.hid (HB1.out.trans (hb2.mono HB1.out.size))
  have HC2 := Lib.hid (HCL.out.below hb2)
  have d0 := below_c hb2 hlt1 c0
  have d1 := below_c hb2 hlt1 c1
  have d2 := below_c hb2 hlt1 c2
  have hlt2 := block_lt d0
  clear q2 q3 hb2 HCT c0 c1 c2 HCL hlt1 hW1 hb
  obtain ⟨k, hk⟩ : ∃ k, w2.heap.size = k := ⟨_, rfl⟩
  obtain ⟨W3, hW3⟩ : ∃ W, w2.alloc (.cells #[.int .i64 (-1)] 3) = W := ⟨_, rfl⟩
  have hb3 : Below w2.heap.size w2 W3 := by rw [← hW3]; exact (Below.refl _ _).alloc (Nat.le_refl _) _
  have r0 : W3.heap[k]? = some (.cells #[.int .i64 (-1)] 3) := by rw [← hW3]; exact new_at' _ _ hk.symm
  have hi : Ints (fun _ => True) W3 (.slice (some ⟨k, 0, none⟩) 1 1) [-1] := ints_blk [-1] r0 rfl rfl (by simp) (i64_small rfl)
  have HB3 : Hid (Below w.heap.size w W3) := Lib.hid (HB2.out.trans (hb3.mono HB2.out.size))
  have HCW := Lib.hid (countwith_any _ _ 2 2 _ _ [[1, 2]] [-1] W3 (HC2.out.below hb3) hi ⟨by decide, by decide⟩ ⟨by decide, by decide⟩ (szl_small rfl) (by simp) (fun _ => by decide) ((HTAB.out.below HB3.out (Nat.le_refl _)).up HB3.out.size))
  have HC3 := Lib.hid (HC2.out.below hb3)
  have e0 := below_c hb3 hlt2 d0
  have e1 := below_c hb3 hlt2 d1
  have e2 := below_c hb3 hlt2 d2
  have hlt3 := block_lt e0
  clear hb3 r0 hi HC2 hlt2
  go_wp2_with fail
  try rw [hW3]
  try rw [hk]
  refine HCW.out.mono ?_
  rintro e w4 ⟨n, c, rfl, q1, q2, q3, hb4⟩
  rw [as_2] at q1
  subst q1
  have hn := q3 rfl
  rw [cw_2] at hn
  subst hn
  have HB4 : Hid (Below w.heap.size w w4) := Lib.hid (HB3.out.trans (hb4.mono HB3.out.size))
  have HC4 := Lib.hid (HC3.out.below hb4)
  have f0 := below_c hb4 hlt3 e0
  have f1 := below_c hb4 hlt3 e1
  have f2 := below_c hb4 hlt3 e2
  have HFQ := Lib.hid (frequency_any _ 2 2 _ [[1, 2]] w4 HC4.out ⟨by decide, by decide⟩ ⟨by decide, by decide⟩ (szl_small rfl) (fun _ => by decide) ((HTAB.out.below HB4.out (Nat.le_refl _)).up HB4.out.size))
  clear q2 q3 hb4 HCW d0 d1 d2 e0 e1 e2 HC3 hlt3 hW3 hk
  go_wp2_with fail
  refine HFQ.out.mono ?_
  rintro e w5 ⟨fv, c, fs, rfl, q1, q2, q3, hfv, hb5⟩
  rw [as_1] at q1
  subst q1
  have hfs : fs = [2, 2] := by
    have h := q3 rfl
    rw [show (List.range (2 : Int).toNat).map (fun i : Nat => cwN 2 [[1, 2]] [(i : Int) + 1]) = [cwN 2 [[1, 2]] [1], cwN 2 [[1, 2]] [2]] from rfl, cw_3, cw_4] at h
    exact h
  subst hfs
  obtain ⟨fa, fn, fc, rfl, HFN, _⟩ := hfv.form'
  have HFV := Lib.hid hfv
  have HB5 : Hid (Below w.heap.size w w5) := Lib.hid (HB4.out.trans (hb5.mono HB4.out.size))
  clear q2 q3 hb5 HFQ f0 f1 f2 HC4 hfv
  obtain ⟨k, hk⟩ : ∃ k, w5.heap.size = k := ⟨_, rfl⟩
  obtain ⟨W6, hW6⟩ : ∃ W, ((w5.alloc (.cells #[.int .i64 (-1), .int .i64 3] 3)).alloc (.cells #[.int .i64 (-2), .int .i64 (-3)] 3)).alloc (.cells #[.slice (some ⟨k, 0, none⟩) 2 2, .slice (some ⟨k + 1, 0, none⟩) 2 2] 32) = W := ⟨_, rfl⟩
  have hb6 : Below w5.heap.size w5 W6 := by rw [← hW6]; exact (((Below.refl _ _).alloc (Nat.le_refl _) _).alloc (by simp) _).alloc (by simp; omega) _
  have r0 : W6.heap[k]? = some (.cells #[.int .i64 (-1), .int .i64 3] 3) := by rw [← hW6]; exact old_at _ _ _ (old_at _ _ _ (new_at' _ _ hk.symm))
  have r1 : W6.heap[k + 1]? = some (.cells #[.int .i64 (-2), .int .i64 (-3)] 3) := by rw [← hW6]; exact old_at _ _ _ (new_at' _ _ (by simp; omega))
  have r2 : W6.heap[k + 2]? = some (.cells #[.slice (some ⟨k, 0, none⟩) 2 2, .slice (some ⟨k + 1, 0, none⟩) 2 2] 32) := by rw [← hW6]; exact new_at' _ _ (by simp; omega)
  have hi0 : Ints (fun _ => True) W6 (.slice (some ⟨k, 0, none⟩) 2 2) [-1, 3] := ints_blk [-1, 3] r0 rfl rfl (by simp) (i64_small rfl)
  have hi1 : Ints (fun _ => True) W6 (.slice (some ⟨k + 1, 0, none⟩) 2 2) [-2, -3] := ints_blk [-2, -3] r1 rfl rfl (by simp) (i64_small rfl)
  have hcl : Clss (fun _ => True) W6 (.slice (some ⟨k + 1 + 1, 0, none⟩) 2 2) [[-1, 3], [-2, -3]] := clss_blk [.slice (some ⟨k, 0, none⟩) 2 2, .slice (some ⟨k + 1, 0, none⟩) 2 2] [[-1, 3], [-2, -3]] r2 rfl rfl (by simp) fun j u c hu hc => by
    match j, hu, hc with
    | 0, hu, hc => simp at hu hc; subst hu hc; exact hi0
    | 1, hu, hc => simp at hu hc; subst hu hc; exact hi1
    | j + 2, hu, _ => simp at hu
  have HB6 : Hid (Below w.heap.size w W6) := Lib.hid (HB5.out.trans (hb6.mono HB5.out.size))
  have HCT := Lib.hid (pcount_any _ 3 2 _ [[-1, 3], [-2, -3]] W6 hcl ⟨by decide, by decide⟩ ⟨by decide, by decide⟩ (szl_small rfl) (fun _ => by decide) ((HTAB.out.below HB6.out (Nat.le_refl _)).up HB6.out.size))
  have HFV6 := Lib.hid (HFV.out.below hb6)
  clear hcl hi0 hi1 r0 r1 r2 hb6 HFV
  go_wp2_with fail
  try rw [hW6]
  try rw [hk]
  refine HCT.out.mono ?_
  rintro e w7 ⟨n, c, rfl, q1, q2, q3, hb7⟩
  rw [as_3] at q1
  subst q1
  have hn := q3 rfl
  rw [cw_5] at hn
  subst hn
  have HB7 : Hid (Below w.heap.size w w7) := Lib.hid (HB6.out.trans (hb7.mono HB6.out.size))
  have HFV7 := Lib.hid (HFV6.out.below hb7)
  clear q2 q3 hb7 HCT HFV6 hW6 hk
  obtain ⟨k, hk⟩ : ∃ k, w7.heap.size = k := ⟨_, rfl⟩
  obtain ⟨W8, hW8⟩ : ∃ W, (((((w7.alloc (.cells #[.int .i64 1, .int .i64 2] 3)).alloc (.cells #[.int .i64 3] 3)).alloc (.cells #[.int .i64 (-2), .int .i64 4] 3)).alloc (.cells #[] 3)).alloc (.cells #[.int .i64 5, .int .i64 (-3)] 3)).alloc (.cells #[.slice (some ⟨k, 0, none⟩) 2 2, .slice (some ⟨k + 1, 0, none⟩) 1 1, .slice (some ⟨k + 1 + 1, 0, none⟩) 2 2, .slice (some ⟨k + 1 + 1 + 1, 0, none⟩) 0 0, .slice (some ⟨k + 1 + 1 + 1 + 1, 0, none⟩) 2 2] 32) = W := ⟨_, rfl⟩
  have hb8 : Below w7.heap.size w7 W8 := by rw [← hW8]; exact ((((((Below.refl _ _).alloc (Nat.le_refl _) _).alloc (by simp) _).alloc (by simp; omega) _).alloc (by simp; omega) _).alloc (by simp; omega) _).alloc (by simp; omega) _
  have r0 : W8.heap[k]? = some (.cells #[.int .i64 1, .int .i64 2] 3) := by rw [← hW8]; exact old_at _ _ _ (old_at _ _ _ (old_at _ _ _ (old_at _ _ _ (old_at _ _ _ (new_at' _ _ hk.symm)))))
  have r1 : W8.heap[k + 1]? = some (.cells #[.int .i64 3] 3) := by rw [← hW8]; exact old_at _ _ _ (old_at _ _ _ (old_at _ _ _ (old_at _ _ _ (new_at' _ _ (by simp; omega)))))
  have r2 : W8.heap[k + 1 + 1]? = some (.cells #[.int .i64 (-2), .int .i64 4] 3) := by rw [← hW8]; exact old_at _ _ _ (old_at _ _ _ (old_at _ _ _ (new_at' _ _ (by simp; omega))))
  have r3 : W8.heap[k + 1 + 1 + 1]? = some (.cells #[] 3) := by rw [← hW8]; exact old_at _ _ _ (old_at _ _ _ (new_at' _ _ (by simp; omega)))
  have r4 : W8.heap[k + 1 + 1 + 1 + 1]? = some (.cells #[.int .i64 5, .int .i64 (-3)] 3) := by rw [← hW8]; exact old_at _ _ _ (new_at' _ _ (by simp; omega))
  have r5 : W8.heap[k + 1 + 1 + 1 + 1 + 1]? = some (.cells #[.slice (some ⟨k, 0, none⟩) 2 2, .slice (some ⟨k + 1, 0, none⟩) 1 1, .slice (some ⟨k + 1 + 1, 0, none⟩) 2 2, .slice (some ⟨k + 1 + 1 + 1, 0, none⟩) 0 0, .slice (some ⟨k + 1 + 1 + 1 + 1, 0, none⟩) 2 2] 32) := by rw [← hW8]; exact new_at' _ _ (by simp; omega)
  have hi0 := ints_blk (n := 2) [1, 2] r0 rfl rfl (by simp) (i64_small rfl)
  have hi1 := ints_blk (n := 1) [3] r1 rfl rfl (by simp) (i64_small rfl)
  have hi2 := ints_blk (n := 2) [-2, 4] r2 rfl rfl (by simp) (i64_small rfl)
  have hi3 := ints_blk (n := 0) [] r3 rfl rfl (by simp) (i64_small rfl)
  have hi4 := ints_blk (n := 2) [5, -3] r4 rfl rfl (by simp) (i64_small rfl)
  have hcl : Clss (fun _ => True) W8 (.slice (some ⟨k + 1 + 1 + 1 + 1 + 1, 0, none⟩) 5 5) exCo := clss_blk [.slice (some ⟨k, 0, none⟩) 2 2, .slice (some ⟨k + 1, 0, none⟩) 1 1, .slice (some ⟨k + 1 + 1, 0, none⟩) 2 2, .slice (some ⟨k + 1 + 1 + 1, 0, none⟩) 0 0, .slice (some ⟨k + 1 + 1 + 1 + 1, 0, none⟩) 2 2] exCo r5 rfl rfl (by simp) fun j u c hu hc => by
    match j, hu, hc with
    | 0, hu, hc => simp at hu; simp [exCo] at hc; subst hu hc; exact hi0
    | 1, hu, hc => simp at hu; simp [exCo] at hc; subst hu hc; exact hi1
    | 2, hu, hc => simp at hu; simp [exCo] at hc; subst hu hc; exact hi2
    | 3, hu, hc => simp at hu; simp [exCo] at hc; subst hu hc; exact hi3
    | 4, hu, hc => simp at hu; simp [exCo] at hc; subst hu hc; exact hi4
    | j + 5, hu, _ => simp at hu
  have HB8 : Hid (Below w.heap.size w W8) := Lib.hid (HB7.out.trans (hb8.mono HB7.out.size))
  have HCO := Lib.hid (components_any _ _ exCo W8 hcl (by decide) (by decide))
  have HFV8 := Lib.hid (HFV7.out.below hb8)
  clear hcl hi0 hi1 hi2 hi3 hi4 r0 r1 r2 r3 r4 r5 hb8 HFV7
  go_wp2_with fail
  try rw [hW8]
  try rw [hk]
  refine HCO.out.mono ?_
  rintro e w9 ⟨pv, f, rfl, hpv, hroots, hb9⟩
  rw [ex_co hroots] at hpv
  obtain ⟨pa, pn, pc, rfl, HPN, _⟩ := hpv.form'
  have hpn : pn = 3 := HPN.out
  subst hpn
  obtain ⟨z0, o0, u0', rfl, _, hz0, p0, hp0⟩ := hpv.at (k := 0) (x := [0, 2]) rfl
  obtain ⟨_, _, u1', he1, _, _, p1, hp1⟩ := hpv.at (k := 1) (x := [1, 4]) rfl
  obtain ⟨_, _, u2', he2, _, _, p2, hp2⟩ := hpv.at (k := 2) (x := [3]) rfl
  injection he1 with he1
  injection he1 with he1 he1'
  subst he1 he1'
  injection he2 with he2
  injection he2 with he2 he2'
  subst he2 he2'
  rw [Nat.add_zero] at p0
  obtain ⟨xa, xn, xc, rfl, _, _⟩ := hp0.form'
  obtain ⟨ya, yn, yc, rfl, _, _⟩ := hp1.form'
  obtain ⟨za, zn, zc, rfl, _, _⟩ := hp2.form'
  have HP0 := Lib.hid hp0
  have HP1 := Lib.hid hp1
  have HP2 := Lib.hid hp2
  have HFV9 := Lib.hid (HFV8.out.below hb9)
  have HB9 : Hid (Below w.heap.size w w9) := Lib.hid (HB8.out.trans (hb9.mono HB8.out.size))
  clear hpv hroots hb9 HCO HFV8 hp0 hp1 hp2 hW8 hk HPN
  have HBV0 : Hid (Below w9.heap.size w9 w9) := Lib.hid (Below.refl _ _)
  have b22 : (([2, 2] : List Int) == [2, 2]) = true := by decide
  have b02 : (([0, 2] : List Int) == [0, 2]) = true := by decide
  have b14 : (([1, 4] : List Int) == [1, 4]) = true := by decide
  have b3 : (([3] : List Int) == [3]) = true := by decide
  obtain ⟨k1, hk1⟩ : ∃ k, w9.heap.size = k := ⟨_, rfl⟩
  obtain ⟨X1, hX1⟩ : ∃ W, w9.alloc (.cells #[.int .i64 2, .int .i64 2] 3) = W := ⟨_, rfl⟩
  have hbx1 : Below w9.heap.size w9 X1 := by rw [← hX1]; exact (Below.refl _ _).alloc (Nat.le_refl _) _
  have rx1 : X1.heap[k1]? = some (.cells #[.int .i64 2, .int .i64 2] 3) := by rw [← hX1]; exact new_at' _ _ hk1.symm
  have HQ1 := Lib.hid (equal_any _ _ [2, 2] [2, 2] X1 (HFV9.out.below (HBV0.out.trans (hbx1.mono HBV0.out.size))) (ints_blk (n := 2) [2, 2] rx1 rfl rfl (by simp) (i64_small rfl)))
  go_wp2_with fail
  try rw [hX1]
  try rw [hk1]
  refine HQ1.out.mono ?_
  rintro e v1 ⟨rfl, q1, rfl⟩
  obtain ⟨v1, hv1⟩ : ∃ W, X1.drewN q1 = W := ⟨_, rfl⟩
  rw [hv1]
  have HBV1 : Hid (Below w9.heap.size w9 v1) := Lib.hid (by rw [← hv1]; exact below_drewN (HBV0.out.trans (hbx1.mono HBV0.out.size)) _)
  have hs1 := HBV1.out
  clear hX1 hk1 hbx1 rx1 HQ1 hv1
  try rw [b22]
  have p0a := below_c hs1 hz0 p0
  obtain ⟨k2, hk2⟩ : ∃ k, v1.heap.size = k := ⟨_, rfl⟩
  obtain ⟨X2, hX2⟩ : ∃ W, v1.alloc (.cells #[.int .i64 0, .int .i64 2] 3) = W := ⟨_, rfl⟩
  have hbx2 : Below v1.heap.size v1 X2 := by rw [← hX2]; exact (Below.refl _ _).alloc (Nat.le_refl _) _
  have rx2 : X2.heap[k2]? = some (.cells #[.int .i64 0, .int .i64 2] 3) := by rw [← hX2]; exact new_at' _ _ hk2.symm
  have HQ2 := Lib.hid (equal_any _ _ [0, 2] [0, 2] X2 (HP0.out.below (HBV1.out.trans (hbx2.mono HBV1.out.size))) (ints_blk (n := 2) [0, 2] rx2 rfl rfl (by simp) (i64_small rfl)))
  go_wp2_with fail
  try rw [hX2]
  try rw [hk2]
  refine HQ2.out.mono ?_
  rintro e v2 ⟨rfl, q2, rfl⟩
  obtain ⟨v2, hv2⟩ : ∃ W, X2.drewN q2 = W := ⟨_, rfl⟩
  rw [hv2]
  have HBV2 : Hid (Below w9.heap.size w9 v2) := Lib.hid (by rw [← hv2]; exact below_drewN (HBV1.out.trans (hbx2.mono HBV1.out.size)) _)
  have hs2 := HBV2.out
  clear hX2 hk2 hbx2 rx2 HQ2 hv2
  try rw [b02]
  have p1a := below_c hs2 hz0 p1
  obtain ⟨k3, hk3⟩ : ∃ k, v2.heap.size = k := ⟨_, rfl⟩
  obtain ⟨X3, hX3⟩ : ∃ W, v2.alloc (.cells #[.int .i64 1, .int .i64 4] 3) = W := ⟨_, rfl⟩
  have hbx3 : Below v2.heap.size v2 X3 := by rw [← hX3]; exact (Below.refl _ _).alloc (Nat.le_refl _) _
  have rx3 : X3.heap[k3]? = some (.cells #[.int .i64 1, .int .i64 4] 3) := by rw [← hX3]; exact new_at' _ _ hk3.symm
  have HQ3 := Lib.hid (equal_any _ _ [1, 4] [1, 4] X3 (HP1.out.below (HBV2.out.trans (hbx3.mono HBV2.out.size))) (ints_blk (n := 2) [1, 4] rx3 rfl rfl (by simp) (i64_small rfl)))
  go_wp2_with fail
  try rw [hX3]
  try rw [hk3]
  refine HQ3.out.mono ?_
  rintro e v3 ⟨rfl, q3, rfl⟩
  obtain ⟨v3, hv3⟩ : ∃ W, X3.drewN q3 = W := ⟨_, rfl⟩
  rw [hv3]
  have HBV3 : Hid (Below w9.heap.size w9 v3) := Lib.hid (by rw [← hv3]; exact below_drewN (HBV2.out.trans (hbx3.mono HBV2.out.size)) _)
  have hs3 := HBV3.out
  clear hX3 hk3 hbx3 rx3 HQ3 hv3
  try rw [b14]
  have p2a := below_c hs3 hz0 p2
  obtain ⟨k4, hk4⟩ : ∃ k, v3.heap.size = k := ⟨_, rfl⟩
  obtain ⟨X4, hX4⟩ : ∃ W, v3.alloc (.cells #[.int .i64 3] 3) = W := ⟨_, rfl⟩
  have hbx4 : Below v3.heap.size v3 X4 := by rw [← hX4]; exact (Below.refl _ _).alloc (Nat.le_refl _) _
  have rx4 : X4.heap[k4]? = some (.cells #[.int .i64 3] 3) := by rw [← hX4]; exact new_at' _ _ hk4.symm
  have HQ4 := Lib.hid (equal_any _ _ [3] [3] X4 (HP2.out.below (HBV3.out.trans (hbx4.mono HBV3.out.size))) (ints_blk (n := 1) [3] rx4 rfl rfl (by simp) (i64_small rfl)))
  go_wp2_with fail
  try rw [hX4]
  try rw [hk4]
  refine HQ4.out.mono ?_
  rintro e v4 ⟨rfl, q4, rfl⟩
  obtain ⟨v4, hv4⟩ : ∃ W, X4.drewN q4 = W := ⟨_, rfl⟩
  rw [hv4]
  have HBV4 : Hid (Below w9.heap.size w9 v4) := Lib.hid (by rw [← hv4]; exact below_drewN (HBV3.out.trans (hbx4.mono HBV3.out.size)) _)
  have hs4 := HBV4.out
  clear hX4 hk4 hbx4 rx4 HQ4 hv4
  try rw [b3]
  have HFIN : Hid (BoolPost w true (.returned (.bool true)) v4) := Lib.hid ⟨rfl, HB9.out.trans (hs4.mono HB9.out.size)⟩
  go_wp2_with fail
  go_ret
  exact HFIN.out
end Go.Proofs.YthanfjpmcckbhaaGreatDoor
