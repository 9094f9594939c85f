/- (Counter seat) Walks: BinarySearch of a strictly ascending slice, kept, free. No condition but the sizes. -/
import Derived.Test.YthanfjpmcckbhaaGreatDoorTb
import Derived.Test.YthanfjpmcckbhaaGreatDoorYb
import Derived.Shelf.Slices.SearchI
import Derived.Test.YthanfjpmcckbhaaGreatDoorYh
namespace Go.Proofs.YthanfjpmcckbhaaGreatDoor
open Go.ChangeShapes Go.WideShapes Go.ChangeAt Go.RowKit
set_option linter.unusedVariables false

def SearchPost (W : World) (xs : List Int) (x : Int) (e : Ending) (w' : World) : Prop :=
  e = .returned (.tuple #[.int .i64 ((xs.countP (· < x) : Nat) : Int), .bool (xs.contains x)]) ∧ ∃ q, w' = W.drewN q
theorem strict_le {xs : List Int} (h : Strict cmpM xs) : xs.Pairwise (· ≤ ·) := h.imp fun {a b} hab => by rw [cmpM_lt] at hab; omega
theorem strict_lt {xs : List Int} (h : Strict cmpM xs) : xs.Pairwise (· < ·) := h.imp fun {a b} hab => by rw [cmpM_lt] at hab; omega
set_option maxHeartbeats 2000000 in
theorem search_any (F : Nat → Prop) (v : Value) (xs : List Int) (x : Int) (w : World) (hx : Ints F w v xs) (hs : Strict cmpM xs) (hl : xs.length ≤ 100000) :
    Calls Tryz.prog 67 #[v, .int .i64 x] w (SearchPost w xs x) := by
  obtain ⟨a, n, c, rfl, HN, hn⟩ := hx.form'
  by_cases h0 : n = 0
  · subst h0
    have : xs = [] := List.eq_nil_of_length_eq_zero (by rw [← HN.out])
    subst this
    clear hx hs
    have d0 : decide ((0 : Int) < ((0 : Nat) : Int)) = false := by simp
    go_enter Tryz.func67, Tryz.ntmps67
    go_wp2_with fail
    go_loopg [7, 8] 0 (fun gg u7 u8 wx => u7 = .int .i64 0 ∧ u8 = .int .i64 0 ∧ wx = w)
    case atStart => exact ⟨rfl, rfl, rfl⟩
    case round =>
    obtain ⟨rfl, rfl, rfl⟩ := hrel
    go_wp2_with fail
    go_ret2
    exact ⟨rfl, 0, rfl⟩
  obtain ⟨y, hy⟩ : ∃ y, xs[0]? = some y := ⟨_, List.getElem?_eq_getElem (by rw [← HN.out]; omega)⟩
  have hx2 := hx
  obtain ⟨b, o, rfl, _, _, _, _⟩ := hx.at hy
  have hcell : ∀ j, j < xs.length → w.cell? ⟨b, o + j, none⟩ = some (.int .i64 (xs.getD j 0)) := fun j hj => by
    obtain ⟨b', o', he, _, _, hc, _⟩ := hx2.at (List.getElem?_eq_getElem hj)
    injection he with he
    injection he with he1 he2
    subst he1 he2
    rw [List.getD_eq_getElem?_getD, List.getElem?_eq_getElem hj]
    exact hc
  have hk : xs.take n = xs := List.take_of_length_le (by rw [HN.out]; exact Nat.le_refl _)
  have h := Go.Proofs.Any.slices_BinarySearch_int searchI b o n c xs x w (by rw [HN.out]; exact Nat.le_refl _) (by have := HN.out; omega) hcell (by rw [hk]; exact strict_le hs)
  rw [hk] at h
  exact h
theorem count_take {keep : Int} {xs : List Int} (hs : Strict cmpM xs) : xs.take (xs.countP (· < keep + 1)) = keptM keep xs := by
  have hlt := strict_lt hs
  have key : ∀ {l : List Int}, l.Pairwise (· < ·) → l.take (l.countP (· < keep + 1)) = keptM keep l := by
    intro l
    induction l with
    | nil => intro _; rfl
    | cons a r ih =>
      intro h
      obtain ⟨h1, h2⟩ := List.pairwise_cons.1 h
      rw [List.countP_cons]
      unfold keptM
      rw [List.filter_cons]
      by_cases ha : a ≤ keep
      · rw [if_pos (show decide (a < keep + 1) = true from decide_eq_true (by omega)), if_pos (show decide (a ≤ keep) = true from decide_eq_true ha), List.take_succ_cons]
        exact congrArg _ (ih h2)
      · rw [if_neg (show ¬ decide (a < keep + 1) = true by simp; omega), if_neg (show ¬ decide (a ≤ keep) = true by simp; omega)]
        have h3 : r.countP (· < keep + 1) = 0 := List.countP_eq_zero.2 fun y hy => by have := h1 y hy; simp; omega
        rw [h3]
        simp
        intro y hy
        have := h1 y hy
        omega
  exact key hlt
/-- a list of ints in memory of the call's own -/
def IntsNew (W : World) (xs : List Int) (e : Ending) (w' : World) : Prop := ∃ v, e = .returned v ∧ Ints (fun b => W.heap.size ≤ b) w' v xs ∧ Below W.heap.size W w'
set_option maxRecDepth 100000 in
set_option maxHeartbeats 4000000 in
theorem pkept_any (F : Nat → Prop) (pb : Nat) (keep : Int) (lv : Value) (cs : List (List Int)) (w : World) (hp : w.cell? ⟨pb, 0, none⟩ = some (.int .i64 keep)) (hk : 0 ≤ keep ∧ keep ≤ 40) (hc : Clss F w lv cs) (hl : cs.length ≤ 4000) (hll : ∀ c ∈ cs, c.length ≤ 4000) :
    Calls Tryz.prog 40 #[.pointer (some ⟨pb, 0, none⟩), lv] w (IntsNew w (keptM keep (occM cs))) := by
  have hlt := block_lt hp
  obtain ⟨ca, cn, cc, rfl, _, _⟩ := hc.form'
  have HOC := Lib.hid (occur_own F _ cs w hc hl hll)
  have hw : IntKind.i64.wrap (keep + 1) = keep + 1 := IntWalk.i64_in _ ⟨by omega, by omega⟩
  clear hc hl hll
  go_enter Tryz.func40, Tryz.ntmps40
  go_wp2_with fail
  refine HOC.out.mono ?_
  rintro e w2 ⟨ov, os, rfl, ho2, hb2, hst, hmem⟩
  obtain rfl := occ_eq hst hmem
  obtain ⟨oa, oc, rfl⟩ := own_form ho2
  have hle : (occM cs).length ≤ 20000 := nodup_bound (occM_nodup cs) fun x hx => occM_range hx
  have hcap : (occM cs).length ≤ oc := by
    rcases ho2.2 with ⟨h1, h2⟩ | ⟨g, cap, cur, h1, _, _, h2, _⟩
    · rw [h2]; exact Nat.zero_le _
    · injection h1 with _ _ h3
      rw [h3]; exact h2
  have hoi : Ints (fun b => w.heap.size ≤ b) w2 (.slice oa (occM cs).length oc) (occM cs) := ⟨(ownsRow_sl1 ho2 (by omega)).mono fun b hb => hb.1, fun x hx => by have := occM_range hx; unfold I64; omega⟩
  have p2 := below_c hb2 hlt hp
  have HSE := Lib.hid (search_any _ _ (occM cs) (keep + 1) w2 hoi hst (by omega))
  have hct := count_take (keep := keep) hst
  have hcl := List.countP_le_length (p := fun y => decide (y < keep + 1)) (l := occM cs)
  obtain ⟨m, hm⟩ : ∃ m, (occM cs).countP (fun y => decide (y < keep + 1)) = m := ⟨_, rfl⟩
  obtain ⟨on, hon⟩ : ∃ n, (occM cs).length = n := ⟨_, rfl⟩
  have hco : ∃ B, (occM cs).contains (keep + 1) = B := ⟨_, rfl⟩
  obtain ⟨B, hB⟩ := hco
  have hsp : ∀ e w', SearchPost w2 (occM cs) (keep + 1) e w' → e = .returned (.tuple #[.int .i64 (m : Int), .bool B]) ∧ ∃ q, w' = w2.drewN q := fun e w' h => by
    unfold SearchPost at h
    rw [hm, hB] at h
    exact h
  have HSP := Lib.hid hsp
  rw [hm] at hct hcl
  rw [hon] at hoi hcl hcap hle ⊢ HSE
  have HOI := Lib.hid hoi
  have HCT := Lib.hid hct
  have HB2 := Lib.hid hb2
  have hm0 : (0 : Int) ≤ m := by omega
  have hmc : (m : Int) ≤ oc := by omega
  have hmc' : m ≤ oc := by omega
  clear ho2 hb2 hst hmem HOC hoi hct hm hB hsp
  go_wp2_with fail
  refine HSE.out.mono ?_
  rintro e w3 hse
  obtain ⟨rfl, q, rfl⟩ := HSP.out _ _ hse
  have HB3 := Lib.hid (below_drewN HB2.out q)
  have hfin : Ints (fun b => w.heap.size ≤ b) (w2.drewN q) (.slice oa m oc) (keptM keep (occM cs)) := by
    have h1 := HOI.out.below (below_drewN (Below.refl w2.heap.size w2) q)
    obtain ⟨⟨a', cap', e1, e2, e3⟩, h2⟩ := h1
    injection e1 with e4 e5 e6
    subst e4 e6
    rw [← HCT.out]
    refine ⟨⟨oa, oc, ?_, ?_, fun j u hu => ?_⟩, fun x hx => h2 x (List.mem_of_mem_take hx)⟩
    · rw [List.length_map, List.length_take, hon, Nat.min_eq_left hcl]
    · rw [List.length_map, List.length_take]; omega
    · rw [List.getElem?_map, List.getElem?_take] at hu
      split at hu
      · exact e3 j u (by rw [List.getElem?_map]; exact hu)
      · simp at hu
  have HFIN := Lib.hid hfin
  clear hfin hse
  go_wp2_with fail
  go_ret
  exact ⟨_, rfl, HFIN.out, HB3.out⟩

/- (Counter seat) Walks: free, checked, newProver. No condition but the sizes. -/
open Go.ChangeShapes Go.WideShapes Go.ChangeAt Go.RowKit
set_option linter.unusedVariables false

theorem strict_filter {xs : List Int} (h : Strict cmpM xs) (p : Int → Bool) : Strict cmpM (xs.filter p) := List.Pairwise.sublist List.filter_sublist h
theorem lostM_keep {keep v : Int} {xs there : List Int} (h : ∀ x ∈ xs, x ≤ keep) : lostM v xs (keptM keep there) = lostM v xs there := by
  unfold lostM
  congr 1
  refine List.filter_congr fun x hx => ?_
  have : (keptM keep there).contains x = there.contains x := by
    rw [Bool.eq_iff_iff]
    simp [keptM_mem, h x hx]
  rw [this]
set_option maxRecDepth 100000 in
set_option maxHeartbeats 4000000 in
theorem free_any (F G : Nat → Prop) (pb : Nat) (keep v : Int) (fv gv : Value) (f g : List (List Int)) (w : World) (hp : w.cell? ⟨pb, 0, none⟩ = some (.int .i64 keep)) (hk : 0 ≤ keep ∧ keep ≤ 40) (hf : Clss F w fv f) (hg : Clss G w gv g) (hiv : I64 v)
    (hl : f.length ≤ 4000) (hll : ∀ c ∈ f, c.length ≤ 4000) (hm : g.length ≤ 4000) (hmm : ∀ c ∈ g, c.length ≤ 4000) :
    Calls Tryz.prog 132 #[.pointer (some ⟨pb, 0, none⟩), fv, gv, .int .i64 v] w (IntPost w (freeN keep f g v)) := by
  have hlt := block_lt hp
  obtain ⟨fa, fn, fc, rfl, _, _⟩ := hf.form'
  obtain ⟨ga, gn, gc, rfl, _, _⟩ := hg.form'
  have HKG := Lib.hid (pkept_any G pb keep _ g w hp hk hg hm hmm)
  have HKF : Hid (∀ W, Below w.heap.size w W → Calls Tryz.prog 40 #[.pointer (some ⟨pb, 0, none⟩), .slice fa fn fc] W (IntsNew W (keptM keep (occM f)))) := Lib.hid fun W hW => pkept_any F pb keep _ f W (below_c hW hlt hp) hk (hf.below hW) hl hll
  have hR : freeN keep f g v = lostM v (keptM keep (occM f)) (keptM keep (occM g)) := (lostM_keep fun x hx => (keptM_mem.1 hx).2).symm
  rw [hR]
  have hsg : Strict cmpM (keptM keep (occM g)) := strict_filter (occM_strict g) _
  have hlg : (keptM keep (occM g)).length ≤ 40 := kept_le40 hk.2
  have hlf : (keptM keep (occM f)).length ≤ 40 := kept_le40 hk.2
  generalize keptM keep (occM g) = Lg at *
  generalize keptM keep (occM f) = Lf at *
  clear hR hf hg hl hll hm hmm hp
  go_enter Tryz.func132, Tryz.ntmps132
  go_wp2_with fail
  refine HKG.out.mono ?_
  rintro e w2 ⟨v2, rfl, hi2, hb2⟩
  obtain ⟨xa, xn, xc, rfl, HXN, _⟩ := hi2.form'
  have HI2 := Lib.hid hi2
  have HB2 := Lib.hid hb2
  clear hi2 hb2 HKG
  go_wp2_with fail
  refine (HKF.out _ HB2.out).mono ?_
  rintro e w3 ⟨v3, rfl, hi3, hb3⟩
  obtain ⟨ya, yn, yc, rfl, HYN, _⟩ := hi3.form'
  have HI3 := Lib.hid hi3
  have HI23 := Lib.hid (HI2.out.below hb3)
  have HB3 := Lib.hid (HB2.out.trans (hb3.mono HB2.out.size))
  have HSG := Lib.hid hsg
  have hyn : yn ≤ 40 := by rw [HYN.out]; exact hlf
  have HM0 : Hid (0 = lostM v (Lf.take 0) Lg) := Lib.hid rfl
  clear hi3 hb3 HKF HI2 HB2 hsg hlf
  go_wp2_with fail
  go_loopg [10, 22] yn (fun gg u10 u22 wx => ∃ (k m q : Nat), k + gg = yn ∧ u22 = .int .i64 k ∧ u10 = .int .i64 m ∧ m ≤ k ∧ wx = w3.drewN q ∧ Hid (m = lostM v (Lf.take k) Lg))
  case atStart => exact ⟨0, 0, 0, by omega, rfl, rfl, Nat.le_refl _, rfl, HM0⟩
  case round =>
  clear HM0
  obtain ⟨k, m, q, hkg, rfl, rfl, hmk, rfl, HM⟩ := hrel
  have HBQ := Lib.hid (below_drewN HB3.out q)
  by_cases hk : k < yn
  · obtain ⟨x, hxk⟩ : ∃ x, Lf[k]? = some x := ⟨_, List.getElem?_eq_getElem (by rw [← HYN.out]; exact hk)⟩
    have hi3 := HI3.out.drewN q
    obtain ⟨xb, xo, rfl, _, _, hcx, hxi⟩ := hi3.at hxk
    have hdk : decide ((k : Int) < yn) = true := by simp; omega
    have hdk' : decide (k < yn) = true := decide_eq_true hk
    have hst : lostM v (Lf.take (k + 1)) Lg = m + if (decide (x ≠ v) && !Lg.contains x) = true then 1 else 0 := by rw [List.take_add_one, hxk]; show lostM v (Lf.take k ++ [x]) Lg = _; rw [lostM_step, ← HM.out]
    have hse := search_any _ _ Lg x (w3.drewN q) (HI23.out.drewN q) HSG.out (by omega)
    unfold SearchPost at hse
    obtain ⟨C, hC⟩ : ∃ C, Lg.countP (fun y => decide (y < x)) = C := ⟨_, rfl⟩
    obtain ⟨E, hE⟩ : ∃ E, Lg.contains x = E := ⟨_, rfl⟩
    rw [hC, hE] at hse
    rw [hE] at hst
    have HSE := Lib.hid hse
    have HST := Lib.hid hst
    clear hse hst hC hE hi3 hxk hxi
    go_wp2_with fail
    refine HSE.out.mono ?_
    rintro e w5 ⟨rfl, q2, rfl⟩
    by_cases hxv : x = v
    · have e1 : (x != v) = false := by simp; exact hxv
      have HF : Hid (m = lostM v (Lf.take (k + 1)) Lg) := Lib.hid (by rw [HST.out, hxv]; simp)
      clear hxv HST
      go_wp2_with fail
      go_roundg (gk - 1)
      case measure => omega
      case rel => exact ⟨k + 1, m, q + q2, by omega, by go_num, rfl, by omega, rfl, HF⟩
    have e1 : (x != v) = true := by simp; exact hxv
    rcases bool2 E with rfl | rfl
    · have HF : Hid (m = lostM v (Lf.take (k + 1)) Lg) := Lib.hid (by rw [HST.out]; simp)
      clear hxv HST
      go_wp2_with fail
      go_roundg (gk - 1)
      case measure => omega
      case rel => exact ⟨k + 1, m, q + q2, by omega, by go_num, rfl, by omega, rfl, HF⟩
    · have HF : Hid (m + 1 = lostM v (Lf.take (k + 1)) Lg) := Lib.hid (by rw [HST.out]; simp [hxv])
      clear hxv HST
      go_wp2_with fail
      go_roundg (gk - 1)
      case measure => omega
      case rel => exact ⟨k + 1, m + 1, q + q2, by omega, by go_num, by go_num, by omega, rfl, HF⟩
  · obtain rfl : k = yn := by omega
    have hdk : decide ((k : Int) < k) = false := by simp
    have hdk' : decide (k < k) = false := decide_eq_false (by omega)
    have HF : Hid (m = lostM v Lf Lg) := Lib.hid (by
      have := HM.out
      rw [List.take_of_length_le (by rw [HYN.out]; exact Nat.le_refl _)] at this
      exact this)
    clear HM
    go_wp2_with fail
    go_ret
    exact ⟨by rw [← HF.out]; rfl, HBQ.out⟩

/-- the code of a formula that is counted -/
def askedM (vars keep : Int) (cs : List (List Int)) (ls : List Int) : Int :=
  if checkM vars keep cs ≠ 0 then checkM vars keep cs
  else if (ls.any fun x => decide (x = 0) || (decide (vars < x) || decide (x < -vars))) = true then 3
  else if 40 < keep then 4 else 0
theorem check_vars {vars keep : Int} {cs : List (List Int)} (h : checkM vars keep cs = 0) : 0 ≤ keep ∧ keep ≤ vars ∧ vars ≤ 20000 := by
  unfold checkM at h
  by_cases h1 : vars < 0 ∨ keep < 0 ∨ vars < keep
  · rw [if_pos h1] at h; cases h
  rw [if_neg h1] at h
  by_cases h2 : 20000 < vars ∨ 60000 < cs.length
  · rw [if_pos h2] at h; cases h
  · omega
set_option maxRecDepth 100000 in
set_option maxHeartbeats 4000000 in
theorem checked_any (F G : Nat → Prop) (vars keep : Int) (cv lv : Value) (cs : List (List Int)) (ls : List Int) (w : World) (hc : Clss F w cv cs) (hl : Ints G w lv ls) (hiv : I64 vars) (hik : I64 keep) :
    Calls Tryz.prog 35 #[.agg #[.int .i64 vars, .int .i64 keep, cv], lv] w (CodePost w (askedM vars keep cs ls)) := by
  obtain ⟨ca, cn, cc, rfl, _, _⟩ := hc.form'
  obtain ⟨la, ln, lc, rfl, HLN, hln⟩ := hl.form'
  obtain ⟨bb, hbb⟩ : ∃ b, w.heap.size = b := ⟨_, rfl⟩
  obtain ⟨W1, hW1⟩ : ∃ W, w.alloc (.cells #[.int .i64 vars, .int .i64 keep, .slice ca cn cc] 24) = W := ⟨_, rfl⟩
  have hb1 : Below w.heap.size w W1 := by rw [← hW1]; exact (Below.refl _ _).alloc (Nat.le_refl _) _
  have hs1 : W1.heap.size = bb + 1 := by rw [← hW1]; simp; omega
  have hr0 : W1.heap[bb]? = some (.cells #[.int .i64 vars, .int .i64 keep, .slice ca cn cc] 24) := by rw [← hW1]; exact new_at' _ _ hbb.symm
  have c0 : W1.cell? ⟨bb, 0, none⟩ = some (.int .i64 vars) := by rw [cell_of_row _ _ _ _ _ _ hr0]; rfl
  have c1 : W1.cell? ⟨bb, 1, none⟩ = some (.int .i64 keep) := by rw [cell_of_row _ _ _ _ _ _ hr0]; rfl
  have c2 : W1.cell? ⟨bb, 2, none⟩ = some (.slice ca cn cc) := by rw [cell_of_row _ _ _ _ _ _ hr0]; rfl
  obtain ⟨R, hR⟩ : ∃ R, askedM vars keep cs ls = R := ⟨_, rfl⟩
  have hR2 := hR
  unfold askedM at hR2
  rw [hR]
  obtain ⟨C, hC⟩ : ∃ C, checkM vars keep cs = C := ⟨_, rfl⟩
  have hck := check_any F vars keep _ cs W1 (hc.below hb1) hiv hik
  rw [hC] at hck hR2
  have HCK := Lib.hid hck
  have HL := Lib.hid (hl.below hb1)
  have HB1 := Lib.hid hb1
  have HCC := Lib.hid hC
  have HR2 := Lib.hid hR2
  clear hR hC hck hc hl hb1 hr0 hik hiv hR2
  go_enter Tryz.func35, Tryz.ntmps35
  go_wp2_with fail
  try rw [hW1]
  clear hW1 hbb
  refine HCK.out.mono ?_
  rintro e w2 ⟨rfl, hb2⟩
  have y0 := below_c hb2 (by omega) c0
  have y1 := below_c hb2 (by omega) c1
  have y2 := below_c hb2 (by omega) c2
  have HB2 := Lib.hid (HB1.out.trans (hb2.mono HB1.out.size))
  have HL2 := Lib.hid (HL.out.below hb2)
  clear hb2 HCK HB1 HL c0 c1 c2
  by_cases h0 : C = 0
  case neg =>
    have hR := HR2.out
    rw [if_pos h0] at hR
    subst hR
    have e0 : (C != 0) = true := by simp; exact h0
    clear h0
    go_wp2_with fail
    go_ret
    exact ⟨rfl, HB2.out⟩
  subst h0
  obtain ⟨hk0, hkv, hv2⟩ := check_vars HCC.out
  have hR := HR2.out
  rw [if_neg (by simp)] at hR
  have HR0 : Hid ((if ((ls.drop 0).any fun x => decide (x = 0) || (decide (vars < x) || decide (x < -vars))) = true then 3 else if 40 < keep then 4 else 0) = R) := Lib.hid hR
  have hwv : IntKind.i64.wrap (-vars) = -vars := IntWalk.i64_in _ ⟨by omega, by omega⟩
  clear hR HR2
  go_wp2_with fail
  go_loopg [15] ln (fun gg u15 wx => ∃ k : Nat, k + gg = ln ∧ u15 = .int .i64 k ∧ wx = w2 ∧ Hid ((if ((ls.drop k).any fun x => decide (x = 0) || (decide (vars < x) || decide (x < -vars))) = true then 3 else if 40 < keep then 4 else 0) = R))
  case atStart => exact ⟨0, by omega, rfl, rfl, HR0⟩
  case round =>
  clear HR0
  obtain ⟨k, hkg, rfl, hww, HR⟩ := hrel
  have hww := hww.symm
  subst hww
  by_cases hk : k < ln
  · obtain ⟨x, hxk, ex⟩ := drop_at (xs := ls) (k := k) (by rw [← HLN.out]; exact hk)
    obtain ⟨xb, xo, rfl, _, _, hcx, hxi⟩ := HL2.out.at hxk
    have hdk : decide ((k : Int) < ln) = true := by simp; omega
    have hdk' : decide (k < ln) = true := decide_eq_true hk
    have hr := HR.out
    rw [ex, List.any_cons] at hr
    clear ex hxk hxi HR
    by_cases q0 : x = 0
    · have d0 : (x == 0) = true := by simp; exact q0
      rw [decide_eq_true q0, Bool.true_or, Bool.true_or, if_pos rfl] at hr
      subst hr
      clear q0
      go_wp2_with fail
      go_ret
      exact ⟨rfl, HB2.out⟩
    have d0 : (x == 0) = false := by simp; exact q0
    by_cases q1 : vars < x
    · have d1 : decide (vars < x) = true := decide_eq_true q1
      rw [d1, Bool.true_or, Bool.or_true, Bool.true_or, if_pos rfl] at hr
      subst hr
      clear q0 q1
      go_wp2_with fail
      go_ret
      exact ⟨rfl, HB2.out⟩
    have d1 : decide (vars < x) = false := decide_eq_false q1
    by_cases q2 : x < -vars
    · have d2 : decide (x < -vars) = true := decide_eq_true q2
      rw [d2, Bool.or_true, Bool.or_true, Bool.true_or, if_pos rfl] at hr
      subst hr
      clear q0 q1 q2
      go_wp2_with fail
      go_ret
      exact ⟨rfl, HB2.out⟩
    have d2 : decide (x < -vars) = false := decide_eq_false q2
    rw [decide_eq_false q0, d1, d2, Bool.or_false, Bool.or_false, Bool.false_or] at hr
    have HRN := Lib.hid hr
    clear hr q0 q1 q2
    go_wp2_with fail
    go_roundg (gk - 1)
    case measure => omega
    case rel => exact ⟨k + 1, by omega, by go_num, rfl, HRN⟩
  · obtain rfl : k = ln := by omega
    have hdk : decide ((k : Int) < k) = false := by simp
    have hdk' : decide (k < k) = false := decide_eq_false (by omega)
    have hr := HR.out
    rw [List.drop_eq_nil_of_le (by rw [HLN.out]; exact Nat.le_refl _), List.any_nil, if_neg (by simp)] at hr
    by_cases q : 40 < keep
    · have dq : decide (40 < keep) = true := decide_eq_true q
      rw [if_pos q] at hr
      subst hr
      clear q HR
      go_wp2_with fail
      go_ret
      exact ⟨rfl, HB2.out⟩
    · have dq : decide (40 < keep) = false := decide_eq_false q
      rw [if_neg q] at hr
      subst hr
      clear q HR
      go_wp2_with fail
      go_ret
      exact ⟨rfl, HB2.out⟩
end Go.Proofs.YthanfjpmcckbhaaGreatDoor
