/- Walks: the closure of the statement's law on OfMtbdd, ContainsFunc at it. No condition but the sizes. -/
import Derived.Test.YteadlkecngfcoaaGreatOs
import Derived.BigQuiet
import Derived.Deep.QuietTactic
import Derived.Test.YteadlkecngfcoaaGreatOx
import Derived.Test.YteadlkecngfcoaaGreatOg
import Derived.Test.YteadlkecngfcoaaGreatQj
import Derived.Test.YteadlkecngfcoaaGreatKo
import Derived.Test.YteadlkecngfcoaaGreatOv
import Derived.Deep.RegionHeld3
namespace Go.Proofs.YteadlkecngfcoaaGreat
open Go.ChangeShapes Go.WideShapes Go.ChangeAt Go.RowKit
set_option linter.unusedVariables false
set_option linter.unusedSimpArgs false

set_option maxHeartbeats 2000000 in
theorem equalb_any {F G : Nat → Prop} (v u : Value) (xs ys : List Bool) (w : World) (hx : Bools F w v xs) (hy : Bools G w u ys) :
    Calls Tryz.prog 13 #[v, u] w (QuietPost w (.bool (xs == ys))) := by
  obtain ⟨a, n, c, rfl, HN, hn⟩ : ∃ a n c, v = .slice a n c ∧ Hid (n = xs.length) ∧ n ≤ 9223372036854775807 := by
    obtain ⟨a, c, h1, h2⟩ := hx.form
    exact ⟨a, _, c, h1, rfl, h2⟩
  obtain ⟨b, m, d, rfl, HM, hm⟩ : ∃ a n c, u = .slice a n c ∧ Hid (n = ys.length) ∧ n ≤ 9223372036854775807 := by
    obtain ⟨a, c, h1, h2⟩ := hy.form
    exact ⟨a, _, c, h1, rfl, h2⟩
  obtain ⟨R, hR⟩ : ∃ R, (xs == ys) = R := ⟨_, rfl⟩
  rw [hR]
  by_cases hnm : n = m
  case neg =>
    have hne : ((n : Int) != (m : Int)) = true := by rw [bne_iff_ne]; omega
    have HR : Hid (R = false) := Lib.hid (by
      rw [← hR, beq_eq_false_iff_ne]
      intro e
      exact hnm (by rw [HN.out, HM.out, e]))
    clear hR hnm
    go_enter Tryz.func13, Tryz.ntmps13
    go_wp2
    go_ret
    exact ⟨by rw [HR.out]; rfl, 0, rfl⟩
  subst hnm
  have hne : ((n : Int) != (n : Int)) = false := by simp
  have HR : Hid (R = (xs.drop 0 == ys.drop 0)) := Lib.hid hR.symm
  clear hR
  go_enter Tryz.func13, Tryz.ntmps13
  go_wp2
  go_loopg [13] n (fun g u13 wx => ∃ (k nq : Nat), k + g = n ∧ u13 = .int .i64 k ∧ wx = w.drewN nq ∧ Hid (R = (xs.drop k == ys.drop k)))
  case atStart => exact ⟨0, 0, by omega, rfl, rfl, HR⟩
  case round =>
  obtain ⟨k, nq, hkg, rfl, rfl, hinv⟩ := hrel
  by_cases hk : k < n
  · obtain ⟨x, hxx⟩ : ∃ y, xs[k]? = some y := ⟨_, List.getElem?_eq_getElem (by have := HN.out; omega)⟩
    obtain ⟨y, hyy⟩ : ∃ y, ys[k]? = some y := ⟨_, List.getElem?_eq_getElem (by have := HM.out; omega)⟩
    obtain ⟨xb, xo, rfl, _, _, hxc⟩ := hx.at hxx
    obtain ⟨yb, yo, rfl, _, _, hyc⟩ := hy.at hyy
    have ex : xs.drop k = x :: xs.drop (k + 1) := by
      obtain ⟨hlt, he⟩ := List.getElem?_eq_some_iff.1 hxx
      rw [List.drop_eq_getElem_cons hlt, he]
    have ey : ys.drop k = y :: ys.drop (k + 1) := by
      obtain ⟨hlt, he⟩ := List.getElem?_eq_some_iff.1 hyy
      rw [List.drop_eq_getElem_cons hlt, he]
    have hk0 : (0 : Int) ≤ k := by omega
    have hk1 : (k : Int) < n := by omega
    by_cases hxy : x = y
    · have HF : Hid (R = (xs.drop (k + 1) == ys.drop (k + 1))) := Lib.hid (by rw [hinv.out, ex, ey, hxy]; simp)
      subst hxy
      clear hinv ex ey hxx hyy
      go_upto_region 6 with fail
      go_quiet (fail)
      go_wp2
      go_roundg (gk - 1)
      case measure => omega
      case rel => exact ⟨k + 1, _, by omega, by go_num, rfl, HF⟩
    · have HF : Hid (R = false) := Lib.hid (by rw [hinv.out, ex, ey]; simp [hxy])
      have hxy2 : x = !y := by cases x <;> cases y <;> simp_all
      subst hxy2
      clear hinv ex ey hxx hyy hxy
      cases y
      all_goals
        go_upto_region 6 with fail
        go_quiet (fail)
        go_wp2
        go_ret
        exact ⟨by rw [HF.out]; rfl, _, by rw [World.drewN_drewN]⟩
  · have HF : Hid (R = true) := Lib.hid (by rw [hinv.out, List.drop_eq_nil_of_le (by have := HN.out; omega), List.drop_eq_nil_of_le (by have := HM.out; omega)]; rfl)
    clear hinv
    go_wp2
    go_ret
    exact ⟨by rw [HF.out]; rfl, nq, rfl⟩
set_option maxHeartbeats 1000000 in
theorem indexfK_any (F : Nat → Prop) (P : List Bool → Bool) (g : Nat) (gl : Nat) (v : Value) (xs : List (List Bool)) (w : World) (hx : Wds F w v xs)
    (hp : ∀ (nq : Nat) (u : Value) (y : List Bool), y ∈ xs → Bools F (w.drewN nq) u y → Calls Tryz.prog 12 #[u, .pointer (some ⟨g, 0, none⟩), .pointer (some ⟨gl, 0, none⟩)] (w.drewN nq) (QuietPost (w.drewN nq) (.bool (P y)))) :
    Calls Tryz.prog 29 #[v, .func (.func 12) #[] #[.pointer (some ⟨g, 0, none⟩), .pointer (some ⟨gl, 0, none⟩)]] w (QuietPost w (.int .i64 (pGoA P xs 0))) := by
  obtain ⟨a, n, c, rfl, HN, hn⟩ := hx.form2
  obtain ⟨R, hR⟩ : ∃ R, pGoA P xs 0 = R := ⟨_, rfl⟩
  have HR : Hid (R = pGoA P (xs.drop 0) 0) := Lib.hid hR.symm
  rw [hR]
  have HX := Lib.hid hx
  have HP := Lib.hid hp
  clear hR hx hp
  go_enter Tryz.func29, Tryz.ntmps29
  go_wp2
  go_loopg [4, 8] n (fun g u4 u8 wx => ∃ k nq : Nat, k + g = n ∧ u8 = .int .i64 k ∧ u4 = .int .i64 0 ∧ wx = w.drewN nq ∧ Hid (R = pGoA P (xs.drop k) k))
  case atStart => exact ⟨0, 0, by omega, rfl, rfl, rfl, HR⟩
  case round =>
    obtain ⟨k, nq, hk, rfl, rfl, rfl, hinv⟩ := hrel
    by_cases hlt : k < n
    · obtain ⟨y, hy, e⟩ := drop_at (xs := xs) (k := k) (by have := HN.out; omega)
      have hxs := HX.out
      obtain ⟨b, off, yv, rfl, _, hb, hc, hyi⟩ := hxs.at hy
      obtain ⟨ya, yc, rfl, _⟩ := hyi.form
      obtain ⟨yn, hyn⟩ : ∃ n, y.length = n := ⟨_, rfl⟩
      rw [hyn] at hc hyi
      have HYN := Lib.hid hyn
      have HI : Hid (R = if P y = true then (k : Int) else pGoA P (xs.drop (k + 1)) (k + 1)) := Lib.hid (by rw [hinv.out, e]; rfl)
      obtain ⟨B, hB⟩ : ∃ B, P y = B := ⟨_, rfl⟩
      have hoc := fun nq => HP.out nq _ y (List.mem_of_getElem? hy) (hyi.below (below_drewN (Below.refl _ _) nq))
      rw [hB] at HI hoc
      have HOC := Lib.hid hoc
      clear hinv e hy hB hoc hxs hyi hyn
      rcases bool2 B with rfl | rfl
      · have HF : Hid (R = k) := Lib.hid (by rw [HI.out, if_pos rfl])
        go_wp2_with fail
        refine (HOC.out _).mono ?_
        rintro e w' ⟨rfl, n1, rfl⟩
        go_wp2_with fail
        go_ret
        exact ⟨by rw [HF.out]; rfl, _, rfl⟩
      · have HF : Hid (R = pGoA P (xs.drop (k + 1)) (k + 1)) := Lib.hid (by rw [HI.out, if_neg (by simp)])
        go_wp2_with fail
        refine (HOC.out _).mono ?_
        rintro e w' ⟨rfl, n1, rfl⟩
        go_wp2_with fail
        go_roundg (gk - 1)
        case measure => omega
        case rel => exact ⟨k + 1, _, by omega, by go_num, rfl, rfl, HF⟩
    · have HF : Hid (R = -1) := Lib.hid (by rw [hinv.out, List.drop_eq_nil_of_le (by have := HN.out; omega)]; rfl)
      clear hinv
      go_wp2
      go_ret
      exact ⟨by rw [HF.out]; rfl, nq, rfl⟩
theorem containsfK_any (F : Nat → Prop) (P : List Bool → Bool) (g : Nat) (gl : Nat) (v : Value) (xs : List (List Bool)) (w : World) (hx : Wds F w v xs)
    (hp : ∀ (nq : Nat) (u : Value) (y : List Bool), y ∈ xs → Bools F (w.drewN nq) u y → Calls Tryz.prog 12 #[u, .pointer (some ⟨g, 0, none⟩), .pointer (some ⟨gl, 0, none⟩)] (w.drewN nq) (QuietPost (w.drewN nq) (.bool (P y)))) :
    Calls Tryz.prog 11 #[v, .func (.func 12) #[] #[.pointer (some ⟨g, 0, none⟩), .pointer (some ⟨gl, 0, none⟩)]] w (QuietPost w (.bool (xs.any P))) := by
  have hc := pGoA_any P xs 0
  have hI := indexfK_any F P g gl v xs w hx hp
  obtain ⟨R, hR⟩ : ∃ R, pGoA P xs 0 = R := ⟨_, rfl⟩
  rw [hR] at hc hI
  rw [← hc]
  have HI := Lib.hid hI
  clear hc hR hI hx hp
  go_enter Tryz.func11, Tryz.ntmps11
  go_wp2_with fail
  refine HI.out.mono ?_
  rintro e w' ⟨rfl, n, rfl⟩
  go_wp2_with fail
  go_ret
  exact ⟨rfl, n, rfl⟩
theorem seen1_any (F G : Nat → Prop) (g gl : Nat) (wa : Option Addr) (wn wc k : Nat) (ws : List (List Bool)) (word : List Bool) (u : Value) (y : List Bool) (w : World) (hc : w.cell? ⟨g, 0, none⟩ = some (.slice wa wn wc)) (hl : w.cell? ⟨gl, 0, none⟩ = some (.int .i64 k)) (hw : Wds G w (.slice wa wn wc) ws) (hk : ws[k]? = some word) (hn : wn = ws.length) (hy : Bools F w u y) :
    Calls Tryz.prog 12 #[u, .pointer (some ⟨g, 0, none⟩), .pointer (some ⟨gl, 0, none⟩)] w (QuietPost w (.bool (y == word))) := by
  obtain ⟨b, off, yv, rfl, _, _, hcx, hyi⟩ := hw.at hk
  obtain ⟨ya, yc, rfl, _⟩ := hyi.form
  obtain ⟨ua, uc, rfl, _⟩ := hy.form
  obtain ⟨yn, hyn⟩ : ∃ n, word.length = n := ⟨_, rfl⟩
  rw [hyn] at hcx hyi
  have hk1 := (List.getElem?_eq_some_iff.1 hk).1
  have hk0 : (0 : Int) ≤ k := by omega
  have hkn : (k : Int) < wn := by omega
  have HE := Lib.hid (equalb_any _ _ y word w hy hyi)
  clear hw hk hyi hyn hk1 hy hn
  go_enter Tryz.func12, Tryz.ntmps12
  go_wp2_with fail
  refine HE.out.mono ?_
  rintro e w1 ⟨rfl, n, rfl⟩
  go_wp2_with fail
  go_ret
  exact ⟨rfl, n, rfl⟩

/- Walk: the statement CnfOfMtbdd. Condition: rows as long as their room. -/
open Go.ChangeShapes Go.WideShapes Go.ChangeAt Go.RowKit
set_option linter.unusedVariables false
set_option linter.unusedSimpArgs false

/-- the words seen -/
def OutW (B S : Nat) (w : World) (v : Value) (ps : List (Value × List Bool)) : Prop := w.ownsRow B 28 1 v ps.length (ps.map Prod.fst) ∧ ∀ p ∈ ps, Bools (fun b => b < S) w p.1 p.2
theorem OutW.below {B S : Nat} {w w' : World} {v : Value} {ps : List (Value × List Bool)} (h : OutW B S w v ps) (hb : Below w.heap.size w w') : OutW B S w' v ps :=
  ⟨own_below h.1 hb, fun p hp => (h.2 p hp).move fun k _ hl => hb.block k hl⟩
theorem OutW.wds {B S : Nat} {w : World} {v : Value} {ps : List (Value × List Bool)} (h : OutW B S w v ps) (hl : ps.length ≤ 9223372036854775807) : Wds (fun _ => True) w v (ps.map Prod.snd) := by
  refine ⟨ps.map Prod.fst, (ownsRow_sl1 h.1 hl).mono fun b hb => trivial, by simp, fun j u c hu hc => ?_⟩
  rw [List.getElem?_map] at hu hc
  rcases hj : ps[j]? with _ | q
  · rw [hj] at hu; cases hu
  · rw [hj] at hu hc
    injection hu with hu
    injection hc with hc
    subst hu hc
    exact (h.2 q (List.mem_of_getElem? hj)).mono fun b hb => trivial
theorem OutW.push {B S g cap n : Nat} {w w' : World} {v u : Value} {ps : List (Value × List Bool)} {x : List Bool} (h : OutW B S w v ps) (hS : S ≤ B) (hn : ps.length = n) (hu : Bools (fun b => b < S) w u x)
    (hown : w'.ownsRow B 28 1 (.slice (some ⟨g, 0, none⟩) (n + 1) cap) (n + 1) (ps.map Prod.fst ++ [u])) (hg : w.grownBy w' v.ownBlock) :
    OutW B S w' (.slice (some ⟨g, 0, none⟩) (n + 1) cap) (ps ++ [(u, x)]) := by
  subst hn
  have ol := h.1.lt
  have mv : ∀ u x, Bools (fun b => b < S) w u x → Bools (fun b => b < S) w' u x := fun u x hx => hx.move fun k hk hl => hg.block k hl fun e => by have := (ol k e.symm).1; omega
  refine ⟨by simpa using hown, fun p hp => ?_⟩
  rcases List.mem_append.1 hp with hp | hp
  · exact mv _ _ (h.2 p hp)
  · rw [List.mem_singleton] at hp
    subst hp
    exact mv _ _ hu
theorem fit_last {lvs : List Int} {ws : List (List Bool)} {v : Int} {k : Nat} (h : ∀ j, LvAt lvs j) (hk : lvs.length = k + 1) (hv : lvs[k]? = some v) : FitW lvs ws ↔ v < ws.length := by
  constructor
  · intro hf
    exact hf v (List.mem_of_getElem? hv)
  · intro hl u hu
    obtain ⟨i, hi⟩ := List.getElem?_of_mem hu
    have hlt := (List.getElem?_eq_some_iff.1 hi).1
    by_cases e : i = k
    · subst e
      rw [hi] at hv
      injection hv with hv
      omega
    · have := asc_pair h k i u v (by omega) hi hv
      omega
set_option maxRecDepth 100000 in
set_option maxHeartbeats 16000000 in
theorem CnfOfMtbdd_any (F : Nat → Prop) (vars root : Int) (lv0 nv0 wv0 : Value) (lvs : List Int) (ns : List Fork) (ws : List (List Bool)) (w : World) (hlv : Ints F w lv0 lvs) (hnv : Forks F w nv0 ns) (hwv : Wds F w wv0 ws) (hv : I64 vars) (hr : I64 root) (hcap : ∀ a n c, nv0 = .slice a n c → n ≤ c) :
    Calls Tryz.prog 3 #[.agg #[.int .i64 vars, lv0, nv0, .int .i64 root], wv0] w (BoolPost w true) := by
  obtain ⟨la, ll, lc, rfl, HLL, _⟩ := hlv.form'
  obtain ⟨na, nl, nc, rfl, HNL, _⟩ := hnv.form
  obtain ⟨wa, wl, wk, rfl, HWL, _⟩ := hwv.form2
  obtain ⟨s, hs⟩ : ∃ b, w.heap.size = b := ⟨_, rfl⟩
  obtain ⟨W1, hW1⟩ : ∃ W1, (w.alloc (.cells #[.int .i64 vars, .slice la ll lc, .slice na nl nc, .int .i64 root] 25)).alloc (.cells #[.slice wa wl wk] 26) = W1 := ⟨_, rfl⟩
  have z1 : (w.alloc (.cells #[.int .i64 vars, .slice la ll lc, .slice na nl nc, .int .i64 root] 25)).heap.size = s + 1 := by rw [World.size_alloc, hs]
  have hb1 : Below w.heap.size w W1 := by rw [← hW1]; exact ((Below.refl _ _).alloc (Nat.le_refl _) _).alloc (by rw [z1]; omega) _
  have hs1 : W1.heap.size = s + 2 := by rw [← hW1, World.size_alloc, z1]
  have hA : W1.heap[s]? = some (.cells #[.int .i64 vars, .slice la ll lc, .slice na nl nc, .int .i64 root] 25) := by rw [← hW1]; exact old_at _ _ _ (new_at' _ _ hs.symm)
  have hAw : W1.heap[s + 1]? = some (.cells #[.slice wa wl wk] 26) := by rw [← hW1]; exact new_at' _ _ z1.symm
  have HLV := Lib.hid (hlv.below hb1)
  have HNV := Lib.hid (hnv.below hb1)
  have HWV := Lib.hid (hwv.below hb1)
  have HW1 := Lib.hid hW1
  have HB1 := Lib.hid hb1
  have HS := Lib.hid hs
  have HCP := Lib.hid (hcap na nl nc rfl)
  have HV := Lib.hid hv
  have HR := Lib.hid hr
  have HK1 : Hid (∀ W, Below (s + 2) W1 W → W.cell? ⟨s, 0, none⟩ = some (.int .i64 vars) ∧ W.cell? ⟨s, 1, none⟩ = some (.slice la ll lc) ∧ W.cell? ⟨s, 2, none⟩ = some (.slice na nl nc) ∧ W.cell? ⟨s, 3, none⟩ = some (.int .i64 root) ∧ W.cell? ⟨s + 1, 0, none⟩ = some (.slice wa wl wk)) := Lib.hid fun W h =>
    ⟨below_c h (by omega) (cell_of hA rfl), below_c h (by omega) (cell_of hA rfl), below_c h (by omega) (cell_of hA rfl), below_c h (by omega) (cell_of hA rfl), below_c h (by omega) (cell_of hAw rfl)⟩
  have HD1 : Hid (∀ W, Below (s + 2) W1 W → Ints F W (.slice la ll lc) lvs ∧ Forks F W (.slice na nl nc) ns ∧ Wds F W (.slice wa wl wk) ws) := Lib.hid fun W h => by
    have h : Below W1.heap.size W1 W := by rw [hs1]; exact h
    exact ⟨HLV.out.below h, HNV.out.below h, HWV.out.below h⟩
  have HP : Hid (∀ W, Below (s + 2) W1 W → Below w.heap.size w W) := Lib.hid fun W h => HB1.out.trans (h.mono (by have := HS.out; omega))
  have HKN := Lib.hid (known_any W1)
  clear hlv hnv hwv hs hW1 hb1 hA hAw z1 hcap hv hr HLV HNV HWV
  go_enter Tryz.func3, Tryz.ntmps3
  go_upto_region 1 with fail
  try rw [HS.out]
  rw [HW1.out]
  go_wp2_with fail
  refine HKN.out.mono ?_
  rintro e w2 ⟨rfl, hb2⟩
  have HB2 : Hid (Below (s + 2) W1 w2) := Lib.hid (by rw [← hs1]; exact hb2)
  obtain ⟨k0, k1, k2, k3, k4⟩ := HK1.out w2 HB2.out
  clear hb2 HKN
  by_cases h1 : (40 : Int) < nl
  · have hd : decide ((40 : Int) < nl) = true := decide_eq_true h1
    have hd2 : decide (40 < nl) = true := decide_eq_true (by omega)
    clear h1
    go_wp2_with fail
    go_ret
    exact ⟨rfl, HP.out _ HB2.out⟩
  have hd1 : decide ((40 : Int) < nl) = false := decide_eq_false h1
  have hd1' : decide (40 < nl) = false := decide_eq_false (by omega)
  by_cases h2 : (40 : Int) < ll
  · have hd : decide ((40 : Int) < ll) = true := decide_eq_true h2
    have hd2 : decide (40 < ll) = true := decide_eq_true (by omega)
    clear h2 h1
    go_wp2_with fail
    go_ret
    exact ⟨rfl, HP.out _ HB2.out⟩
  have hd2 : decide ((40 : Int) < ll) = false := decide_eq_false h2
  have hd2' : decide (40 < ll) = false := decide_eq_false (by omega)
  by_cases h3 : (20 : Int) < wl
  · have hd : decide ((20 : Int) < wl) = true := decide_eq_true h3
    have hd2 : decide (20 < wl) = true := decide_eq_true (by omega)
    clear h3 h2 h1
    go_wp2_with fail
    go_ret
    exact ⟨rfl, HP.out _ HB2.out⟩
  have hd3 : decide ((20 : Int) < wl) = false := decide_eq_false h3
  have hd3' : decide (20 < wl) = false := decide_eq_false (by omega)
  have hnl : nl ≤ 40 := by omega
  have hll : ll ≤ 40 := by omega
  have hwl : wl ≤ 20 := by omega
  obtain ⟨D, hD⟩ : ∃ d, widM ws = d := ⟨_, rfl⟩
  have HD := Lib.hid hD
  clear h1 h2 h3 hD
  go_wp2_with fail
  go_loopg [5, 33] wl (fun gg u5 u33 wx => ∃ (j : Nat) (B : Bool), j + gg = wl ∧ u33 = .int .i64 j ∧ u5 = .bool B ∧ Hid (w2 = wx) ∧ Hid (B = true ↔ ∀ x ∈ ws.take j, x.length = D) ∧ Hid (∀ x ∈ ws.take j, x.length ≤ 12))
  case atStart => exact ⟨0, true, by omega, rfl, rfl, Lib.hid rfl, Lib.hid (by simp), Lib.hid (by simp)⟩
  case round =>
  obtain ⟨j, B, hjg, rfl, rfl, HWX, HSM, H12⟩ := hrel
  obtain rfl := HWX.out
  by_cases hj : j < wl
  case pos =>
    have hdj : decide ((j : Int) < wl) = true := by simp; omega
    have hdj' : decide (j < wl) = true := decide_eq_true hj
    have hj0 : (0 : Int) ≤ j := by omega
    have hjn : (j : Int) < wl := by omega
    have h0n : (0 : Int) < wl := by omega
    have h0n' : 0 < wl := by omega
    obtain ⟨y, hy⟩ : ∃ x, ws[j]? = some x := ⟨_, List.getElem?_eq_getElem (by have := HWL.out; omega)⟩
    obtain ⟨x, hx⟩ : ∃ x, ws[0]? = some x := ⟨_, List.getElem?_eq_getElem (by have := HWL.out; omega)⟩
    obtain ⟨xb, xo, xu, rfl, _, _, xc, xr⟩ := (HD1.out w2 HB2.out).2.2.at hx
    obtain ⟨yb, yo, yu, hyx, _, _, yc, yr⟩ := (HD1.out w2 HB2.out).2.2.at hy
    injection hyx with hyx
    injection hyx with hyb hyo
    subst hyb hyo
    obtain ⟨xa, xcp, rfl, _⟩ := xr.form
    obtain ⟨ya, ycp, rfl, _⟩ := yr.form
    have hxD : x.length = D := by rw [← HD.out]; unfold widM; rw [List.getD_eq_getElem?_getD, hx]; rfl
    rw [hxD, Nat.add_zero] at xc
    obtain ⟨yn, hyn⟩ : ∃ n, y.length = n := ⟨_, rfl⟩
    rw [hyn] at yc
    have htk : ws.take (j + 1) = ws.take j ++ [y] := by rw [List.take_add_one, hy]; rfl
    obtain ⟨E, hE⟩ : ∃ b, ((yn : Int) == (D : Int)) = b := ⟨_, rfl⟩
    obtain ⟨E2, hE2⟩ : ∃ b, (yn == D) = b := ⟨_, rfl⟩
    have hEE : E = E2 := by
      rw [← hE, ← hE2]
      by_cases h : yn = D
      · subst h; simp
      · have h1 : ((yn : Int) == (D : Int)) = false := by rw [beq_eq_false_iff_ne]; omega
        have h2 : (yn == D) = false := by rw [beq_eq_false_iff_ne]; exact h
        rw [h1, h2]
    subst hEE
    have HED : Hid (E = true ↔ yn = D) := Lib.hid (by rw [← hE2]; simp)
    have HSN : Hid ((B && E) = true ↔ ∀ x ∈ ws.take (j + 1), x.length = D) := Lib.hid (by
      rw [htk, Bool.and_eq_true, HSM.out, HED.out]
      constructor
      · rintro ⟨h1, h2⟩ x hx
        rcases List.mem_append.1 hx with hx | hx
        · exact h1 x hx
        · rw [List.mem_singleton] at hx; rw [hx, hyn, h2]
      · intro h
        exact ⟨fun x hx => h x (List.mem_append_left _ hx), by rw [← hyn]; exact h y (by simp)⟩)
    by_cases hy12 : (12 : Int) < yn
    · have hd : decide ((12 : Int) < yn) = true := decide_eq_true hy12
      have hd2 : decide (12 < yn) = true := decide_eq_true (by omega)
      clear hy12 hx hy xr yr hxD hyn htk
      rcases bool2 B with rfl | rfl
      all_goals
        go_wp2_with fail
        go_ret
        exact ⟨rfl, HP.out _ HB2.out⟩
    have hd : decide ((12 : Int) < yn) = false := decide_eq_false hy12
    have hdd : decide (12 < yn) = false := decide_eq_false (by omega)
    have H12N : Hid (∀ x ∈ ws.take (j + 1), x.length ≤ 12) := Lib.hid fun x hx => by
      rw [htk] at hx
      rcases List.mem_append.1 hx with hx | hx
      · exact H12.out x hx
      · rw [List.mem_singleton] at hx; rw [hx]; omega
    clear hy12 hx hy xr yr hxD hyn htk
    rcases bool2 B with rfl | rfl
    all_goals
      go_wp2_with fail
      go_roundg (gk - 1)
      case measure => omega
      case rel => exact ⟨j + 1, _, by omega, by go_num, rfl, Lib.hid rfl, by first | exact HSN | simpa using HSN, H12N⟩
  have hdj : decide ((j : Int) < wl) = false := by simp; omega
  have hdj' : decide (j < wl) = false := decide_eq_false hj
  have hjw : j = wl := by omega
  have htk : ws.take j = ws := List.take_of_length_le (by have := HWL.out; omega)
  have HSAM : Hid (B = true ↔ SameW ws) := Lib.hid (by have := HSM.out; rw [htk] at this; unfold SameW; rw [HD.out]; exact this)
  have H12A : Hid (∀ x ∈ ws, x.length ≤ 12) := Lib.hid (by have := H12.out; rw [htk] at this; exact this)
  have hD12 : D ≤ 12 := by
    rw [← HD.out]
    unfold widM
    rcases hx : ws[0]? with _ | x
    · rw [List.getD_eq_getElem?_getD, hx]; simp
    · rw [List.getD_eq_getElem?_getD, hx]; exact H12A.out x (List.mem_of_getElem? hx)
  clear hj htk HSM H12 hjw
  have HOF := Lib.hid (ofmtbdd_any F vars root _ _ _ lvs ns ws w2 (HD1.out w2 HB2.out).1 (HD1.out w2 HB2.out).2.1 (HD1.out w2 HB2.out).2.2 (by have := HLL.out; omega) (by have := HNL.out; omega) (by have := HWL.out; omega) H12A.out HV.out HR.out)
  go_wp2_with fail
  refine HOF.out.mono ?_
  rintro e w3 ⟨v3, c, rfl, hb3, hno, hunf, hyes⟩
  have hs2 : s + 2 ≤ w2.heap.size := by have := HB2.out.size; omega
  have HB3 : Hid (Below (s + 2) W1 w3) := Lib.hid (HB2.out.trans (hb3.mono hs2))
  have HNO := Lib.hid hno
  have HUN := Lib.hid hunf
  have HYE := Lib.hid hyes
  clear hno hunf hyes HOF hb3 k0 k1 k2 k3 k4
  obtain ⟨cb, hcb⟩ : ∃ b, w3.heap.size = b := ⟨_, rfl⟩
  have hs3 : s + 2 ≤ cb := by have := HB3.out.size; omega
  by_cases hM : MtP vars lvs ns root
  case neg =>
    obtain ⟨hc0, rfl⟩ := HNO.out hM
    have hRG : ¬ RigP vars lvs ns root := fun h => hM ⟨h.1, h.2.1, by have := HLL.out; omega, by have := HNL.out; omega, rig_frm (by have := HLL.out; omega) (by have := HNL.out; omega) h⟩
    have hcn : (c != 0) = true := by rw [bne_iff_ne]; exact hc0
    obtain ⟨w4, hw4⟩ : ∃ W, w3.alloc (.cells #[.int .i64 0, .int .i64 0, .slice none 0 0] 31) = W := ⟨_, rfl⟩
    have hb4 : Below w3.heap.size w3 w4 := by rw [← hw4]; exact (Below.refl _ _).alloc (Nat.le_refl _) _
    have hs4 : w4.heap.size = cb + 1 := by rw [← hw4, World.size_alloc, hcb]
    have hC : w4.heap[cb]? = some (.cells #[.int .i64 0, .int .i64 0, .slice none 0 0] 31) := by rw [← hw4, ← hcb]; exact new_at _ _
    have g0 : w4.cell? ⟨cb, 0, none⟩ = some (.int .i64 0) := cell_of hC rfl
    have g1 : w4.cell? ⟨cb, 1, none⟩ = some (.int .i64 0) := cell_of hC rfl
    have g2 : w4.cell? ⟨cb, 2, none⟩ = some (.slice none 0 0) := cell_of hC rfl
    have HB4 : Hid (Below (s + 2) W1 w4) := Lib.hid (HB3.out.trans (hb4.mono (by omega)))
    obtain ⟨k0, k1, k2, k3, k4⟩ := HK1.out w4 HB4.out
    have HRT := Lib.hid (mright_any F vars root _ _ lvs ns w4 (HD1.out w4 HB4.out).1 (HD1.out w4 HB4.out).2.1 (by have := HLL.out; omega) (by have := HNL.out; omega) HV.out HR.out (fun a n c e => by injection e with _ e2 e3; rw [← e2, ← e3]; exact HCP.out))
    have HW4 := Lib.hid hw4
    have HRN := Lib.hid hRG
    have HCB := Lib.hid hcb
    clear hM hRG hb4 hw4 hC hc0 hcb
    unfold noC
    go_upto_region 14 with fail
    try rw [HCB.out]
    rw [HW4.out]
    go_wp2_with fail
    refine HRT.out.mono ?_
    rintro e w5 ⟨b, rfl, hbr, hb5⟩
    have hbf : b = false := by
      rcases bool2 b with rfl | rfl
      · exact absurd (hbr.1 (by first | trivial | rfl)) HRN.out
      · rfl
    subst hbf
    have g0 := below_c hb5 (block_lt g0) g0
    have g1 := below_c hb5 (block_lt g1) g1
    have g2 := below_c hb5 (block_lt g2) g2
    have HB5 : Hid (Below (s + 2) W1 w5) := Lib.hid (HB4.out.trans (hb5.mono (by omega)))
    clear hbr hb5 HRT
    go_wp2_with fail
    go_ret
    exact ⟨rfl, HP.out _ HB5.out⟩
  have HMT := Lib.hid hM
  have hRG : RigP vars lvs ns root := frm_rig hM.1 hM.2.1 hM.2.2.1 hM.2.2.2.1 hM.2.2.2.2
  have HRG := Lib.hid hRG
  have hL1 : 1 ≤ lvs.length := hRG.2.2.1
  obtain ⟨lastv, hlast⟩ : ∃ x, lvs[ll - 1]? = some x := ⟨_, List.getElem?_eq_getElem (by have := HLL.out; omega)⟩
  have hfl := fit_last (ws := ws) hRG.2.2.2.2.2.1 (show lvs.length = (ll - 1) + 1 by have := HLL.out; omega) hlast
  have HFL : Hid (FitW lvs ws ↔ lastv < wl) := Lib.hid (by rw [HWL.out]; exact hfl)
  have HLS := Lib.hid hlast
  have hll1 : 1 ≤ ll := by have := HLL.out; omega
  obtain ⟨m, rfl⟩ : ∃ m : Nat, vars = m := ⟨vars.toNat, by have := hM.1; omega⟩
  have hm40 : m ≤ 40 := by have := hM.2.1; omega
  clear hM hRG hfl hlast hL1
  by_cases hSF : SameW ws ∧ FitW lvs ws
  case neg =>
    obtain ⟨rfl, rfl⟩ := HUN.out HMT.out hSF
    obtain ⟨w4, hw4⟩ : ∃ W, w3.alloc (.cells #[.int .i64 0, .int .i64 0, .slice none 0 0] 31) = W := ⟨_, rfl⟩
    have hb4 : Below w3.heap.size w3 w4 := by rw [← hw4]; exact (Below.refl _ _).alloc (Nat.le_refl _) _
    have hs4 : w4.heap.size = cb + 1 := by rw [← hw4, World.size_alloc, hcb]
    have hC : w4.heap[cb]? = some (.cells #[.int .i64 0, .int .i64 0, .slice none 0 0] 31) := by rw [← hw4, ← hcb]; exact new_at _ _
    have g0 : w4.cell? ⟨cb, 0, none⟩ = some (.int .i64 0) := cell_of hC rfl
    have g1 : w4.cell? ⟨cb, 1, none⟩ = some (.int .i64 0) := cell_of hC rfl
    have g2 : w4.cell? ⟨cb, 2, none⟩ = some (.slice none 0 0) := cell_of hC rfl
    have HB4 : Hid (Below (s + 2) W1 w4) := Lib.hid (HB3.out.trans (hb4.mono (by omega)))
    obtain ⟨k0, k1, k2, k3, k4⟩ := HK1.out w4 HB4.out
    have HRT := Lib.hid (mright_any F m root _ _ lvs ns w4 (HD1.out w4 HB4.out).1 (HD1.out w4 HB4.out).2.1 (by have := HLL.out; omega) (by have := HNL.out; omega) HV.out HR.out (fun a n c e => by injection e with _ e2 e3; rw [← e2, ← e3]; exact HCP.out))
    have HW4 := Lib.hid hw4
    have HCB := Lib.hid hcb
    have HBSF : Hid (B = true → ¬ lastv < wl) := Lib.hid fun hb h => hSF ⟨HSAM.out.1 hb, HFL.out.2 h⟩
    clear hSF hb4 hw4 hC hcb
    unfold noC
    go_upto_region 14 with fail
    try rw [HCB.out]
    rw [HW4.out]
    go_wp2_with fail
    refine HRT.out.mono ?_
    rintro e w5 ⟨b, rfl, hbr, hb5⟩
    obtain rfl : b = true := hbr.2 HRG.out
    have g0 := below_c hb5 (block_lt g0) g0
    have g1 := below_c hb5 (block_lt g1) g1
    have g2 := below_c hb5 (block_lt g2) g2
    have HB5 : Hid (Below (s + 2) W1 w5) := Lib.hid (HB4.out.trans (hb5.mono (by omega)))
    obtain ⟨k0, k1, k2, k3, k4⟩ := HK1.out w5 HB5.out
    obtain ⟨eb, eo, rfl, _, hebl, e0, _⟩ := (HD1.out w5 HB5.out).1.at HLS.out
    have hsub : IntKind.i64.wrap ((ll : Int) - 1) = ((ll - 1 : Nat) : Int) := by rw [IntWalk.i64_in _ ⟨by omega, by omega⟩]; omega
    have hi0 : (0 : Int) ≤ ((ll - 1 : Nat) : Int) := by omega
    have hi1 : ((ll - 1 : Nat) : Int) < ll := by omega
    obtain ⟨lz, hlz⟩ : ∃ z, ll - 1 = z := ⟨_, rfl⟩
    rw [hlz] at hsub hi0 hi1 e0
    have hz0 : (0 : Int) ≤ (lz : Int) := hi0
    clear hbr hb5 HRT hlz
    rcases bool2 B with rfl | rfl
    · have hge : decide ((wl : Int) ≤ lastv) = true := decide_eq_true (by have := HBSF.out rfl; omega)
      go_upto_region 16 with fail
      go_quiet (fail)
      have hb6 : Below w5.heap.size w5 (w5.drewN nq) := below_drewN (Below.refl _ _) nq
      have HB6 : Hid (Below (s + 2) W1 (w5.drewN nq)) := Lib.hid (HB5.out.trans (hb6.mono (by have := HB5.out.size; omega)))
      clear hb6
      go_wp2_with fail
      go_ret
      exact ⟨rfl, HP.out _ HB6.out⟩
    · go_upto_region 16 with fail
      go_quiet (fail)
      have hb6 : Below w5.heap.size w5 (w5.drewN nq) := below_drewN (Below.refl _ _) nq
      have HB6 : Hid (Below (s + 2) W1 (w5.drewN nq)) := Lib.hid (HB5.out.trans (hb6.mono (by have := HB5.out.size; omega)))
      clear hb6
      go_wp2_with fail
      go_ret
      exact ⟨rfl, HP.out _ HB6.out⟩
  obtain ⟨hSW, hFW⟩ := hSF
  have hok : MtOk m lvs ns root ws := mt_ok HMT.out (by have := HLL.out; omega) (by have := HNL.out; omega) (by rw [HD.out]; exact hD12) hSW hFW
  obtain ⟨rfl, cv, rfl, hcv⟩ := HYE.out HMT.out hSW hFW (make_mt hok)
  have HOK := Lib.hid hok
  have hBT : B = true := HSAM.out.2 hSW
  subst hBT
  have hlw : lastv < wl := HFL.out.1 hFW
  have HSW := Lib.hid hSW
  have HFW := Lib.hid hFW
  obtain ⟨qa, qn, qc, rfl, _, _⟩ := hcv.form'
  rw [HD.out, ← HLL.out, ← HNL.out]
  obtain ⟨V, hV⟩ : ∃ x, (D : Int) + m + ll + nl = x := ⟨_, rfl⟩
  rw [hV]
  have hVr : 0 ≤ V ∧ V ≤ 200 := by omega
  have HVE := Lib.hid hV
  obtain ⟨w4, hw4⟩ : ∃ W, w3.alloc (.cells #[.int .i64 V, .int .i64 D, .slice qa qn qc] 31) = W := ⟨_, rfl⟩
  have hb4 : Below w3.heap.size w3 w4 := by rw [← hw4]; exact (Below.refl _ _).alloc (Nat.le_refl _) _
  have hs4 : w4.heap.size = cb + 1 := by rw [← hw4, World.size_alloc, hcb]
  have hC : w4.heap[cb]? = some (.cells #[.int .i64 V, .int .i64 D, .slice qa qn qc] 31) := by rw [← hw4, ← hcb]; exact new_at _ _
  have g0 : w4.cell? ⟨cb, 0, none⟩ = some (.int .i64 V) := cell_of hC rfl
  have g1 : w4.cell? ⟨cb, 1, none⟩ = some (.int .i64 D) := cell_of hC rfl
  have g2 : w4.cell? ⟨cb, 2, none⟩ = some (.slice qa qn qc) := cell_of hC rfl
  have HB4 : Hid (Below (s + 2) W1 w4) := Lib.hid (HB3.out.trans (hb4.mono (by omega)))
  have HC4 := Lib.hid (Rows1.move (fun _ _ _ _ _ h hm => h.move hm) hcv fun k _ hk => hb4.block k hk)
  obtain ⟨k0, k1, k2, k3, k4⟩ := HK1.out w4 HB4.out
  have HRT := Lib.hid (mright_any F m root _ _ lvs ns w4 (HD1.out w4 HB4.out).1 (HD1.out w4 HB4.out).2.1 (by have := HLL.out; omega) (by have := HNL.out; omega) HV.out HR.out (fun a n c e => by injection e with _ e2 e3; rw [← e2, ← e3]; exact HCP.out))
  have HW4 := Lib.hid hw4
  have HCB := Lib.hid hcb
  clear hSW hFW hok hcv hb4 hw4 hC hcb hV HUN HNO HYE HSAM
  go_upto_region 14 with fail
  try rw [HCB.out]
  rw [HW4.out]
  go_wp2_with fail
  refine HRT.out.mono ?_
  rintro e w5 ⟨b, rfl, hbr, hb5⟩
  obtain rfl : b = true := hbr.2 HRG.out
  have g0 := below_c hb5 (block_lt g0) g0
  have g1 := below_c hb5 (block_lt g1) g1
  have g2 := below_c hb5 (block_lt g2) g2
  have HB5 : Hid (Below (s + 2) W1 w5) := Lib.hid (HB4.out.trans (hb5.mono (by omega)))
  have HC5 := Lib.hid (Rows1.move (fun _ _ _ _ _ h hm => h.move hm) HC4.out fun k _ hk => hb5.block k hk)
  have hs5 : cb + 1 ≤ w5.heap.size := by have := hb5.size; omega
  obtain ⟨k0, k1, k2, k3, k4⟩ := HK1.out w5 HB5.out
  obtain ⟨eb, eo, rfl, _, hebl, e0, _⟩ := (HD1.out w5 HB5.out).1.at HLS.out
  have hsub : IntKind.i64.wrap ((ll : Int) - 1) = ((ll - 1 : Nat) : Int) := by rw [IntWalk.i64_in _ ⟨by omega, by omega⟩]; omega
  have hi0 : (0 : Int) ≤ ((ll - 1 : Nat) : Int) := by omega
  have hi1 : ((ll - 1 : Nat) : Int) < ll := by omega
  obtain ⟨lz, hlz⟩ : ∃ z, ll - 1 = z := ⟨_, rfl⟩
  rw [hlz] at hsub hi0 hi1 e0
  have hge : decide ((wl : Int) ≤ lastv) = false := decide_eq_false (by omega)
  clear hbr hb5 HRT HC4 hlz
  go_upto_region 16 with fail
  go_quiet (fail)
  obtain ⟨w6, hw6⟩ : ∃ W, w5.drewN nq = W := ⟨_, rfl⟩
  have hb6 : Below w5.heap.size w5 w6 := by rw [← hw6]; exact below_drewN (Below.refl _ _) nq
  have g0 := below_c hb6 (block_lt g0) g0
  have g1 := below_c hb6 (block_lt g1) g1
  have g2 := below_c hb6 (block_lt g2) g2
  have HB6 : Hid (Below (s + 2) W1 w6) := Lib.hid (HB5.out.trans (hb6.mono (by omega)))
  have HC6 := Lib.hid (Rows1.move (fun _ _ _ _ _ h hm => h.move hm) HC5.out fun k _ hk => hb6.block k hk)
  have hs6 : cb + 1 ≤ w6.heap.size := by have := hb6.size; omega
  obtain ⟨k0, k1, k2, k3, k4⟩ := HK1.out w6 HB6.out
  have HLF := Lib.hid (lofmtbdd_any F m root _ _ _ lvs ns ws w6 (HD1.out w6 HB6.out).1 (HD1.out w6 HB6.out).2.1 (HD1.out w6 HB6.out).2.2 (by have := HLL.out; omega) (by have := HNL.out; omega) (by have := HWL.out; omega) H12A.out HMT.out HSW.out HFW.out)
  rw [HD.out, ← HLL.out, ← HNL.out, HVE.out] at HLF
  have HW6 := Lib.hid hw6
  rw [hw6]
  clear hw6 hb6 e0 hge HC5 hsub hi0 hi1
  go_wp2_with fail
  refine HLF.out.mono ?_
  rintro e w7 ⟨cv7, rfl, hc7, hb7⟩
  obtain ⟨ra, rn, rc, rfl, _, _⟩ := hc7.form'
  obtain ⟨eb', heb⟩ : ∃ b, w7.heap.size = b := ⟨_, rfl⟩
  obtain ⟨w8, hw8⟩ : ∃ W, w7.alloc (.cells #[.int .i64 V, .int .i64 D, .slice ra rn rc] 31) = W := ⟨_, rfl⟩
  have hb8 : Below w7.heap.size w7 w8 := by rw [← hw8]; exact (Below.refl _ _).alloc (Nat.le_refl _) _
  have hb68 : Below w6.heap.size w6 w8 := hb7.trans (hb8.mono hb7.size)
  have hE : w8.heap[eb']? = some (.cells #[.int .i64 V, .int .i64 D, .slice ra rn rc] 31) := by rw [← hw8, ← heb]; exact new_at _ _
  have m0 : w8.cell? ⟨eb', 0, none⟩ = some (.int .i64 V) := cell_of hE rfl
  have m1 : w8.cell? ⟨eb', 1, none⟩ = some (.int .i64 D) := cell_of hE rfl
  have m2 : w8.cell? ⟨eb', 2, none⟩ = some (.slice ra rn rc) := cell_of hE rfl
  have g0 := below_c hb68 (block_lt g0) g0
  have g1 := below_c hb68 (block_lt g1) g1
  have g2 := below_c hb68 (block_lt g2) g2
  have HB8 : Hid (Below (s + 2) W1 w8) := Lib.hid (HB6.out.trans (hb68.mono (by omega)))
  have HC8 := Lib.hid (Rows1.move (fun _ _ _ _ _ h hm => h.move hm) HC6.out fun k _ hk => hb68.block k hk)
  have hs8 : cb + 1 ≤ w8.heap.size := by have := hb68.size; omega
  obtain ⟨k0, k1, k2, k3, k4⟩ := HK1.out w8 HB8.out
  have HEQ := Lib.hid (lequal_any (.slice qa qn qc) (.slice ra rn rc) _ _ w8 HC8.out (Rows1.move (fun _ _ _ _ _ h hm => h.move hm) hc7 fun k _ hk => hb8.block k hk))
  rw [beq_self_eq_true] at HEQ
  have HW8 := Lib.hid hw8
  have HEB := Lib.hid heb
  clear hb7 hb8 hb68 hw8 hE HLF HC6 hc7 heb
  go_upto_region 19 with fail
  try rw [HEB.out]
  rw [HW8.out]
  go_wp2_with fail
  refine HEQ.out.mono ?_
  rintro e w9 ⟨rfl, nd, rfl⟩
  obtain ⟨w9, hw9⟩ : ∃ W, w8.drewN nd = W := ⟨_, rfl⟩
  rw [hw9]
  have hb9 : Below w8.heap.size w8 w9 := by rw [← hw9]; exact below_drewN (Below.refl _ _) nd
  have g0 := below_c hb9 (block_lt g0) g0
  have g1 := below_c hb9 (block_lt g1) g1
  have g2 := below_c hb9 (block_lt g2) g2
  have HB9 : Hid (Below (s + 2) W1 w9) := Lib.hid (HB8.out.trans (hb9.mono (by omega)))
  have HC9 := Lib.hid (Rows1.move (fun _ _ _ _ _ h hm => h.move hm) HC8.out fun k _ hk => hb9.block k hk)
  have hs9 : cb + 1 ≤ w9.heap.size := by have := hb9.size; omega
  obtain ⟨k0, k1, k2, k3, k4⟩ := HK1.out w9 HB9.out
  clear hw9 hb9 m0 m1 m2 HC8 HEQ HW8 HEB hs8
  by_cases h5 : (5 : Int) < m
  · have hd5 : decide ((5 : Int) < m) = true := decide_eq_true h5
    have hd5' : decide (5 < m) = true := decide_eq_true (by omega)
    clear h5
    go_wp2_with fail
    go_ret
    exact ⟨rfl, HP.out _ HB9.out⟩
  have hd5 : decide ((5 : Int) < m) = false := decide_eq_false h5
  have hd5' : decide (5 < m) = false := decide_eq_false (by omega)
  have hm5 : m ≤ 5 := by omega
  by_cases h4 : (4 : Int) < D
  · have hd4 : decide ((4 : Int) < D) = true := decide_eq_true h4
    have hd4' : decide (4 < D) = true := decide_eq_true (by omega)
    clear h5 h4
    go_wp2_with fail
    go_ret
    exact ⟨rfl, HP.out _ HB9.out⟩
  have hd4 : decide ((4 : Int) < D) = false := decide_eq_false h4
  have hd4' : decide (4 < D) = false := decide_eq_false (by omega)
  have hD4 : D ≤ 4 := by omega
  clear h5 h4
  obtain ⟨M, hMe⟩ : ∃ b, w9.heap.size = b := ⟨_, rfl⟩
  have hMs : s + 2 ≤ M := by omega
  have hHK : ∀ W, Below M w9 W → W.cell? ⟨s, 0, none⟩ = some (.int .i64 m) ∧ W.cell? ⟨s, 1, none⟩ = some (.slice (some ⟨eb, eo, none⟩) ll lc) ∧ W.cell? ⟨s, 2, none⟩ = some (.slice na nl nc) ∧ W.cell? ⟨s, 3, none⟩ = some (.int .i64 root) ∧ W.cell? ⟨s + 1, 0, none⟩ = some (.slice wa wl wk) ∧ W.cell? ⟨cb, 0, none⟩ = some (.int .i64 V) ∧ W.cell? ⟨cb, 1, none⟩ = some (.int .i64 D) ∧ W.cell? ⟨cb, 2, none⟩ = some (.slice qa qn qc) := fun W h =>
    ⟨below_c h (by omega) k0, below_c h (by omega) k1, below_c h (by omega) k2, below_c h (by omega) k3, below_c h (by omega) k4, below_c h (by omega) g0, below_c h (by omega) g1, below_c h (by omega) g2⟩
  have HKM := Lib.hid hHK
  have HIM : Hid (∀ W, Below M w9 W → Ints (fun b => b < M) W (.slice (some ⟨eb, eo, none⟩) ll lc) lvs ∧ Forks (fun b => b < M) W (.slice na nl nc) ns ∧ Wds (fun b => b < M) W (.slice wa wl wk) ws ∧ Clss (fun _ => True) W (.slice qa qn qc) (canM (mtC m lvs ns root ws))) := Lib.hid fun W h => by
    have h : Below w9.heap.size w9 W := by rw [hMe]; exact h
    obtain ⟨a1, a2, a3⟩ := HD1.out w9 HB9.out
    exact ⟨(a1.lt.below h).mono fun b hb => by have := hb.2; omega, (a2.lt.below h).mono fun b hb => by have := hb.2; omega, Rows1.mono (fun _ _ _ _ _ h hg => h.mono hg) (a3.lt2.below h) fun b hb => by omega, Rows1.mono (fun _ _ _ _ _ h hg => h.mono hg) (Rows1.move (fun _ _ _ _ _ h hm => h.move hm) HC9.out fun k _ hk => h.block k hk) fun _ _ => trivial⟩
  obtain ⟨w10, hw10⟩ : ∃ W, w9.alloc (.cells #[] 28) = W := ⟨_, rfl⟩
  have HB10 : Hid (Below M w9 w10) := Lib.hid (by rw [← hw10]; exact (Below.refl _ _).alloc (by omega) _)
  have HO10 : Hid (OutW M M w10 (.slice (some ⟨M, 0, none⟩) 0 0) []) := Lib.hid ⟨by rw [← hw10, ← hMe]; simpa using own_new (base := w9.heap.size) (w := w9) #[] 28 (Nat.le_refl _) (by simp), fun p hp => by cases hp⟩
  have HP10 : Hid (([] : List (Value × List Bool)).map Prod.snd = seenM m lvs ns root ws 0) := Lib.hid rfl
  have HW10 := Lib.hid hw10
  have HME := Lib.hid hMe
  have hinfo : (Tryz.prog.info? 28).map (fun i => (i.zero, i.size, i.bytes)) = some (some (.slice none 0 0), 1, 24) := by kernel_rfl
  have HIN := Lib.hid hinfo
  obtain ⟨P, hP⟩ : ∃ P, 2 ^ m = P := ⟨_, rfl⟩
  have hpi : (2 : Int) ^ m = (P : Int) := by rw [← hP]; push_cast; rfl
  have hP32 : P ≤ 32 := by rw [← hP]; exact Nat.pow_le_pow_right (n := 2) (by omega) hm5
  have hsh : IntKind.i64.wrap ((2 : Int) ^ m) = (P : Int) := by rw [hpi]; exact IntWalk.i64_in _ ⟨by omega, by omega⟩
  have HPP := Lib.hid hP
  obtain ⟨K, hK⟩ : ∃ K, lvs.length + ns.length = K := ⟨_, rfl⟩
  have HKE := Lib.hid hK
  have HFO : Hid (∀ (q : Nat), ∃ ix : Nat, ix < ll ∧ lvs[ix]? = some (qV m lvs ns root q) ∧ ∀ (W : World) (u : Value), Bools (fun _ => True) W u (assM m q) → Below M w9 W → Calls Tryz.prog 9 #[.slice na nl nc, .int .i64 root, .int .i64 ll, u] W fun e w' => e = .returned (.int .i64 ix) ∧ Below W.heap.size W w') := Lib.hid fun q => by
    have ho := HOK.out
    have he := fol_end ho.back (fun v => (assM m q).getD v.toNat false) (lvs.length + ns.length) root ho.rt.1 ho.rt.2 (by have := ho.rt; omega)
    obtain ⟨ix, hix⟩ : ∃ n : Nat, folV ns lvs.length (fun v => (assM m q).getD v.toNat false) (lvs.length + ns.length) root = n := ⟨(folV ns lvs.length (fun v => (assM m q).getD v.toNat false) (lvs.length + ns.length) root).toNat, by omega⟩
    refine ⟨ix, by have := HLL.out; omega, ?_, fun W u hb hw => ?_⟩
    · unfold qV lfV
      rw [hix, show ((ix : Int)).toNat = ix from rfl]
      obtain ⟨v, hv⟩ : ∃ v, lvs[ix]? = some v := ⟨_, List.getElem?_eq_getElem (by omega)⟩
      rw [getD_some hv, hv]
    · have := follow_any _ _ (.slice na nl nc) u ns (assM m q) lvs.length root (lvs.length + ns.length) W (HIM.out W hw).2.1 hb ho.back ho.rt (by have := ho.hL; omega) (by have := ho.hn; omega) (fun f hf => by rw [assM_len]; exact ho.vr f hf) (by have := ho.rt; omega)
      rw [hix, ← HLL.out] at this
      exact this
  clear hHK hw10 hMe hinfo hP hpi hK k0 k1 k2 k3 k4 g0 g1 g2 HC9 hs9
  obtain ⟨k0, k1, k2, k3, k4, g0, g1, g2⟩ := HKM.out w9 (Below.refl _ _)
  go_wp2_with fail
  try rw [HME.out]
  rw [HW10.out]
  clear k0 k1 k2 k3 k4 g0 g1 g2
  go_loopg [11, 12] P (fun gg u11 u12 wx => ∃ (j : Nat) (lv : Value) (ps : List (Value × List Bool)), j + gg = P ∧ u12 = .int .i64 j ∧ u11 = lv ∧ Hid (Below M w9 wx) ∧ Hid (OutW M M wx lv ps) ∧ Hid (ps.map Prod.snd = seenM m lvs ns root ws j))
  case atStart => exact ⟨0, _, [], by omega, rfl, rfl, HB10, HO10, HP10⟩
  case round =>
  clear HB10 HO10 HP10
  obtain ⟨j, lv, ps, hjg, rfl, rfl, HB, HOM, HPM⟩ := hrel
  have hMw : M ≤ wr.heap.size := by have := HB.out.size; have := HME.out; omega
  obtain ⟨k0, k1, k2, k3, k4, g0, g1, g2⟩ := HKM.out wr HB.out
  obtain ⟨oa, oc, hoc⟩ := own_form HOM.out.1
  obtain ⟨pn, hpn⟩ : ∃ n, ps.length = n := ⟨_, rfl⟩
  rw [hpn] at hoc
  subst hoc
  have HPN := Lib.hid hpn
  have hpj : pn ≤ j := by
    have h1 := (seen_spec HOK.out (mt_ne HOK.out) j).2.1
    rw [← HPM.out, List.length_map, hpn] at h1
    exact h1
  by_cases hj : j < P
  case neg =>
    have hdj : decide ((j : Int) < P) = false := decide_eq_false (by omega)
    have hdj2 : decide (j < P) = false := decide_eq_false hj
    obtain rfl : j = P := by omega
    have hok := HOK.out
    have hct := projected_any (D + m + lvs.length + ns.length + 1) (ivl 0 (D + m + lvs.length + ns.length)) _ V D _ _ wr (by have := mtC_vs hok; rw [HD.out] at this; exact this) (fun v hv => by rw [ivl_mem] at hv; have := hok.hL; have := hok.hn; omega) (by rw [ivl_len]; omega) (HIM.out wr HB.out).2.2.2
      ⟨by have := canM_ln (mtC m lvs ns root ws); have := mtC_len hok; omega, fun d hd => by
        obtain ⟨_, c, hc, rfl⟩ := canM_iff.1 hd
        have h1 := claM_len c
        have h2 : c.length ≤ 3 := by
          unfold mtC at hc
          rcases List.mem_cons.1 hc with h | h
          · rw [h]; simp
          rcases List.mem_append.1 h with h | h
          · exact ndC_each _ _ _ _ _ c h
          · exact lfC_each _ _ _ _ c h
        omega⟩ (by omega)
    have hres : cntM (D + m + lvs.length + ns.length + 1) (ivl 0 D) (canM (mtC m lvs ns root ws)) = pn := by
      have h1 := mt_count hok (mt_ne hok) (D + m + lvs.length + ns.length + 1) (by rw [HD.out]; omega)
      rw [HD.out, HPP.out, ← HPM.out, List.length_map, hpn] at h1
      exact h1
    rw [hres] at hct
    have HCT := Lib.hid hct
    clear hct hres hok hpn HOM HPM k1 k2 k3 k4
    go_wp2_with fail
    refine HCT.out.mono ?_
    rintro e wz ⟨rfl, hbz⟩
    have HZ : Hid (Below (s + 2) W1 wz) := Lib.hid (HB9.out.trans ((HB.out.trans (hbz.mono hMw)).mono (by omega)))
    clear hbz HCT
    go_wp2_with fail
    go_ret
    exact ⟨rfl, HP.out _ HZ.out⟩
  have hdj : decide ((j : Int) < P) = true := decide_eq_true (by omega)
  have hdj2 : decide (j < P) = true := decide_eq_true hj
  obtain ⟨ix, hix, hvx, hfo⟩ := HFO.out j
  obtain ⟨v, hv⟩ : ∃ v, qV m lvs ns root j = v := ⟨_, rfl⟩
  rw [hv] at hvx
  obtain ⟨eb2, eo2, heq, _, hebl, e0, _⟩ := (HIM.out w9 (Below.refl _ _)).1.at hvx
  injection heq with heq
  injection heq with heb heo
  subst heb heo
  have hebM : eb < M := by rw [← HME.out]; exact hebl
  have hx0 : (0 : Int) ≤ (ix : Int) := by omega
  have hx1 : (ix : Int) < ll := by omega
  have HFJ := Lib.hid hfo
  have HAS := Lib.hid fun W => assign_any m j W (by omega) (by omega)
  have HKR : Hid (∀ W, Below M w9 W → W.cell? ⟨s, 0, none⟩ = some (.int .i64 m) ∧ W.cell? ⟨s, 1, none⟩ = some (.slice (some ⟨eb, eo, none⟩) ll lc) ∧ W.cell? ⟨s, 2, none⟩ = some (.slice na nl nc) ∧ W.cell? ⟨s, 3, none⟩ = some (.int .i64 root) ∧ W.cell? ⟨eb, eo + ix, none⟩ = some (.int .i64 v)) := Lib.hid fun W h => by
    obtain ⟨a0, a1, a2, a3, _⟩ := HKM.out W h
    exact ⟨a0, a1, a2, a3, below_c h hebM e0⟩
  have HVV := Lib.hid hv
  have hvv : v < wl ∧ I64 v := ⟨by have := HFW.out v (List.mem_of_getElem? hvx); rw [HWL.out]; exact this, (HIM.out wr HB.out).1.2 v (List.mem_of_getElem? hvx)⟩
  clear hfo hv hvx e0 hebl hpn
  go_upto_region 27 with fail
  go_cut [13] from 144 to 160 (fun u13 wx => ∃ p : Nat, u13 = .pointer (some ⟨p, 0, none⟩) ∧ Hid (Below M w9 wx) ∧ Hid (OutW M M wx (.slice oa pn oc) ps) ∧ Hid (wx.cell? ⟨p, 0, none⟩ = some (.int .i64 v)) ∧ Hid (p < wx.heap.size))
  case first =>
    refine wp_region_held_drew (S := fun w' => w'.cell? ⟨s, 0, none⟩ = some (.int .i64 m) ∧ w'.cell? ⟨s, 1, none⟩ = some (.slice (some ⟨eb, eo, none⟩) ll lc) ∧ w'.cell? ⟨s, 2, none⟩ = some (.slice na nl nc) ∧ w'.cell? ⟨s, 3, none⟩ = some (.int .i64 root) ∧ w'.cell? ⟨eb, eo + ix, none⟩ = some (.int .i64 v)) (by kernel_rfl) (by exact HKR.out _ (below_drew HB.out)) (fun hHeld => ?_)
    refine wpAnyH_take (i := 0) (v := ?_) rfl (by kernel_rfl) (by kernel_rfl) (by kernel_rfl) (fun _ _ _ h => h) (Or.inl ⟨by rfl, ?_⟩) (by assumption) ?_
    rotate_left
    · intro w hSw
      try dsimp only at hSw
      go_simp
      try with_reducible rfl
    try simp only [Act.put, List.getElem_toArray, List.getElem_cons_succ, List.getElem_cons_zero, List.setIfInBounds_toArray, List.set_cons_zero, List.set_cons_succ]
    refine wpAnyH_take (i := 1) (v := ?_) rfl (by kernel_rfl) (by kernel_rfl) (by kernel_rfl) (fun _ _ _ h => h) (Or.inl ⟨by rfl, ?_⟩) (by assumption) ?_
    rotate_left
    · intro w hSw
      try dsimp only at hSw
      go_simp
      try with_reducible rfl
    try simp only [Act.put, List.getElem_toArray, List.getElem_cons_succ, List.getElem_cons_zero, List.setIfInBounds_toArray, List.set_cons_zero, List.set_cons_succ]
    refine wpAnyH_take (i := 2) (v := ?_) rfl (by kernel_rfl) (by kernel_rfl) (by kernel_rfl) (fun _ _ _ h => h) (Or.inl ⟨by rfl, ?_⟩) (by assumption) ?_
    rotate_left
    · intro w hSw
      try dsimp only at hSw
      go_simp
      try with_reducible rfl
    try simp only [Act.put, List.getElem_toArray, List.getElem_cons_succ, List.getElem_cons_zero, List.setIfInBounds_toArray, List.set_cons_zero, List.set_cons_succ]
    refine wpAnyH_take (i := 3) (v := ?_) rfl (by kernel_rfl) (by kernel_rfl) (by kernel_rfl) (fun _ _ _ h => h) (Or.inl ⟨by rfl, ?_⟩) (by assumption) ?_
    rotate_left
    · intro w hSw
      try dsimp only at hSw
      go_simp
      try with_reducible rfl
    try simp only [Act.put, List.getElem_toArray, List.getElem_cons_succ, List.getElem_cons_zero, List.setIfInBounds_toArray, List.set_cons_zero, List.set_cons_succ]
    refine wpAnyH_take (i := 4) (v := ?_) rfl (by kernel_rfl) (by kernel_rfl) (by kernel_rfl) (fun _ _ _ h => h) (Or.inl ⟨by rfl, ?_⟩) (by assumption) ?_
    rotate_left
    · intro w hSw
      try dsimp only at hSw
      go_simp
      try with_reducible rfl
    try simp only [Act.put, List.getElem_toArray, List.getElem_cons_succ, List.getElem_cons_zero, List.setIfInBounds_toArray, List.set_cons_zero, List.set_cons_succ]
    refine wpAnyH_take (i := 5) (v := ?_) rfl (by kernel_rfl) (by kernel_rfl) (by kernel_rfl) (fun _ _ _ h => h) (Or.inl ⟨by rfl, ?_⟩) (by assumption) ?_
    rotate_left
    · intro w hSw
      try dsimp only at hSw
      go_simp
      try with_reducible rfl
    try simp only [Act.put, List.getElem_toArray, List.getElem_cons_succ, List.getElem_cons_zero, List.setIfInBounds_toArray, List.set_cons_zero, List.set_cons_succ]
    refine wpAnyH_take (i := 6) (v := ?_) rfl (by kernel_rfl) (by kernel_rfl) (by kernel_rfl) (fun _ _ _ h => h) (Or.inl ⟨by rfl, ?_⟩) (by assumption) ?_
    rotate_left
    · intro w hSw
      try dsimp only at hSw
      go_simp
      try with_reducible rfl
    try simp only [Act.put, List.getElem_toArray, List.getElem_cons_succ, List.getElem_cons_zero, List.setIfInBounds_toArray, List.set_cons_zero, List.set_cons_succ]
    refine wpAnyH_take (i := 7) (v := ?_) rfl (by kernel_rfl) (by kernel_rfl) (by kernel_rfl) (fun _ _ _ h => h) (Or.inl ⟨by rfl, ?_⟩) (by assumption) ?_
    rotate_left
    · intro w hSw
      try dsimp only at hSw
      go_simp
      try with_reducible rfl
    try simp only [Act.put, List.getElem_toArray, List.getElem_cons_succ, List.getElem_cons_zero, List.setIfInBounds_toArray, List.set_cons_zero, List.set_cons_succ]
    refine wpAnyH_take (i := 8) (v := ?_) rfl (by kernel_rfl) (by kernel_rfl) (by kernel_rfl) (fun _ _ _ h => h) (Or.inl ⟨by rfl, ?_⟩) (by assumption) ?_
    rotate_left
    · intro w hSw
      try dsimp only at hSw
      go_simp
      try with_reducible rfl
    try simp only [Act.put, List.getElem_toArray, List.getElem_cons_succ, List.getElem_cons_zero, List.setIfInBounds_toArray, List.set_cons_zero, List.set_cons_succ]
    refine wpAnyH_take (i := 9) (v := ?_) rfl (by kernel_rfl) (by kernel_rfl) (by kernel_rfl) (fun _ _ _ h => h) (Or.inl ⟨by rfl, ?_⟩) (by assumption) ?_
    rotate_left
    · intro w hSw
      try dsimp only at hSw
      go_simp
      try with_reducible rfl
    try simp only [Act.put, List.getElem_toArray, List.getElem_cons_succ, List.getElem_cons_zero, List.setIfInBounds_toArray, List.set_cons_zero, List.set_cons_succ]
    refine wpAnyH_take (i := 10) (v := ?_) rfl (by kernel_rfl) (by kernel_rfl) (by kernel_rfl) (fun _ _ _ h => h) (Or.inl ⟨by rfl, ?_⟩) (by assumption) ?_
    rotate_left
    · intro w hSw
      try dsimp only at hSw
      go_simp
      try with_reducible rfl
    try simp only [Act.put, List.getElem_toArray, List.getElem_cons_succ, List.getElem_cons_zero, List.setIfInBounds_toArray, List.set_cons_zero, List.set_cons_succ]
    refine wpAnyH_take (i := 11) (v := ?_) rfl (by kernel_rfl) (by kernel_rfl) (by kernel_rfl) (fun _ _ _ h => h) (Or.inl ⟨by rfl, ?_⟩) (by assumption) ?_
    rotate_left
    · intro w hSw
      try dsimp only at hSw
      go_simp
      try with_reducible rfl
    try simp only [Act.put, List.getElem_toArray, List.getElem_cons_succ, List.getElem_cons_zero, List.setIfInBounds_toArray, List.set_cons_zero, List.set_cons_succ]
    refine wpAnyH_ready (rs := [12, 16]) (by kernel_rfl) (by simp) ?_
    refine AllReadyH.cons rfl (fun K hK => ?_) (AllReadyH.cons rfl (fun K hK => ?_) AllReadyH.nil)
    · obtain ⟨x0, hx0w⟩ : ∃ W, wr.drew = W := ⟨_, rfl⟩
      have hBX : Below wr.heap.size wr x0 := by rw [← hx0w]; exact below_drew (Below.refl _ _)
      try rw [hx0w]
      clear hx0w
      go_simp
      go_at_call 10
      refine (HAS.out _).mono ?_
      rintro e y12 ⟨iv, rfl, hbo, hb5⟩
      obtain ⟨ia, ic, rfl, _⟩ := hbo.form
      have hbo : Bools (fun _ => True) y12 _ (assM m j) := hbo.mono fun _ _ => trivial
      have hBX : Below wr.heap.size wr y12 := hBX.trans (hb5.mono hBX.size)
      clear hb5
      go_wp2_with fail
      refine hK.out _ _ (by exact HKR.out _ (HB.out.trans (hBX.mono hMw))) (fun _ => ?_)
      clear hK K
      try simp only [Act.put, List.getElem_toArray, List.getElem_cons_succ, List.getElem_cons_zero, List.setIfInBounds_toArray, List.set_cons_zero, List.set_cons_succ]
      refine wpAnyH_ready (rs := [13, 16]) (by kernel_rfl) (by simp) ?_
      refine AllReadyH.cons rfl (fun K hK => ?_) (AllReadyH.cons rfl (fun K hK => ?_) AllReadyH.nil)
      · go_simp
        go_at_call 9
        refine (HFJ.out _ _ hbo (HB.out.trans (hBX.mono hMw))).mono ?_
        rintro e y13 ⟨rfl, hb6⟩
        have hBX : Below wr.heap.size wr y13 := hBX.trans (hb6.mono hBX.size)
        clear hb6 hbo
        go_wp2_with fail
        refine hK.out _ _ (by exact HKR.out _ (HB.out.trans (hBX.mono hMw))) (fun _ => ?_)
        clear hK K
        try simp only [Act.put, List.getElem_toArray, List.getElem_cons_succ, List.getElem_cons_zero, List.setIfInBounds_toArray, List.set_cons_zero, List.set_cons_succ]
        refine wpAnyH_take (i := 14) (v := ?_) rfl (by kernel_rfl) (by kernel_rfl) (by kernel_rfl) (fun _ _ _ h => h) (Or.inl ⟨by rfl, ?_⟩) (by assumption) ?_
        rotate_left
        · intro w hSw
          try dsimp only at hSw
          go_simp
          try with_reducible rfl
        try simp only [Act.put, List.getElem_toArray, List.getElem_cons_succ, List.getElem_cons_zero, List.setIfInBounds_toArray, List.set_cons_zero, List.set_cons_succ]
        refine wpAnyH_take (i := 15) (v := ?_) rfl (by kernel_rfl) (by kernel_rfl) (by kernel_rfl) (fun _ _ _ h => h) (Or.inl ⟨by rfl, ?_⟩) (by assumption) ?_
        rotate_left
        · intro w hSw
          try dsimp only at hSw
          go_simp
          try with_reducible rfl
        try simp only [Act.put, List.getElem_toArray, List.getElem_cons_succ, List.getElem_cons_zero, List.setIfInBounds_toArray, List.set_cons_zero, List.set_cons_succ]
        refine wpAnyH_ready (rs := [16]) (by kernel_rfl) (by simp) ?_
        refine AllReadyH.cons rfl (fun K hK => ?_) AllReadyH.nil
        go_simp
        obtain ⟨p, hp⟩ : ∃ b, y13.heap.size = b := ⟨_, rfl⟩
        obtain ⟨y16, hnew⟩ : ∃ W, y13.alloc (.cells #[.int .i64 0] 3) = W := ⟨_, rfl⟩
        have hbn : Below y13.heap.size y13 y16 := by rw [← hnew]; exact (Below.refl _ _).alloc (Nat.le_refl _) _
        have hq : y16.heap[p]? = some (.cells #[.int .i64 0] 3) := by rw [← hnew, ← hp]; exact new_at _ _
        have hpw : wr.heap.size ≤ p := by rw [← hp]; exact hBX.size
        have hBX : Below wr.heap.size wr y16 := hBX.trans (hbn.mono hBX.size)
        try rw [hp]
        try rw [hnew]
        clear hnew hbn hp
        refine hK.out _ _ (by exact HKR.out _ (HB.out.trans (hBX.mono hMw))) (fun _ => ?_)
        clear hK K
        try simp only [Act.put, List.getElem_toArray, List.getElem_cons_succ, List.getElem_cons_zero, List.setIfInBounds_toArray, List.set_cons_zero, List.set_cons_succ]
        refine wpAnyH_ready (rs := [17]) (by kernel_rfl) (by simp) ?_
        refine AllReadyH.cons rfl (fun K hK => ?_) AllReadyH.nil
        have hcp : y16.cell? ⟨p, 0, none⟩ = some (.int .i64 0) := cell_of hq rfl
        have hfp : ∀ o, y16.frozen? ⟨p, o, none⟩ = false := froz_of hq
        go_simp
        have hBY : Below wr.heap.size wr (y16.setCell ⟨p, 0, none⟩ (.int .i64 v)) := hBX.setCell (show wr.heap.size ≤ p from hpw) _
        refine hK.out _ _ (by exact HKR.out _ (HB.out.trans (hBY.mono hMw))) (fun _ => ?_)
        clear hK K
        try simp only [Act.put, List.getElem_toArray, List.getElem_cons_succ, List.getElem_cons_zero, List.setIfInBounds_toArray, List.set_cons_zero, List.set_cons_succ]
        refine wpAnyH_done (by kernel_rfl) ?_ _
        have HBF : Hid (Below M w9 (y16.setCell ⟨p, 0, none⟩ (.int .i64 v))) := Lib.hid (HB.out.trans (hBY.mono hMw))
        have HOF : Hid (OutW M M (y16.setCell ⟨p, 0, none⟩ (.int .i64 v)) (.slice oa pn oc) ps) := Lib.hid (HOM.out.below hBY)
        have HPF : Hid ((y16.setCell ⟨p, 0, none⟩ (.int .i64 v)).cell? ⟨p, 0, none⟩ = some (.int .i64 v)) := Lib.hid (set_eq hcp)
        have HSF : Hid (p < (y16.setCell ⟨p, 0, none⟩ (.int .i64 v)).heap.size) := Lib.hid (by have := (Array.getElem?_eq_some_iff.1 hq).1; simpa using this)
        clear hBX hBY hq hcp hfp
        go_wp2_with fail
        go_meet
        exact ⟨p, rfl, HBF, HOF, HPF, HSF⟩
      · go_simp
        obtain ⟨p, hp⟩ : ∃ b, y12.heap.size = b := ⟨_, rfl⟩
        obtain ⟨y16, hnew⟩ : ∃ W, y12.alloc (.cells #[.int .i64 0] 3) = W := ⟨_, rfl⟩
        have hbn : Below y12.heap.size y12 y16 := by rw [← hnew]; exact (Below.refl _ _).alloc (Nat.le_refl _) _
        have hq : y16.heap[p]? = some (.cells #[.int .i64 0] 3) := by rw [← hnew, ← hp]; exact new_at _ _
        have hpw : wr.heap.size ≤ p := by rw [← hp]; exact hBX.size
        have hbo := hbo.below hbn
        have hBX : Below wr.heap.size wr y16 := hBX.trans (hbn.mono hBX.size)
        try rw [hp]
        try rw [hnew]
        clear hnew hbn hp
        refine hK.out _ _ (by exact HKR.out _ (HB.out.trans (hBX.mono hMw))) (fun _ => ?_)
        clear hK K
        try simp only [Act.put, List.getElem_toArray, List.getElem_cons_succ, List.getElem_cons_zero, List.setIfInBounds_toArray, List.set_cons_zero, List.set_cons_succ]
        refine wpAnyH_ready (rs := [13]) (by kernel_rfl) (by simp) ?_
        refine AllReadyH.cons rfl (fun K hK => ?_) AllReadyH.nil
        go_simp
        go_at_call 9
        refine (HFJ.out _ _ hbo (HB.out.trans (hBX.mono hMw))).mono ?_
        rintro e y13 ⟨rfl, hb6⟩
        have hBX : Below wr.heap.size wr y13 := hBX.trans (hb6.mono hBX.size)
        have hq := (hb6.block p (Array.getElem?_eq_some_iff.1 hq).1).trans hq
        clear hb6 hbo
        go_wp2_with fail
        refine hK.out _ _ (by exact HKR.out _ (HB.out.trans (hBX.mono hMw))) (fun _ => ?_)
        clear hK K
        try simp only [Act.put, List.getElem_toArray, List.getElem_cons_succ, List.getElem_cons_zero, List.setIfInBounds_toArray, List.set_cons_zero, List.set_cons_succ]
        refine wpAnyH_take (i := 14) (v := ?_) rfl (by kernel_rfl) (by kernel_rfl) (by kernel_rfl) (fun _ _ _ h => h) (Or.inl ⟨by rfl, ?_⟩) (by assumption) ?_
        rotate_left
        · intro w hSw
          try dsimp only at hSw
          go_simp
          try with_reducible rfl
        try simp only [Act.put, List.getElem_toArray, List.getElem_cons_succ, List.getElem_cons_zero, List.setIfInBounds_toArray, List.set_cons_zero, List.set_cons_succ]
        refine wpAnyH_take (i := 15) (v := ?_) rfl (by kernel_rfl) (by kernel_rfl) (by kernel_rfl) (fun _ _ _ h => h) (Or.inl ⟨by rfl, ?_⟩) (by assumption) ?_
        rotate_left
        · intro w hSw
          try dsimp only at hSw
          go_simp
          try with_reducible rfl
        try simp only [Act.put, List.getElem_toArray, List.getElem_cons_succ, List.getElem_cons_zero, List.setIfInBounds_toArray, List.set_cons_zero, List.set_cons_succ]
        refine wpAnyH_ready (rs := [17]) (by kernel_rfl) (by simp) ?_
        refine AllReadyH.cons rfl (fun K hK => ?_) AllReadyH.nil
        have hcp : y13.cell? ⟨p, 0, none⟩ = some (.int .i64 0) := cell_of hq rfl
        have hfp : ∀ o, y13.frozen? ⟨p, o, none⟩ = false := froz_of hq
        go_simp
        have hBY : Below wr.heap.size wr (y13.setCell ⟨p, 0, none⟩ (.int .i64 v)) := hBX.setCell (show wr.heap.size ≤ p from hpw) _
        refine hK.out _ _ (by exact HKR.out _ (HB.out.trans (hBY.mono hMw))) (fun _ => ?_)
        clear hK K
        try simp only [Act.put, List.getElem_toArray, List.getElem_cons_succ, List.getElem_cons_zero, List.setIfInBounds_toArray, List.set_cons_zero, List.set_cons_succ]
        refine wpAnyH_done (by kernel_rfl) ?_ _
        have HBF : Hid (Below M w9 (y13.setCell ⟨p, 0, none⟩ (.int .i64 v))) := Lib.hid (HB.out.trans (hBY.mono hMw))
        have HOF : Hid (OutW M M (y13.setCell ⟨p, 0, none⟩ (.int .i64 v)) (.slice oa pn oc) ps) := Lib.hid (HOM.out.below hBY)
        have HPF : Hid ((y13.setCell ⟨p, 0, none⟩ (.int .i64 v)).cell? ⟨p, 0, none⟩ = some (.int .i64 v)) := Lib.hid (set_eq hcp)
        have HSF : Hid (p < (y13.setCell ⟨p, 0, none⟩ (.int .i64 v)).heap.size) := Lib.hid (by have := (Array.getElem?_eq_some_iff.1 hq).1; simpa using this)
        clear hBX hBY hq hcp hfp
        go_wp2_with fail
        go_meet
        exact ⟨p, rfl, HBF, HOF, HPF, HSF⟩
    · obtain ⟨x0, hx0w⟩ : ∃ W, wr.drew = W := ⟨_, rfl⟩
      have hBX : Below wr.heap.size wr x0 := by rw [← hx0w]; exact below_drew (Below.refl _ _)
      try rw [hx0w]
      clear hx0w
      go_simp
      obtain ⟨p, hp⟩ : ∃ b, x0.heap.size = b := ⟨_, rfl⟩
      obtain ⟨y16, hnew⟩ : ∃ W, x0.alloc (.cells #[.int .i64 0] 3) = W := ⟨_, rfl⟩
      have hbn : Below x0.heap.size x0 y16 := by rw [← hnew]; exact (Below.refl _ _).alloc (Nat.le_refl _) _
      have hq : y16.heap[p]? = some (.cells #[.int .i64 0] 3) := by rw [← hnew, ← hp]; exact new_at _ _
      have hpw : wr.heap.size ≤ p := by rw [← hp]; exact hBX.size
      have hBX : Below wr.heap.size wr y16 := hBX.trans (hbn.mono hBX.size)
      try rw [hp]
      try rw [hnew]
      clear hnew hbn hp
      refine hK.out _ _ (by exact HKR.out _ (HB.out.trans (hBX.mono hMw))) (fun _ => ?_)
      clear hK K
      try simp only [Act.put, List.getElem_toArray, List.getElem_cons_succ, List.getElem_cons_zero, List.setIfInBounds_toArray, List.set_cons_zero, List.set_cons_succ]
      refine wpAnyH_ready (rs := [12]) (by kernel_rfl) (by simp) ?_
      refine AllReadyH.cons rfl (fun K hK => ?_) AllReadyH.nil
      go_simp
      go_at_call 10
      refine (HAS.out _).mono ?_
      rintro e y12 ⟨iv, rfl, hbo, hb5⟩
      obtain ⟨ia, ic, rfl, _⟩ := hbo.form
      have hbo : Bools (fun _ => True) y12 _ (assM m j) := hbo.mono fun _ _ => trivial
      have hBX : Below wr.heap.size wr y12 := hBX.trans (hb5.mono hBX.size)
      have hq := (hb5.block p (Array.getElem?_eq_some_iff.1 hq).1).trans hq
      clear hb5
      go_wp2_with fail
      refine hK.out _ _ (by exact HKR.out _ (HB.out.trans (hBX.mono hMw))) (fun _ => ?_)
      clear hK K
      try simp only [Act.put, List.getElem_toArray, List.getElem_cons_succ, List.getElem_cons_zero, List.setIfInBounds_toArray, List.set_cons_zero, List.set_cons_succ]
      refine wpAnyH_ready (rs := [13]) (by kernel_rfl) (by simp) ?_
      refine AllReadyH.cons rfl (fun K hK => ?_) AllReadyH.nil
      go_simp
      go_at_call 9
      refine (HFJ.out _ _ hbo (HB.out.trans (hBX.mono hMw))).mono ?_
      rintro e y13 ⟨rfl, hb6⟩
      have hBX : Below wr.heap.size wr y13 := hBX.trans (hb6.mono hBX.size)
      have hq := (hb6.block p (Array.getElem?_eq_some_iff.1 hq).1).trans hq
      clear hb6 hbo
      go_wp2_with fail
      refine hK.out _ _ (by exact HKR.out _ (HB.out.trans (hBX.mono hMw))) (fun _ => ?_)
      clear hK K
      try simp only [Act.put, List.getElem_toArray, List.getElem_cons_succ, List.getElem_cons_zero, List.setIfInBounds_toArray, List.set_cons_zero, List.set_cons_succ]
      refine wpAnyH_take (i := 14) (v := ?_) rfl (by kernel_rfl) (by kernel_rfl) (by kernel_rfl) (fun _ _ _ h => h) (Or.inl ⟨by rfl, ?_⟩) (by assumption) ?_
      rotate_left
      · intro w hSw
        try dsimp only at hSw
        go_simp
        try with_reducible rfl
      try simp only [Act.put, List.getElem_toArray, List.getElem_cons_succ, List.getElem_cons_zero, List.setIfInBounds_toArray, List.set_cons_zero, List.set_cons_succ]
      refine wpAnyH_take (i := 15) (v := ?_) rfl (by kernel_rfl) (by kernel_rfl) (by kernel_rfl) (fun _ _ _ h => h) (Or.inl ⟨by rfl, ?_⟩) (by assumption) ?_
      rotate_left
      · intro w hSw
        try dsimp only at hSw
        go_simp
        try with_reducible rfl
      try simp only [Act.put, List.getElem_toArray, List.getElem_cons_succ, List.getElem_cons_zero, List.setIfInBounds_toArray, List.set_cons_zero, List.set_cons_succ]
      refine wpAnyH_ready (rs := [17]) (by kernel_rfl) (by simp) ?_
      refine AllReadyH.cons rfl (fun K hK => ?_) AllReadyH.nil
      have hcp : y13.cell? ⟨p, 0, none⟩ = some (.int .i64 0) := cell_of hq rfl
      have hfp : ∀ o, y13.frozen? ⟨p, o, none⟩ = false := froz_of hq
      go_simp
      have hBY : Below wr.heap.size wr (y13.setCell ⟨p, 0, none⟩ (.int .i64 v)) := hBX.setCell (show wr.heap.size ≤ p from hpw) _
      refine hK.out _ _ (by exact HKR.out _ (HB.out.trans (hBY.mono hMw))) (fun _ => ?_)
      clear hK K
      try simp only [Act.put, List.getElem_toArray, List.getElem_cons_succ, List.getElem_cons_zero, List.setIfInBounds_toArray, List.set_cons_zero, List.set_cons_succ]
      refine wpAnyH_done (by kernel_rfl) ?_ _
      have HBF : Hid (Below M w9 (y13.setCell ⟨p, 0, none⟩ (.int .i64 v))) := Lib.hid (HB.out.trans (hBY.mono hMw))
      have HOF : Hid (OutW M M (y13.setCell ⟨p, 0, none⟩ (.int .i64 v)) (.slice oa pn oc) ps) := Lib.hid (HOM.out.below hBY)
      have HPF : Hid ((y13.setCell ⟨p, 0, none⟩ (.int .i64 v)).cell? ⟨p, 0, none⟩ = some (.int .i64 v)) := Lib.hid (set_eq hcp)
      have HSF : Hid (p < (y13.setCell ⟨p, 0, none⟩ (.int .i64 v)).heap.size) := Lib.hid (by have := (Array.getElem?_eq_some_iff.1 hq).1; simpa using this)
      clear hBX hBY hq hcp hfp
      go_wp2_with fail
      go_meet
      exact ⟨p, rfl, HBF, HOF, HPF, HSF⟩
  case rest =>
  obtain ⟨p, hu13, HBC, HOC, HPC, HPS⟩ := hcut
  subst hu13
  have hMc : M ≤ wc.heap.size := by have := HBC.out.size; have := HME.out; omega
  obtain ⟨k0, k1, k2, k3, k4, _, _, _⟩ := HKM.out wc HBC.out
  have kp := HPC.out
  have hpc := HPS.out
  clear HOM HB HKR HAS HFJ
  have hjj : IntKind.i64.wrap ((j : Int) + 1) = (j : Int) + 1 := IntWalk.i64_in _ ⟨by omega, by omega⟩
  by_cases hv0 : v < 0
  · have hdv : decide ((0 : Int) ≤ v) = false := decide_eq_false (by omega)
    have HPJ : Hid (ps.map Prod.snd = seenM m lvs ns root ws (j + 1)) := Lib.hid (by
      rw [seenM, HVV.out, if_neg (fun h => by have := h.1; omega)]
      exact HPM.out)
    clear hv0 HPM
    go_wp2_with fail
    go_roundg (gk - 1)
    case measure => omega
    case rel => exact ⟨j + 1, _, ps, by omega, by go_num, rfl, HBC, HOC, HPJ⟩
  have hdv : decide ((0 : Int) ≤ v) = true := decide_eq_true (by omega)
  obtain ⟨k, rfl⟩ : ∃ k : Nat, v = k := ⟨v.toNat, by omega⟩
  have hkw : k < wl := by have := hvv.1; omega
  have hkw0 : (0 : Int) ≤ k := by omega
  have hkw1 : (k : Int) < wl := by omega
  obtain ⟨word, hwd⟩ : ∃ x, ws[k]? = some x := ⟨_, List.getElem?_eq_getElem (by have := HWL.out; omega)⟩
  obtain ⟨xb, xo, xu, rfl, _, hxb, xc, xr⟩ := (HIM.out wc HBC.out).2.2.1.at hwd
  obtain ⟨xa, xcp, rfl, _⟩ := xr.form
  obtain ⟨xn, hxn⟩ : ∃ n, word.length = n := ⟨_, rfl⟩
  rw [hxn] at xc xr
  have hcf := containsfK_any (fun _ => True) (fun y => y == word) (s + 1) p _ _ wc (HOC.out.wds (by rw [HPN.out]; omega)) (fun nq u y hy hyb => seen1_any _ _ (s + 1) p _ wl wk k ws word u y (wc.drewN nq) k4 kp ((HIM.out wc HBC.out).2.2.1.below (below_drewN (Below.refl _ _) nq)) hwd HWL.out hyb)
  obtain ⟨Q, hQ⟩ : ∃ b, (ps.map Prod.snd).any (fun y => y == word) = b := ⟨_, rfl⟩
  rw [hQ] at hcf
  have HQ : Hid (Q = true ↔ word ∈ seenM m lvs ns root ws j) := Lib.hid (by rw [← hQ, HPM.out, List.any_eq_true]; constructor; (rintro ⟨y, h1, h2⟩; rw [← eq_of_beq h2]; exact h1); (intro h; exact ⟨word, h, by simp⟩))
  have HWD : Hid (ws.getD (qV m lvs ns root j).toNat [] = word) := Lib.hid (by rw [HVV.out, show ((k : Int)).toNat = k from rfl, getD_some hwd])
  have HXR := Lib.hid xr
  have HCF := Lib.hid hcf
  have HXB := Lib.hid hxb
  clear hv0 hwd hxn hQ hcf xr hxb
  go_wp2_with fail
  refine HCF.out.mono ?_
  rintro e w11 ⟨rfl, nd, rfl⟩
  obtain ⟨w11, hw11⟩ : ∃ W, wc.drewN nd = W := ⟨_, rfl⟩
  rw [hw11]
  have hb11 : Below wc.heap.size wc w11 := by rw [← hw11]; exact below_drewN (Below.refl _ _) nd
  have k0 := below_c hb11 (block_lt k0) k0
  have k4 := below_c hb11 (block_lt k4) k4
  have kp := below_c hb11 hpc kp
  have xc := below_c hb11 (block_lt xc) xc
  have HB11 : Hid (Below M w9 w11) := Lib.hid (HBC.out.trans (hb11.mono hMc))
  have HO11 := Lib.hid (HOC.out.below hb11)
  have HX11 : Hid (Bools (fun b => b < M) w11 (.slice xa xn xcp) word) := Lib.hid (HXR.out.move fun b _ hl => hb11.block b hl)
  clear hw11 hb11 HCF HXR HBC HOC k1 k2 k3
  rcases bool2 Q with rfl | rfl
  · have HPJ : Hid (ps.map Prod.snd = seenM m lvs ns root ws (j + 1)) := Lib.hid (by
      rw [seenM, HWD.out, if_neg (fun h => h.2 (HQ.out.1 rfl))]
      exact HPM.out)
    clear HPM
    go_wp2_with fail
    go_roundg (gk - 1)
    case measure => omega
    case rel => exact ⟨j + 1, _, ps, by omega, by go_num, rfl, HB11, HO11, HPJ⟩
  have HPJ : Hid (∀ u : Value, (ps ++ [(u, word)]).map Prod.snd = seenM m lvs ns root ws (j + 1)) := Lib.hid fun u => by
    rw [seenM, HWD.out, if_pos ⟨by rw [HVV.out]; omega, fun h => by have := HQ.out.2 h; cases this⟩, List.map_append, HPM.out]
    rfl
  have hown := HO11.out.1
  rw [HPN.out] at hown
  have hM11 : M ≤ w11.heap.size := by have := HB11.out.size; have := HME.out; omega
  clear HPM
  go_wp2_with (at_builtin; go_loud (refine wpList_push1 rfl _ _ 26 rfl 28 (.slice none 0 0) 24 Tryz.underlying26 HIN.out rfl M (.slice oa pn oc) pn (ps.map Prod.fst) w11 (.slice xa xn xcp) rfl rfl hown rfl (by omega) (by omega) (by omega) ?_); intro g12 cap12 w12 hown12 hg12 hs12 hgb hgl hat; have HB12 := Lib.hid (HB11.out.grown hg12 (by omega) (fun k hk => (hown.lt k hk).1)); have HO12 := Lib.hid (HO11.out.push (Nat.le_refl M) HPN.out HX11.out hown12 hg12); have k0 := grown_cell hg12 (fun e => by have := (hown.lt _ e.symm).1; omega) k0; clear hown12 hg12 hown hat)
  go_roundg (gk - 1)
  case measure => omega
  case rel => exact ⟨j + 1, _, _, by omega, by go_num, rfl, HB12, HO12, Lib.hid (HPJ.out _)⟩

end Go.Proofs.YteadlkecngfcoaaGreat
