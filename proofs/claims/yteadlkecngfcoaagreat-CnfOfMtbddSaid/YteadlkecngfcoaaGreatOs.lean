/- Walks: ContainsFunc over words and leaves at the closures of cnf.OfMtbdd; mtbdd.Check. No condition but the sizes. -/
import Derived.Test.YteadlkecngfcoaaGreatOp
namespace Go.Proofs.YteadlkecngfcoaaGreat
open Go.ChangeShapes Go.WideShapes Go.ChangeAt Go.RowKit
set_option linter.unusedVariables false
set_option linter.unusedSimpArgs false

/-- words in memory -/
def Wds (F : Nat → Prop) (w : World) (v : Value) (ws : List (List Bool)) : Prop := Rows1 Bools F w v ws
section wds
variable {F G : Nat → Prop} {w w' : World} {v : Value} {xs : List (List Bool)}
theorem Wds.below (h : Wds F w v xs) (hb : Below w.heap.size w w') : Wds F w' v xs := Rows1.move (fun _ _ _ _ _ h hm => h.move hm) h fun b _ hl => hb.block b hl
theorem Wds.form2 (h : Wds F w v xs) : ∃ a n c, v = .slice a n c ∧ Hid (n = xs.length) ∧ n ≤ 9223372036854775807 := by
  obtain ⟨a, c, h1, h2⟩ := h.form
  exact ⟨a, _, c, h1, rfl, h2⟩
theorem Wds.lt2 (h : Wds F w v xs) : Wds (fun b => b < w.heap.size) w v xs := by
  obtain ⟨us, h1, h2, h3⟩ := h
  exact ⟨us, h1.lt.mono fun _ h => h.2, h2, fun j u x hu hx => (h3 j u x hu hx).lt.mono fun _ h => h.2⟩
theorem Wds.at {a : Option Addr} {n cap k : Nat} {x : List Bool} (h : Wds F w (.slice a n cap) xs) (hx : xs[k]? = some x) :
    ∃ b off u, a = some ⟨b, off, none⟩ ∧ F b ∧ b < w.heap.size ∧ w.cell? ⟨b, off + k, none⟩ = some u ∧ Bools F w u x := Rows1.at h hx
end wds
def pGoA {α : Type} (P : α → Bool) : List α → Nat → Int
  | [], _ => -1
  | x :: r, i => if P x = true then i else pGoA P r (i + 1)
theorem pGoA_any {α : Type} (P : α → Bool) : ∀ (xs : List α) (i : Nat), decide (0 ≤ pGoA P xs i) = xs.any P
  | [], i => by simp [pGoA]
  | x :: r, i => by
    rw [pGoA, List.any_cons]
    by_cases h : P x = true
    · rw [if_pos h, h]; simp
    · rw [if_neg h, pGoA_any P r (i + 1)]; simp [h]
set_option maxHeartbeats 1000000 in
theorem indexfW_any (F : Nat → Prop) (P : List Bool → Bool) (g : Nat) (v : Value) (xs : List (List Bool)) (w : World) (hx : Wds F w v xs)
    (hp : ∀ (nq : Nat) (u : Value) (y : List Bool), y ∈ xs → Bools F (w.drewN nq) u y → Calls Tryz.prog 19 #[u, .pointer (some ⟨g, 0, none⟩)] (w.drewN nq) (QuietPost (w.drewN nq) (.bool (P y)))) :
    Calls Tryz.prog 29 #[v, .func (.func 19) #[] #[.pointer (some ⟨g, 0, none⟩)]] w (QuietPost w (.int .i64 (pGoA P xs 0))) := by
  obtain ⟨a, n, c, rfl, HN, hn⟩ := hx.form2
  obtain ⟨R, hR⟩ : ∃ R, pGoA P xs 0 = R := ⟨_, rfl⟩
  have HR : Hid (R = pGoA P (xs.drop 0) 0) := Lib.hid hR.symm
  rw [hR]
  have HX := Lib.hid hx
  have HP := Lib.hid hp
  clear hR hx hp
  go_enter Tryz.func29, Tryz.ntmps29
  go_wp2
  go_loopg [4, 8] n (fun g u4 u8 wx => ∃ k nq : Nat, k + g = n ∧ u8 = .int .i64 k ∧ u4 = .int .i64 0 ∧ wx = w.drewN nq ∧ Hid (R = pGoA P (xs.drop k) k))
  case atStart => exact ⟨0, 0, by omega, rfl, rfl, rfl, HR⟩
  case round =>
    obtain ⟨k, nq, hk, rfl, rfl, rfl, hinv⟩ := hrel
    by_cases hlt : k < n
    · obtain ⟨y, hy, e⟩ := drop_at (xs := xs) (k := k) (by have := HN.out; omega)
      have hxs := HX.out
      obtain ⟨b, off, yv, rfl, _, hb, hc, hyi⟩ := hxs.at hy
      obtain ⟨ya, yc, rfl, _⟩ := hyi.form
      obtain ⟨yn, hyn⟩ : ∃ n, y.length = n := ⟨_, rfl⟩
      rw [hyn] at hc hyi
      have HYN := Lib.hid hyn
      have HI : Hid (R = if P y = true then (k : Int) else pGoA P (xs.drop (k + 1)) (k + 1)) := Lib.hid (by rw [hinv.out, e]; rfl)
      obtain ⟨B, hB⟩ : ∃ B, P y = B := ⟨_, rfl⟩
      have hoc := fun nq => HP.out nq _ y (List.mem_of_getElem? hy) (hyi.below (below_drewN (Below.refl _ _) nq))
      rw [hB] at HI hoc
      have HOC := Lib.hid hoc
      clear hinv e hy hB hoc hxs hyi hyn
      rcases bool2 B with rfl | rfl
      · have HF : Hid (R = k) := Lib.hid (by rw [HI.out, if_pos rfl])
        go_wp2_with fail
        refine (HOC.out _).mono ?_
        rintro e w' ⟨rfl, n1, rfl⟩
        go_wp2_with fail
        go_ret
        exact ⟨by rw [HF.out]; rfl, _, rfl⟩
      · have HF : Hid (R = pGoA P (xs.drop (k + 1)) (k + 1)) := Lib.hid (by rw [HI.out, if_neg (by simp)])
        go_wp2_with fail
        refine (HOC.out _).mono ?_
        rintro e w' ⟨rfl, n1, rfl⟩
        go_wp2_with fail
        go_roundg (gk - 1)
        case measure => omega
        case rel => exact ⟨k + 1, _, by omega, by go_num, rfl, rfl, HF⟩
    · have HF : Hid (R = -1) := Lib.hid (by rw [hinv.out, List.drop_eq_nil_of_le (by have := HN.out; omega)]; rfl)
      clear hinv
      go_wp2
      go_ret
      exact ⟨by rw [HF.out]; rfl, nq, rfl⟩
theorem containsfW_any (F : Nat → Prop) (P : List Bool → Bool) (g : Nat) (v : Value) (xs : List (List Bool)) (w : World) (hx : Wds F w v xs)
    (hp : ∀ (nq : Nat) (u : Value) (y : List Bool), y ∈ xs → Bools F (w.drewN nq) u y → Calls Tryz.prog 19 #[u, .pointer (some ⟨g, 0, none⟩)] (w.drewN nq) (QuietPost (w.drewN nq) (.bool (P y)))) :
    Calls Tryz.prog 11 #[v, .func (.func 19) #[] #[.pointer (some ⟨g, 0, none⟩)]] w (QuietPost w (.bool (xs.any P))) := by
  have hc := pGoA_any P xs 0
  have hI := indexfW_any F P g v xs w hx hp
  obtain ⟨R, hR⟩ : ∃ R, pGoA P xs 0 = R := ⟨_, rfl⟩
  rw [hR] at hc hI
  rw [← hc]
  have HI := Lib.hid hI
  clear hc hR hI hx hp
  go_enter Tryz.func11, Tryz.ntmps11
  go_wp2_with fail
  refine HI.out.mono ?_
  rintro e w' ⟨rfl, n, rfl⟩
  go_wp2_with fail
  go_ret
  exact ⟨rfl, n, rfl⟩
set_option maxHeartbeats 1000000 in
theorem indexfV_any (F : Nat → Prop) (P : Int → Bool) (g : Nat) (v : Value) (xs : List (Int)) (w : World) (hx : Ints F w v xs)
    (hp : ∀ (nq : Nat) (u : Value) (y : Int), y ∈ xs → u = .int .i64 y ∧ I64 y → Calls Tryz.prog 21 #[u, .pointer (some ⟨g, 0, none⟩)] (w.drewN nq) (QuietPost (w.drewN nq) (.bool (P y)))) :
    Calls Tryz.prog 38 #[v, .func (.func 21) #[] #[.pointer (some ⟨g, 0, none⟩)]] w (QuietPost w (.int .i64 (pGoA P xs 0))) := by
  obtain ⟨a, n, c, rfl, HN, hn⟩ := hx.form'
  obtain ⟨R, hR⟩ : ∃ R, pGoA P xs 0 = R := ⟨_, rfl⟩
  have HR : Hid (R = pGoA P (xs.drop 0) 0) := Lib.hid hR.symm
  rw [hR]
  have HX := Lib.hid hx
  have HP := Lib.hid hp
  clear hR hx hp
  go_enter Tryz.func38, Tryz.ntmps38
  go_wp2
  go_loopg [4, 8] n (fun g u4 u8 wx => ∃ k nq : Nat, k + g = n ∧ u8 = .int .i64 k ∧ u4 = .int .i64 0 ∧ wx = w.drewN nq ∧ Hid (R = pGoA P (xs.drop k) k))
  case atStart => exact ⟨0, 0, by omega, rfl, rfl, rfl, HR⟩
  case round =>
    obtain ⟨k, nq, hk, rfl, rfl, rfl, hinv⟩ := hrel
    by_cases hlt : k < n
    · obtain ⟨y, hy, e⟩ := drop_at (xs := xs) (k := k) (by have := HN.out; omega)
      have hxs := HX.out
      obtain ⟨b, off, rfl, _, hb, hc, hyi⟩ := hxs.at hy
      have HI : Hid (R = if P y = true then (k : Int) else pGoA P (xs.drop (k + 1)) (k + 1)) := Lib.hid (by rw [hinv.out, e]; rfl)
      obtain ⟨B, hB⟩ : ∃ B, P y = B := ⟨_, rfl⟩
      have hoc := fun nq => HP.out nq _ y (List.mem_of_getElem? hy) ⟨rfl, hyi⟩
      rw [hB] at HI hoc
      have HOC := Lib.hid hoc
      clear hinv e hy hB hoc hxs hyi
      rcases bool2 B with rfl | rfl
      · have HF : Hid (R = k) := Lib.hid (by rw [HI.out, if_pos rfl])
        go_wp2_with fail
        refine (HOC.out _).mono ?_
        rintro e w' ⟨rfl, n1, rfl⟩
        go_wp2_with fail
        go_ret
        exact ⟨by rw [HF.out]; rfl, _, rfl⟩
      · have HF : Hid (R = pGoA P (xs.drop (k + 1)) (k + 1)) := Lib.hid (by rw [HI.out, if_neg (by simp)])
        go_wp2_with fail
        refine (HOC.out _).mono ?_
        rintro e w' ⟨rfl, n1, rfl⟩
        go_wp2_with fail
        go_roundg (gk - 1)
        case measure => omega
        case rel => exact ⟨k + 1, _, by omega, by go_num, rfl, rfl, HF⟩
    · have HF : Hid (R = -1) := Lib.hid (by rw [hinv.out, List.drop_eq_nil_of_le (by have := HN.out; omega)]; rfl)
      clear hinv
      go_wp2
      go_ret
      exact ⟨by rw [HF.out]; rfl, nq, rfl⟩
theorem containsfV_any (F : Nat → Prop) (P : Int → Bool) (g : Nat) (v : Value) (xs : List (Int)) (w : World) (hx : Ints F w v xs)
    (hp : ∀ (nq : Nat) (u : Value) (y : Int), y ∈ xs → u = .int .i64 y ∧ I64 y → Calls Tryz.prog 21 #[u, .pointer (some ⟨g, 0, none⟩)] (w.drewN nq) (QuietPost (w.drewN nq) (.bool (P y)))) :
    Calls Tryz.prog 20 #[v, .func (.func 21) #[] #[.pointer (some ⟨g, 0, none⟩)]] w (QuietPost w (.bool (xs.any P))) := by
  have hc := pGoA_any P xs 0
  have hI := indexfV_any F P g v xs w hx hp
  obtain ⟨R, hR⟩ : ∃ R, pGoA P xs 0 = R := ⟨_, rfl⟩
  rw [hR] at hc hI
  rw [← hc]
  have HI := Lib.hid hI
  clear hc hR hI hx hp
  go_enter Tryz.func20, Tryz.ntmps20
  go_wp2_with fail
  refine HI.out.mono ?_
  rintro e w' ⟨rfl, n, rfl⟩
  go_wp2_with fail
  go_ret
  exact ⟨rfl, n, rfl⟩
theorem of1_any (F : Nat → Prop) (g : Nat) (width : Int) (u : Value) (y : List Bool) (w : World) (hc : w.cell? ⟨g, 0, none⟩ = some (.int .i64 width)) (hy : Bools F w u y) :
    Calls Tryz.prog 19 #[u, .pointer (some ⟨g, 0, none⟩)] w (QuietPost w (.bool ((y.length : Int) != width))) := by
  obtain ⟨a, c, rfl, _⟩ := hy.form
  clear hy
  go_enter Tryz.func19, Tryz.ntmps19
  go_wp2
  go_ret
  exact ⟨rfl, 0, rfl⟩
theorem of2_any (g : Nat) (wa : Option Addr) (wn wc : Nat) (y : Int) (w : World) (hc : w.cell? ⟨g, 0, none⟩ = some (.slice wa wn wc)) :
    Calls Tryz.prog 21 #[.int .i64 y, .pointer (some ⟨g, 0, none⟩)] w (QuietPost w (.bool (decide ((wn : Int) ≤ y)))) := by
  go_enter Tryz.func21, Tryz.ntmps21
  go_wp2
  go_ret
  exact ⟨rfl, 0, rfl⟩
/-- Check -/
def MtP (vars : Int) (lvs : List Int) (ns : List Fork) (root : Int) : Prop := 0 ≤ vars ∧ vars ≤ 40 ∧ lvs.length ≤ 4096 ∧ ns.length ≤ 4096 ∧ FrmP vars lvs ns root
set_option maxRecDepth 100000 in
set_option maxHeartbeats 4000000 in
theorem mcheck_any (F : Nat → Prop) (vars root : Int) (lv0 nv0 : Value) (lvs : List Int) (ns : List Fork) (w : World) (hlv : Ints F w lv0 lvs) (hnv : Forks F w nv0 ns) (hv : I64 vars) (hr : I64 root) :
    Calls Tryz.prog 18 #[.agg #[.int .i64 vars, lv0, nv0, .int .i64 root]] w fun e w' => ∃ c : Int, e = .returned (.int .i64 c) ∧ (c = 0 ↔ MtP vars lvs ns root) ∧ Below w.heap.size w w' := by
  obtain ⟨la, ll, lc, rfl, HLL, _⟩ := hlv.form'
  obtain ⟨na, nl, nc, rfl, HNL, _⟩ := hnv.form
  obtain ⟨W1, hW1⟩ : ∃ W1, w.alloc (.cells #[.int .i64 vars, .slice la ll lc, .slice na nl nc, .int .i64 root] 25) = W1 := ⟨_, rfl⟩
  have hb1 : Below w.heap.size w W1 := by rw [← hW1]; exact (Below.refl _ _).alloc (Nat.le_refl _) _
  have hA : W1.heap[w.heap.size]? = some (.cells #[.int .i64 vars, .slice la ll lc, .slice na nl nc, .int .i64 root] 25) := by rw [← hW1]; exact new_at _ _
  have k0 : W1.cell? ⟨w.heap.size, 0, none⟩ = some (.int .i64 vars) := cell_of hA rfl
  have k1 : W1.cell? ⟨w.heap.size, 1, none⟩ = some (.slice la ll lc) := cell_of hA rfl
  have k2 : W1.cell? ⟨w.heap.size, 2, none⟩ = some (.slice na nl nc) := cell_of hA rfl
  have k3 : W1.cell? ⟨w.heap.size, 3, none⟩ = some (.int .i64 root) := cell_of hA rfl
  have HLV := Lib.hid (hlv.below hb1)
  have HNV := Lib.hid (hnv.below hb1)
  have HW1 := Lib.hid hW1
  have HB1 := Lib.hid hb1
  have HV := Lib.hid hv
  have HR := Lib.hid hr
  clear hlv hnv hW1 hb1 hA hv hr
  go_enter Tryz.func18, Tryz.ntmps18
  go_upto_region 1 with fail
  rw [HW1.out]
  by_cases h1 : vars < 0
  · have hd : decide (vars < 0) = true := decide_eq_true h1
    have HF : Hid (¬ MtP vars lvs ns root) := Lib.hid fun h => by have := h.1; omega
    clear h1
    go_wp2_with fail
    go_ret
    exact ⟨_, rfl, ⟨(fun h => by cases h), fun h => absurd h HF.out⟩, HB1.out⟩
  have hd1 : decide (vars < 0) = false := decide_eq_false h1
  by_cases h2 : 40 < vars
  · have hd : decide (40 < vars) = true := decide_eq_true h2
    have HF : Hid (¬ MtP vars lvs ns root) := Lib.hid fun h => by have := h.2.1; omega
    clear h1 h2
    go_wp2_with fail
    go_ret
    exact ⟨_, rfl, ⟨(fun h => by cases h), fun h => absurd h HF.out⟩, HB1.out⟩
  have hd2 : decide (40 < vars) = false := decide_eq_false h2
  by_cases h3 : (4096 : Int) < ll
  · have hd : decide ((4096 : Int) < ll) = true := decide_eq_true h3
    have HF : Hid (¬ MtP vars lvs ns root) := Lib.hid fun h => by have := h.2.2.1; have := HLL.out; omega
    have hd' : decide (4096 < ll) = true := decide_eq_true (by omega)
    clear h1 h2 h3
    go_wp2_with fail
    go_ret
    exact ⟨_, rfl, ⟨(fun h => by cases h), fun h => absurd h HF.out⟩, HB1.out⟩
  have hd3 : decide ((4096 : Int) < ll) = false := decide_eq_false h3
  have hd3' : decide (4096 < ll) = false := decide_eq_false (by omega)
  by_cases h4 : (4096 : Int) < nl
  · have hd : decide ((4096 : Int) < nl) = true := decide_eq_true h4
    have HF : Hid (¬ MtP vars lvs ns root) := Lib.hid fun h => by have := h.2.2.2.1; have := HNL.out; omega
    have hd' : decide (4096 < nl) = true := decide_eq_true (by omega)
    clear h1 h2 h3 h4
    go_wp2_with fail
    go_ret
    exact ⟨_, rfl, ⟨(fun h => by cases h), fun h => absurd h HF.out⟩, HB1.out⟩
  have hd4 : decide ((4096 : Int) < nl) = false := decide_eq_false h4
  have hd4' : decide (4096 < nl) = false := decide_eq_false (by omega)
  have HH := Lib.hid (⟨h1, h2, h3, h4⟩ : ¬ vars < 0 ∧ ¬ 40 < vars ∧ ¬ (4096 : Int) < ll ∧ ¬ (4096 : Int) < nl)
  have HFM := Lib.hid (mformed_any F vars root _ _ lvs ns W1 HLV.out HNV.out (by have := HLL.out; omega) (by have := HNL.out; omega) HV.out HR.out)
  clear h1 h2 h3 h4
  go_wp2_with fail
  refine HFM.out.mono ?_
  rintro e w2 ⟨b, rfl, hb, hb2⟩
  have HRES : Hid ((b = true ↔ MtP vars lvs ns root) ∧ Below w.heap.size w w2) := Lib.hid ⟨hb.trans ⟨fun h => ⟨by have := HH.out.1; omega, by have := HH.out.2.1; omega, by have := HH.out.2.2.1; have := HLL.out; omega, by have := HH.out.2.2.2; have := HNL.out; omega, h⟩, fun h => h.2.2.2.2⟩, HB1.out.trans (hb2.mono HB1.out.size)⟩
  clear hb hb2 HFM
  rcases bool2 b with rfl | rfl
  · go_wp2_with fail
    go_ret
    exact ⟨0, rfl, ⟨fun _ => HRES.out.1.1 (by first | trivial | rfl), fun _ => rfl⟩, HRES.out.2⟩
  · go_wp2_with fail
    go_ret
    exact ⟨1, rfl, ⟨(fun h => by cases h), fun h => by have := HRES.out.1.2 h; cases this⟩, HRES.out.2⟩
end Go.Proofs.YteadlkecngfcoaaGreat
