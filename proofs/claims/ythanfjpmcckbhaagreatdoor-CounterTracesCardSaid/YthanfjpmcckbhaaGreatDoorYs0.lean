/- (Counter seat) Walks of the package sat: side, the marks' has, set, open; start. No condition but the ranges. -/
import Derived.Test.YthanfjpmcckbhaaGreatDoorKz
import Derived.Deep.LoopGhost
import Derived.Deep.DeepCutAuto
import Derived.WalkLawsBesides
namespace Go.Proofs.YthanfjpmcckbhaaGreatDoor
open Go.ChangeShapes Go.WideShapes Go.ChangeAt Go.RowKit
set_option linter.unusedVariables false
theorem side_any (n : Int) (w : World) (h : -1099511627776 ≤ n ∧ n ≤ 1099511627776) :
    Calls Tryz.prog 130 #[.int .i64 n] w fun e w' => e = .returned (.tuple #[.int .i64 (varM n), .int .i64 (if n < 0 then 0 else 1)]) ∧ w' = w := by
  by_cases h0 : n < 0
  · have HV : Hid (varM n = -n) := Lib.hid (by unfold varM; rw [if_pos h0])
    rw [if_pos h0]
    go_enter Tryz.func130, Tryz.ntmps130
    go_wp2
    go_ret2
    refine ⟨?_, rfl⟩
    rw [HV.out]
    go_num
  · have HV : Hid (varM n = n) := Lib.hid (by unfold varM; rw [if_neg h0])
    have hd : decide (n < 0) = false := decide_eq_false h0
    rw [if_neg h0]
    go_enter Tryz.func130, Tryz.ntmps130
    go_wp2
    go_ret2
    exact ⟨by rw [HV.out]; rfl, rfl⟩


theorem side_pos (v : Nat) (w : World) (h : v ≤ 1099511627776) :
    Calls Tryz.prog 130 #[.int .i64 (v : Int)] w fun e w' => e = .returned (.tuple #[.int .i64 (v : Int), .int .i64 1]) ∧ w' = w :=
  (side_any _ w (by omega)).mono fun e w' ⟨h1, h2⟩ => ⟨by rw [h1, varM, if_neg (by omega), if_neg (by omega)], h2⟩
theorem side_neg (v : Nat) (w : World) (h : v ≤ 1099511627776) (h1 : 1 ≤ v) :
    Calls Tryz.prog 130 #[.int .i64 (-(v : Int))] w fun e w' => e = .returned (.tuple #[.int .i64 (v : Int), .int .i64 0]) ∧ w' = w :=
  (side_any _ w (by omega)).mono fun e w' ⟨h1, h2⟩ => ⟨by rw [h1, varM, if_pos (by omega), if_pos (by omega), Int.neg_neg], h2⟩

/-- has of a positive literal reads the variable's second cell -/
theorem mhas_pos (g n c v : Nat) (x : Bool) (w : World) (hn : n ≤ 1099511627776) (hv : v < n) (hx : w.cell? ⟨g, v * 2 + 1, none⟩ = some (.bool x)) :
    Calls Tryz.prog 84 #[.slice (some ⟨g, 0, none⟩) n c, .int .i64 (v : Int)] w fun e w' => e = .returned (.bool x) ∧ w' = w := by
  go_enter Tryz.func84, Tryz.ntmps84
  go_wp2_with fail
  refine (side_pos v _ (by omega)).mono ?_
  rintro e w1 ⟨rfl, rfl⟩
  go_wp2_with fail
  go_ret
  exact ⟨rfl, rfl⟩
theorem mhas_neg (g n c v : Nat) (x : Bool) (w : World) (hn : n ≤ 1099511627776) (hv : v < n) (h1 : 1 ≤ v) (hx : w.cell? ⟨g, v * 2, none⟩ = some (.bool x)) :
    Calls Tryz.prog 84 #[.slice (some ⟨g, 0, none⟩) n c, .int .i64 (-(v : Int))] w fun e w' => e = .returned (.bool x) ∧ w' = w := by
  go_enter Tryz.func84, Tryz.ntmps84
  go_wp2_with fail
  refine (side_neg v _ (by omega) h1).mono ?_
  rintro e w1 ⟨rfl, rfl⟩
  go_wp2_with fail
  go_ret
  exact ⟨rfl, rfl⟩
/-- set writes the literal's cell and answers whether the other one is clear -/
theorem mset_pos (g n c v : Nat) (x y : Bool) (w : World) (hn : n ≤ 1099511627776) (hv : v < n) (hx : w.cell? ⟨g, v * 2 + 1, none⟩ = some (.bool x)) (hy : w.cell? ⟨g, v * 2, none⟩ = some (.bool y)) (hz : w.frozen? ⟨g, v * 2 + 1, none⟩ = false) :
    Calls Tryz.prog 83 #[.slice (some ⟨g, 0, none⟩) n c, .int .i64 (v : Int)] w fun e w' => e = .returned (.bool (!y)) ∧ w' = w.setCell ⟨g, v * 2 + 1, none⟩ (.bool true) := by
  have hy2 := set_ne (u := .bool true) (b' := g) (o' := v * 2 + 1) (by right; omega) hy
  go_enter Tryz.func83, Tryz.ntmps83
  go_wp2_with fail
  refine (side_pos v _ (by omega)).mono ?_
  rintro e w1 ⟨rfl, rfl⟩
  go_wp2_with fail
  go_ret
  exact ⟨rfl, rfl⟩
theorem mset_neg (g n c v : Nat) (x y : Bool) (w : World) (hn : n ≤ 1099511627776) (hv : v < n) (h1 : 1 ≤ v) (hx : w.cell? ⟨g, v * 2, none⟩ = some (.bool x)) (hy : w.cell? ⟨g, v * 2 + 1, none⟩ = some (.bool y)) (hz : w.frozen? ⟨g, v * 2, none⟩ = false) :
    Calls Tryz.prog 83 #[.slice (some ⟨g, 0, none⟩) n c, .int .i64 (-(v : Int))] w fun e w' => e = .returned (.bool (!y)) ∧ w' = w.setCell ⟨g, v * 2, none⟩ (.bool true) := by
  have hy2 := set_ne (u := .bool true) (b' := g) (o' := v * 2) (by right; omega) hy
  go_enter Tryz.func83, Tryz.ntmps83
  go_wp2_with fail
  refine (side_neg v _ (by omega) h1).mono ?_
  rintro e w1 ⟨rfl, rfl⟩
  go_wp2_with fail
  go_ret
  exact ⟨rfl, rfl⟩


/-- where a literal's mark lies -/
def idx (l : Int) : Nat := if l < 0 then (-l).toNat * 2 else l.toNat * 2 + 1
def LitOk (V : Nat) (l : Int) : Prop := l ≠ 0 ∧ -(V : Int) ≤ l ∧ l ≤ V
theorem LitOk.cases {V : Nat} {l : Int} (h : LitOk V l) : ∃ v : Nat, 1 ≤ v ∧ v ≤ V ∧ (l = v ∧ idx l = v * 2 + 1 ∧ idx (-l) = v * 2 ∨ l = -v ∧ idx l = v * 2 ∧ idx (-l) = v * 2 + 1) := by
  obtain ⟨h1, h2, h3⟩ := h
  refine ⟨l.natAbs, by omega, by omega, ?_⟩
  unfold idx
  by_cases h : l < 0
  · right; rw [if_pos h, if_neg (by omega)]; omega
  · left; rw [if_neg h, if_pos (by omega)]; omega
theorem LitOk.neg {V : Nat} {l : Int} (h : LitOk V l) : LitOk V (-l) := by unfold LitOk at *; omega
/-- set: writes a literal's mark and says whether the other one is clear -/
def setOk (ms : List Bool) (l : Int) : Bool := !(ms.getD (idx (-l)) false)
def setM (ms : List Bool) (l : Int) : List Bool := ms.set (idx l) true
def hasM (ms : List Bool) (l : Int) : Bool := ms.getD (idx l) false

/-- marks that are owned -/
def Marks (w : World) (base g V : Nat) (ms : List Bool) : Prop :=
  w.ownsRow base 90 2 (.slice (some ⟨g, 0, none⟩) (V + 1) (V + 1)) (V + 1) (ms.map .bool)
theorem Marks.cell {w : World} {base g V : Nat} {ms : List Bool} (h : Marks w base g V ms) (i : Nat) (hi : i < (V + 1) * 2) : w.cell? ⟨g, i, none⟩ = some (.bool (ms.getD i false)) := by
  have h1 := World.ownsRow.cellAt h i hi
  have h2 : ms.length = (V + 1) * 2 := by simpa using h.1
  rw [h1, List.getElem?_map, List.getD, List.getElem?_eq_getElem (by omega)]
  rfl
theorem Marks.frozen {w : World} {base g V : Nat} {ms : List Bool} (h : Marks w base g V ms) (i : Nat) : w.frozen? ⟨g, i, none⟩ = false := World.ownsRow.frozenAt h i
theorem Marks.set {w : World} {base g V : Nat} {ms : List Bool} (h : Marks w base g V ms) (i : Nat) (b : Bool) : Marks (w.setCell ⟨g, i, none⟩ (.bool b)) base g V (ms.set i b) := by
  have := (World.ownsRow.stored h i (.bool b)).1
  rwa [← List.map_set] at this
theorem Marks.lt {w : World} {base g V : Nat} {ms : List Bool} (h : Marks w base g V ms) : base ≤ g ∧ g < w.heap.size := World.ownsRow.lt h g rfl
theorem Marks.below {w w' : World} {base g V : Nat} {ms : List Bool} (h : Marks w base g V ms) (hb : Below w.heap.size w w') : Marks w' base g V ms := own_below h hb

theorem mset_own {w : World} {base g V : Nat} {ms : List Bool} {l : Int} (h : Marks w base g V ms) (hV : V ≤ 1000000) (hl : LitOk V l) :
    Calls Tryz.prog 83 #[.slice (some ⟨g, 0, none⟩) (V + 1) (V + 1), .int .i64 l] w fun e w' => e = .returned (.bool (setOk ms l)) ∧ w' = w.setCell ⟨g, idx l, none⟩ (.bool true) := by
  obtain ⟨v, hv1, hv2, h1⟩ := hl.cases
  rcases h1 with ⟨rfl, e1, e2⟩ | ⟨rfl, e1, e2⟩
  · have := mset_pos g (V + 1) (V + 1) v _ _ w (by omega) (by omega) (h.cell _ (by omega)) (h.cell _ (by omega)) (h.frozen _)
    unfold setOk
    rw [e1, e2]
    exact this
  · have := mset_neg g (V + 1) (V + 1) v _ _ w (by omega) (by omega) hv1 (h.cell _ (by omega)) (h.cell _ (by omega)) (h.frozen _)
    unfold setOk
    rw [e1, e2]
    exact this
theorem mhas_own {w : World} {base g V : Nat} {ms : List Bool} {l : Int} (h : Marks w base g V ms) (hV : V ≤ 1000000) (hl : LitOk V l) :
    Calls Tryz.prog 84 #[.slice (some ⟨g, 0, none⟩) (V + 1) (V + 1), .int .i64 l] w fun e w' => e = .returned (.bool (hasM ms l)) ∧ w' = w := by
  obtain ⟨v, hv1, hv2, h1⟩ := hl.cases
  unfold hasM
  rcases h1 with ⟨rfl, e1, e2⟩ | ⟨rfl, e1, e2⟩
  · rw [e1]
    exact mhas_pos g (V + 1) (V + 1) v _ w (by omega) (by omega) (h.cell _ (by omega))
  · rw [e1]
    exact mhas_neg g (V + 1) (V + 1) v _ w (by omega) (by omega) hv1 (h.cell _ (by omega))

/-- start -/
def startGo : List Int → List Bool → Bool → List Bool × Bool
  | [], ms, ok => (ms, ok)
  | l :: r, ms, ok => startGo r (setM ms l) (setOk ms l && ok)
def startM (V : Nat) (lits : List Int) : List Bool × Bool := startGo lits (List.replicate ((V + 1) * 2) false) true
def StartPost (W : World) (V : Nat) (R : List Bool × Bool) (e : Ending) (w' : World) : Prop :=
  ∃ g, e = .returned (.tuple #[.slice (some ⟨g, 0, none⟩) (V + 1) (V + 1), .bool R.2]) ∧ Marks w' W.heap.size g V R.1 ∧ Below W.heap.size W w'
theorem made_pairs (n : Nat) : (madeCells (Value.cells (.agg #[.bool false, .bool false])) (n * 2)).toList = (List.replicate (n * 2) false).map .bool := by
  apply List.ext_getElem?
  intro i
  rcases Nat.mod_two_eq_zero_or_one i with h0 | h0 <;> by_cases h : i < n * 2 <;> simp [madeCells, Value.cells, h, h0]

set_option maxRecDepth 100000 in
set_option maxHeartbeats 4000000 in
theorem start_any (F : Nat → Prop) (V : Nat) (lv : Value) (lits : List Int) (w : World) (hl : Ints F w lv lits) (hV : V ≤ 1000000) (hlits : ∀ l ∈ lits, LitOk V l) :
    Calls Tryz.prog 62 #[.int .i64 (V : Int), lv] w (StartPost w V (startM V lits)) := by
  obtain ⟨a, n, c, rfl, HN, hn⟩ := hl.form'
  have hinfo : (Tryz.prog.info? 90).map (fun i => (i.zero, i.size, i.bytes)) = some (some (.agg #[.bool false, .bool false]), 2, 2) := by kernel_rfl
  obtain ⟨i0, g1, g2, g3, g4⟩ := info_parts hinfo
  have G1 := Lib.hid g1
  have G2 := Lib.hid g2
  have G3 := Lib.hid g3
  have G4 := Lib.hid g4
  obtain ⟨R, hR⟩ : ∃ R, startM V lits = R := ⟨_, rfl⟩
  have HR : Hid (R = startGo (lits.drop 0) (List.replicate ((V + 1) * 2) false) true) := Lib.hid hR.symm
  rw [hR]
  have HL := Lib.hid hl
  have HLO := Lib.hid hlits
  clear hl hinfo g1 g2 g3 g4 hR hlits
  go_enter Tryz.func62, Tryz.ntmps62
  go_upto_region 2 with (at_make; refine wpList_make_full _ rfl _ _ 86 rfl w.heap.size 90 i0 (.agg #[.bool false, .bool false]) 2 (by kernel_rfl) G1.out G2.out G3.out .i64 .i64 _ _ (V + 1) rfl rfl (by simp) (by simp) (by rw [G4.out]; omega) (by unfold maxLen; omega) (by simp) ?_; intro w1 hown1 hg1)
  have hmk : Marks w1 w.heap.size w.heap.size V (List.replicate ((V + 1) * 2) false) := by
    unfold Marks
    rw [made_pairs] at hown1
    exact hown1
  have HB1 : Hid (Below w.heap.size w w1) := Lib.hid ((Below.refl _ _).grown hg1 (Nat.le_refl _) (by intro k hk; cases hk))
  clear hown1 hg1
  go_wp2
  go_loopg [7, 15] n (fun g u7 u15 wx => ∃ (k : Nat) (ms : List Bool) (ok : Bool), k + g = n ∧ u15 = .int .i64 k ∧ u7 = .bool ok ∧ Marks wx w.heap.size w.heap.size V ms ∧ Hid (Below w.heap.size w wx) ∧ Hid (R = startGo (lits.drop k) ms ok))
  case atStart => exact ⟨0, _, true, by omega, rfl, rfl, hmk, HB1, HR⟩
  case round =>
  obtain ⟨k, ms, ok, hkg, rfl, rfl, hm, HB, hinv⟩ := hrel
  by_cases hk : k < n
  case neg =>
    have HF : Hid (R = (ms, ok)) := Lib.hid (by rw [hinv.out, List.drop_eq_nil_of_le (by have := HN.out; omega)]; rfl)
    have hk2 : n ≤ k := by omega
    clear hinv hk
    go_wp2
    go_ret2
    exact ⟨_, by rw [HF.out]; rfl, by rw [HF.out]; exact hm, HB.out⟩
  obtain ⟨x, hx, e⟩ := drop_at (xs := lits) (k := k) (by have := HN.out; omega)
  have hll := HL.out.below HB.out
  obtain ⟨b, o, rfl, _, hb, hc, _⟩ := hll.at hx
  have HX : Hid (LitOk V x) := Lib.hid (HLO.out x (List.mem_of_getElem? hx))
  have HE : Hid (R = startGo (lits.drop (k + 1)) (setM ms x) (setOk ms x && ok)) := Lib.hid (by rw [hinv.out, e]; rfl)
  clear hinv e hx hll
  go_wp2_with fail
  refine (mset_own hm hV HX.out).mono ?_
  rintro e w2 ⟨rfl, rfl⟩
  have hm2 := hm.set (idx x) true
  have HB2 := Lib.hid (HB.out.setCell (p := ⟨w.heap.size, idx x, none⟩) (Nat.le_refl _) (.bool true))
  rcases hs : setOk ms x with _ | _
  · rw [hs] at HE
    go_wp2_with fail
    go_roundg (gk - 1)
    case measure => omega
    case rel => exact ⟨k + 1, _, false, by omega, by go_num, rfl, hm2, HB2, HE⟩
  · rw [hs] at HE
    go_wp2_with fail
    go_roundg (gk - 1)
    case measure => omega
    case rel => exact ⟨k + 1, _, ok, by omega, by go_num, rfl, hm2, HB2, HE⟩

/- (Counter seat) Walk: propagate of the package sat; plain: what it computes. No condition but the ranges. -/
open Go.ChangeShapes Go.WideShapes Go.ChangeAt Go.RowKit
set_option linter.unusedVariables false
/-- the only literal of a clause that is not false: none if there are two, 0 if there is none -/
def unitGo (ms : List Bool) : List Int → Int → Option Int
  | [], u => some u
  | l :: r, u => if hasM ms (-l) = true then unitGo ms r u else if u ≠ 0 then none else unitGo ms r l
/-- one pass over the clauses -/
def passGo : List (List Int) → List Bool → Bool → Bool × List Bool × Bool
  | [], ms, ch => (true, ms, ch)
  | c :: r, ms, ch => match unitGo ms c 0 with
    | none => passGo r ms ch
    | some u => if u = 0 then (false, ms, ch) else if hasM ms u = true then passGo r ms ch else if setOk ms u = false then (false, setM ms u, ch) else passGo r (setM ms u) true
def propGo : Nat → List (List Int) → List Bool → Bool × List Bool
  | 0, _, ms => (true, ms)
  | f + 1, cs, ms => match passGo cs ms false with
    | (false, m, _) => (false, m)
    | (true, m, true) => propGo f cs m
    | (true, m, false) => (true, m)
/-- propagate -/
def propM (cs : List (List Int)) (ms : List Bool) : Bool × List Bool := propGo (ms.count false + 1) cs ms
theorem setM_count {ms : List Bool} {l : Int} (h : hasM ms l = false) (hl : idx l < ms.length) : (setM ms l).count false + 1 = ms.count false := by
  unfold setM hasM at *
  generalize idx l = i at *
  rw [List.getD, List.getElem?_eq_getElem hl, Option.getD_some] at h
  rw [List.count_set hl]
  simp only [h]
  have : 0 < ms.count false := List.count_pos_iff.2 (h ▸ List.getElem_mem hl)
  simp
  omega
theorem unitGo_lit {ms : List Bool} {V : Nat} : ∀ (c : List Int) (u x : Int), (∀ l ∈ c, LitOk V l) → (u = 0 ∨ LitOk V u) → unitGo ms c u = some x → x = 0 ∨ LitOk V x
  | [], u, x, _, hu, h => by simp [unitGo] at h; exact h ▸ hu
  | l :: r, u, x, hc, hu, h => by
    rw [unitGo] at h
    split at h
    · exact unitGo_lit r u x (fun y hy => hc y (by simp [hy])) hu h
    split at h
    · cases h
    · exact unitGo_lit r l x (fun y hy => hc y (by simp [hy])) (.inr (hc l (by simp))) h

def PropPost (W : World) (base g V : Nat) (R : Bool × List Bool) (e : Ending) (w' : World) : Prop := e = .returned (.bool R.1) ∧ Marks w' base g V R.2 ∧ Below g W w'

set_option maxRecDepth 100000 in
set_option maxHeartbeats 8000000 in
theorem propagate_any {F : Nat → Prop} {base g V : Nat} {cv : Value} {cs : List (List Int)} {ms : List Bool} {w : World} (hc : Clss F w cv cs) (hm : Marks w base g V ms) (hF : ∀ b, F b → b < g) (hV : V ≤ 1000000) (hlit : ∀ c ∈ cs, ∀ l ∈ c, LitOk V l) :
    Calls Tryz.prog 63 #[cv, .slice (some ⟨g, 0, none⟩) (V + 1) (V + 1)] w (PropPost w base g V (propM cs ms)) := by
  obtain ⟨a, n, c, rfl, HN, hn⟩ := hc.form'
  obtain ⟨R, hR⟩ : ∃ R, propM cs ms = R := ⟨_, rfl⟩
  have HR : Hid (R = propGo (ms.count false + 1) cs ms) := Lib.hid hR.symm
  rw [hR]
  have HC := Lib.hid fun wx (h : Below g w wx) => hc.move (w' := wx) (fun _ _ _ _ _ h hm => h.move hm) fun b hb _ => h.block b (hF b hb)
  have HLI := Lib.hid hlit
  clear hc hR hlit hF
  go_enter Tryz.func63, Tryz.ntmps63
  go_wp2
  go_loopg [5] (ms.count false + 1) (fun gg u5 wx => ∃ (ch : Bool) (m : List Bool), u5 = .bool ch ∧ Marks wx base g V m ∧ Hid (Below g w wx) ∧ Hid (ch = true → R = propGo gg cs m ∧ m.count false + 1 ≤ gg) ∧ Hid (ch = false → R = (true, m)))
  case atStart => exact ⟨true, ms, rfl, hm, Lib.hid (Below.refl _ _), Lib.hid (fun _ => ⟨HR.out, Nat.le_refl _⟩), Lib.hid (fun h => by cases h)⟩
  case round =>
  clear hm HR
  obtain ⟨ch, m0, rfl, hm, HB, H1, H2⟩ := hrel
  rcases bool2 ch with rfl | rfl
  case inr =>
    have HF : Hid (R = (true, m0)) := Lib.hid (H2.out rfl)
    clear H1 H2
    go_wp2
    go_ret
    exact ⟨by rw [HF.out]; rfl, by rw [HF.out]; exact hm, HB.out⟩
  obtain ⟨GK, hGK⟩ : ∃ G, G = gk := ⟨_, rfl⟩
  subst hGK
  obtain ⟨hp, hge⟩ := H1.out rfl
  obtain ⟨f, rfl⟩ : ∃ f, GK = f + 1 := ⟨GK - 1, by omega⟩
  obtain ⟨Y, hY⟩ : ∃ Y, passGo cs m0 false = Y := ⟨_, rfl⟩
  have HP : Hid (R = if Y.1 = false then (false, Y.2.1) else if Y.2.2 = true then propGo f cs Y.2.1 else (true, Y.2.1)) := Lib.hid (by
    rw [hp, propGo, hY]
    obtain ⟨y1, y2, y3⟩ := Y
    cases y1 <;> cases y3 <;> rfl)
  have HY : Hid (Y = passGo (cs.drop 0) m0 false) := Lib.hid hY.symm
  clear H1 H2 hp hY
  go_wp2
  try (go_step3; go_wp2)
  try (go_step3; go_wp2)
  go_loopg [5, 14] n (fun g2 u5 u14 wx => ∃ (k : Nat) (m : List Bool) (ch : Bool), k + g2 = n ∧ u14 = .int .i64 k ∧ u5 = .bool ch ∧ Marks wx base g V m ∧ Hid (Below g w wx) ∧ Hid (Y = passGo (cs.drop k) m ch) ∧ m.count false ≤ m0.count false ∧ (ch = true → m.count false < m0.count false))
  case atStart => exact ⟨0, m0, false, by omega, rfl, rfl, hm, HB, HY, Nat.le_refl _, fun h => by cases h⟩
  case round =>
  clear hm HB HY
  obtain ⟨k, m, ch, hkg, rfl, rfl, hm, HB, HY, hcn, hcl⟩ := hrel
  obtain ⟨GM, hGM⟩ : ∃ G, G = gk := ⟨_, rfl⟩
  subst hGM
  by_cases hk : k < n
  case neg =>
    have hYY : Y = (true, m, ch) := by rw [HY.out, List.drop_eq_nil_of_le (by have := HN.out; omega)]; rfl
    have hk2 : n ≤ k := by omega
    have HF1 : Hid (ch = true → R = propGo f cs m ∧ m.count false + 1 ≤ f) := Lib.hid (fun h => ⟨by rw [HP.out, hYY, h]; rfl, by have := hcl h; omega⟩)
    have HF2 : Hid (ch = false → R = (true, m)) := Lib.hid (fun h => by rw [HP.out, hYY, h]; rfl)
    clear HY HP hYY hcl hk
    go_wp2
    rw [Exit.noGoto_normal]
    go_wp2
    go_roundg f
    case measure => omega
    case rel => exact ⟨ch, m, rfl, hm, HB, HF1, HF2⟩
  obtain ⟨cl, hcl1, e⟩ := drop_at (xs := cs) (k := k) (by have := HN.out; omega)
  have hrow := HC.out _ HB.out
  obtain ⟨b, o, u, rfl, _, hb, hcc, hu⟩ := hrow.at hcl1
  obtain ⟨ua, un, uc, rfl, HUN, hun⟩ := hu.form'
  have HLC : Hid (∀ l ∈ cl, LitOk V l) := Lib.hid (HLI.out cl (List.mem_of_getElem? hcl1))
  obtain ⟨U, hU⟩ : ∃ U, unitGo m cl 0 = U := ⟨_, rfl⟩
  have HYN : Hid (U = none → Y = passGo (cs.drop (k + 1)) m ch) := Lib.hid (fun h => by rw [HY.out, e, passGo, hU, h])
  have HYS : Hid (∀ u, U = some u → Y = if u = 0 then (false, m, ch) else if hasM m u = true then passGo (cs.drop (k + 1)) m ch else if setOk m u = false then (false, setM m u, ch) else passGo (cs.drop (k + 1)) (setM m u) true) := Lib.hid (fun u h => by rw [HY.out, e, passGo, hU, h])
  have HU : Hid (U = unitGo m (cl.drop 0) 0) := Lib.hid hU.symm
  have HUL : Hid (∀ x, U = some x → x = 0 ∨ LitOk V x) := Lib.hid (fun x h => unitGo_lit cl 0 x HLC.out (.inl rfl) (by rw [hU, h]))
  have HUB : Hid (Ints F wr (.slice ua un uc) cl) := Lib.hid hu
  clear HY e hU hrow hu hcl1
  go_wp2
  go_loopg [8, 20] un (fun g3 u8 u20 wx => ∃ (j : Nat) (u : Int), j + g3 = un ∧ u20 = .int .i64 j ∧ u8 = .int .i64 u ∧ wr = wx ∧ Hid (U = unitGo m (cl.drop j) u))
  case atStart => exact ⟨0, 0, by omega, rfl, rfl, rfl, HU⟩
  case round =>
  clear HU
  obtain ⟨j, u, hjg, rfl, rfl, rfl, HU⟩ := hrel
  by_cases hj : j < un
  case pos =>
    obtain ⟨x, hx, ex⟩ := drop_at (xs := cl) (k := j) (by have := HUN.out; omega)
    have hub := HUB.out
    obtain ⟨xb, xo, rfl, _, hxb, hxc, _⟩ := hub.at hx
    have HXL : Hid (LitOk V x) := Lib.hid (HLC.out x (List.mem_of_getElem? hx))
    have hx0 : -1000000 ≤ x ∧ x ≤ 1000000 := by obtain ⟨_, h2, h3⟩ := HXL.out; omega
    have HXE : Hid (U = if hasM m (-x) = true then unitGo m (cl.drop (j + 1)) u else if u ≠ 0 then none else unitGo m (cl.drop (j + 1)) x) := Lib.hid (by rw [HU.out, ex, unitGo])
    clear HU hx ex hub
    go_wp2_with fail
    refine (mhas_own hm hV HXL.out.neg).mono ?_
    rintro e w2 ⟨rfl, rfl⟩
    rcases hh : hasM m (-x) with _ | _
    · rw [hh] at HXE
      by_cases hu0 : u = 0
      · have HX2 : Hid (U = unitGo m (cl.drop (j + 1)) x) := Lib.hid (by rw [HXE.out, if_neg (by simp), if_neg (by omega)])
        have hd : (u != 0) = false := by simp [hu0]
        clear HXE hu0
        go_wp2_with fail
        go_roundg (gk - 1)
        case measure => omega
        case rel => exact ⟨j + 1, x, by omega, by go_num, rfl, rfl, HX2⟩
      · have hUn : U = none := by rw [HXE.out, if_neg (by simp), if_pos hu0]
        have HYE := Lib.hid (HYN.out hUn)
        have hd : (u != 0) = true := by simp [hu0]
        clear HXE hu0
        go_wp2_with fail
        go_roundg (GM - 1)
        case measure => omega
        case rel => exact ⟨k + 1, m, ch, by omega, by go_num, rfl, hm, HB, HYE, hcn, hcl⟩
    · rw [hh] at HXE
      have HX2 : Hid (U = unitGo m (cl.drop (j + 1)) u) := Lib.hid (by rw [HXE.out, if_pos rfl])
      clear HXE
      go_wp2_with fail
      go_roundg (gk - 1)
      case measure => omega
      case rel => exact ⟨j + 1, u, by omega, by go_num, rfl, rfl, HX2⟩
  have hj2 : un ≤ j := by omega
  have hUs : U = some u := by rw [HU.out, List.drop_eq_nil_of_le (by have := HUN.out; omega)]; rfl
  have HYE := Lib.hid (HYS.out u hUs)
  have HUL2 := Lib.hid (HUL.out u hUs)
  clear HYS HYN HUL HU hUs hj
  by_cases hu0 : u = 0
  · have hYY : Y = (false, m, ch) := by rw [HYE.out, if_pos hu0]
    have HF : Hid (R = (false, m)) := Lib.hid (by rw [HP.out, hYY]; rfl)
    have hd : (u == 0) = true := by simp [hu0]
    clear HYE HP hYY hu0
    go_wp2_with fail
    try rw [Exit.noGoto_ret]
    go_ret
    exact ⟨by rw [HF.out]; rfl, by rw [HF.out]; exact hm, HB.out⟩
  have hd : (u == 0) = false := by simp [hu0]
  have HUK : Hid (LitOk V u) := Lib.hid (HUL2.out.resolve_left hu0)
  have hux : -1000000 ≤ u ∧ u ≤ 1000000 := by obtain ⟨_, h2, h3⟩ := HUK.out; omega
  have HYF : Hid (Y = if hasM m u = true then passGo (cs.drop (k + 1)) m ch else if setOk m u = false then (false, setM m u, ch) else passGo (cs.drop (k + 1)) (setM m u) true) := Lib.hid (by rw [HYE.out, if_neg hu0])
  clear HYE hu0 HUL2
  go_wp2_with fail
  refine (mhas_own hm hV HUK.out).mono ?_
  rintro e w2 ⟨rfl, rfl⟩
  rcases hh : hasM m u with _ | _
  case true =>
    rw [hh] at HYF
    have HYG : Hid (Y = passGo (cs.drop (k + 1)) m ch) := Lib.hid (by rw [HYF.out, if_pos rfl])
    clear HYF
    go_wp2_with fail
    go_roundg (GM - 1)
    case measure => omega
    case rel => exact ⟨k + 1, m, ch, by omega, by go_num, rfl, hm, HB, HYG, hcn, hcl⟩
  rw [hh] at HYF
  have HYG : Hid (Y = if setOk m u = false then (false, setM m u, ch) else passGo (cs.drop (k + 1)) (setM m u) true) := Lib.hid (by rw [HYF.out, if_neg (by simp)])
  have hcnt := setM_count hh (by
    have h1 : m.length = (V + 1) * 2 := by simpa using hm.1
    obtain ⟨v, _, hv2, h2⟩ := HUK.out.cases
    rcases h2 with ⟨_, h2, _⟩ | ⟨_, h2, _⟩ <;> omega)
  clear HYF
  go_wp2_with fail
  refine (mset_own hm hV HUK.out).mono ?_
  rintro e w3 ⟨rfl, rfl⟩
  have hm2 := hm.set (idx u) true
  have HB2 := Lib.hid (HB.out.setCell (p := ⟨g, idx u, none⟩) (Nat.le_refl _) (.bool true))
  rcases hs : setOk m u with _ | _
  · rw [hs] at HYG
    have hYY : Y = (false, setM m u, ch) := by rw [HYG.out, if_pos rfl]
    have HF : Hid (R = (false, setM m u)) := Lib.hid (by rw [HP.out, hYY]; rfl)
    clear HYG HP hYY
    go_wp2_with fail
    try rw [Exit.noGoto_ret]
    go_ret
    exact ⟨by rw [HF.out]; rfl, by rw [HF.out]; exact hm2, HB2.out⟩
  · rw [hs] at HYG
    have HYH : Hid (Y = passGo (cs.drop (k + 1)) (setM m u) true) := Lib.hid (by rw [HYG.out, if_neg (by simp)])
    clear HYG
    go_wp2_with fail
    go_roundg (GM - 1)
    case measure => omega
    case rel => exact ⟨k + 1, setM m u, true, by omega, by go_num, rfl, hm2, HB2, HYH, by omega, fun _ => by omega⟩

/- (Counter seat) Plain: what unit propagation derives. No program in sight. -/
open Go.ChangeShapes Go.WideShapes Go.ChangeAt Go.RowKit
set_option linter.unusedVariables false

/-- what follows by unit propagation from the literals in L -/
inductive Der (cs : List (List Int)) (L : Int → Prop) : Int → Prop
  | base {l : Int} : L l → Der cs L l
  | step {c : List Int} {i : Nat} {l : Int} : c ∈ cs → c[i]? = some l → (∀ (k : Nat) (n : Int), k ≠ i → c[k]? = some n → Der cs L (-n)) → Der cs L l
def Conf (cs : List (List Int)) (L : Int → Prop) : Prop := [] ∈ cs ∨ ∃ l, Der cs L l ∧ Der cs L (-l)
/-- every literal of the clauses is one of V variables -/
def LitsOk (V : Nat) (cs : List (List Int)) : Prop := ∀ c ∈ cs, ∀ l ∈ c, LitOk V l

theorem Der.mono {cs cs' : List (List Int)} {L L' : Int → Prop} {l : Int} (h : Der cs L l) (hc : ∀ c ∈ cs, c ∈ cs') (hL : ∀ l, L l → L' l) : Der cs' L' l := by
  induction h with
  | base h => exact .base (hL _ h)
  | step hm hi _ ih => exact .step (hc _ hm) hi ih
theorem Der.trans {cs : List (List Int)} {L L' : Int → Prop} {l : Int} (h : Der cs L' l) (hL : ∀ l, L' l → Der cs L l) : Der cs L l := by
  induction h with
  | base h => exact hL _ h
  | step hm hi _ ih => exact .step hm hi ih
theorem Der.lit {V : Nat} {cs : List (List Int)} {L : Int → Prop} {l : Int} (h : Der cs L l) (hc : LitsOk V cs) (hL : ∀ l, L l → LitOk V l) : LitOk V l := by
  cases h with
  | base h => exact hL _ h
  | step hm hi _ => exact hc _ hm _ (List.mem_of_getElem? hi)
theorem Conf.mono {cs cs' : List (List Int)} {L L' : Int → Prop} (h : Conf cs L) (hc : ∀ c ∈ cs, c ∈ cs') (hL : ∀ l, L l → L' l) : Conf cs' L' := by
  rcases h with h | ⟨l, h1, h2⟩
  · exact .inl (hc _ h)
  · exact .inr ⟨l, h1.mono hc hL, h2.mono hc hL⟩

/-- a literal's value -/
def litT (x : List Bool) (l : Int) : Bool := x.getD (l.natAbs - 1) false == decide (0 < l)
theorem litT_neg {x : List Bool} {l : Int} (h : l ≠ 0) : litT x (-l) = !litT x l := by
  unfold litT
  rw [Int.natAbs_neg]
  have : decide (0 < -l) = !decide (0 < l) := by by_cases h1 : 0 < l <;> simp [h1] <;> omega
  rw [this]
  cases x.getD (l.natAbs - 1) false <;> cases decide (0 < l) <;> rfl
def modelB (cs : List (List Int)) (x : List Bool) : Bool := cs.all fun c => c.any (litT x)
theorem Der.sound {cs : List (List Int)} {L : Int → Prop} {l : Int} {x : List Bool} (h : Der cs L l) (hc : ∀ c ∈ cs, ∀ l ∈ c, l ≠ 0) (hx : modelB cs x = true) (hL : ∀ l, L l → litT x l = true) : litT x l = true := by
  induction h with
  | base h => exact hL _ h
  | @step c i l hm hi _ ih =>
    obtain ⟨n, hn, ht⟩ := List.any_eq_true.1 (List.all_eq_true.1 hx c hm)
    obtain ⟨k, hk, he⟩ := List.getElem_of_mem hn
    by_cases hki : k = i
    · subst hki
      rw [List.getElem?_eq_getElem hk, he] at hi
      injection hi with hi
      exact hi ▸ ht
    · have := ih k n hki (by rw [List.getElem?_eq_getElem hk, he])
      rw [litT_neg (hc c hm n hn), ht] at this
      cases this
theorem LitsOk.ne {V : Nat} {cs : List (List Int)} (h : LitsOk V cs) : ∀ c ∈ cs, ∀ l ∈ c, l ≠ 0 := fun c hc l hl => (h c hc l hl).1
theorem Conf.no {V : Nat} {cs : List (List Int)} {L : Int → Prop} {x : List Bool} (h : Conf cs L) (hc : LitsOk V cs) (hLL : ∀ l, L l → LitOk V l) (hx : modelB cs x = true) (hL : ∀ l, L l → litT x l = true) : False := by
  rcases h with h | ⟨l, h1, h2⟩
  · have := List.all_eq_true.1 hx [] h
    simp at this
  · have h3 := h1.sound hc.ne hx hL
    have h4 := h2.sound hc.ne hx hL
    rw [litT_neg (h1.lit hc hLL).1, h3] at h4
    cases h4

theorem idx_inj {V : Nat} {a b : Int} (ha : LitOk V a) (hb : LitOk V b) (h : idx a = idx b) : a = b := by
  obtain ⟨v, hv1, _, h1⟩ := ha.cases
  obtain ⟨u, hu1, _, h2⟩ := hb.cases
  omega
theorem idx_lt {V : Nat} {a : Int} (ha : LitOk V a) : idx a < (V + 1) * 2 := by
  obtain ⟨v, hv1, _, h1⟩ := ha.cases
  omega
theorem setM_len {ms : List Bool} {u : Int} : (setM ms u).length = ms.length := by simp [setM]
theorem hasM_set {V : Nat} {ms : List Bool} {u l : Int} (hlen : ms.length = (V + 1) * 2) (hu : LitOk V u) (hl : LitOk V l) : hasM (setM ms u) l = true ↔ l = u ∨ hasM ms l = true := by
  have hi := idx_lt hu
  unfold hasM setM
  rw [List.getD, List.getElem?_set]
  by_cases e : idx u = idx l
  · have : l = u := idx_inj hl hu e.symm
    subst this
    simp [hlen, hi]
  · have : l ≠ u := fun h => e (by rw [h])
    rw [if_neg e]
    simp [this, List.getD]

theorem unitGo_some {ms : List Bool} : ∀ (c : List Int) (u x : Int), u ≠ 0 → unitGo ms c u = some x → x = u ∧ ∀ n ∈ c, hasM ms (-n) = true
  | [], u, x, _, h => by simp [unitGo] at h; exact ⟨h.symm, by simp⟩
  | l :: r, u, x, hu, h => by
    rw [unitGo] at h
    split at h
    · rename_i hl
      obtain ⟨h1, h2⟩ := unitGo_some r u x hu h
      refine ⟨h1, fun n hn => ?_⟩
      rcases List.mem_cons.1 hn with rfl | hn
      · exact hl
      · exact h2 n hn
    · first | cases h | (rw [if_pos hu] at h; cases h)
theorem unitGo_zero {ms : List Bool} : ∀ (c : List Int), (∀ l ∈ c, l ≠ 0) → unitGo ms c 0 = some 0 → ∀ n ∈ c, hasM ms (-n) = true
  | [], _, _ => by simp
  | l :: r, hc, h => by
    rw [unitGo] at h
    split at h
    · rename_i hl
      intro n hn
      rcases List.mem_cons.1 hn with rfl | hn
      · exact hl
      · exact unitGo_zero r (fun y hy => hc y (by simp [hy])) h n hn
    · rw [if_neg (by simp)] at h
      exact absurd (unitGo_some r l 0 (hc l (by simp)) h).1.symm (hc l (by simp))
theorem unitGo_unit {ms : List Bool} : ∀ (c : List Int) (u : Int), (∀ l ∈ c, l ≠ 0) → unitGo ms c 0 = some u → u ≠ 0 →
    ∃ i, c[i]? = some u ∧ hasM ms (-u) = false ∧ ∀ (k : Nat) (n : Int), k ≠ i → c[k]? = some n → hasM ms (-n) = true
  | [], u, _, h, hu => by simp [unitGo] at h; exact absurd h.symm hu
  | l :: r, u, hc, h, hu => by
    rw [unitGo] at h
    split at h
    · rename_i hl
      obtain ⟨i, h1, h2, h3⟩ := unitGo_unit r u (fun y hy => hc y (by simp [hy])) h hu
      refine ⟨i + 1, by simpa using h1, h2, fun k n hk hn => ?_⟩
      rcases k with _ | k
      · simp at hn; subst hn; exact hl
      · exact h3 k n (by omega) (by simpa using hn)
    · rename_i hl
      rw [if_neg (by simp)] at h
      obtain ⟨rfl, h2⟩ := unitGo_some r l u (hc l (by simp)) h
      refine ⟨0, by simp, by simpa using hl, fun k n hk hn => ?_⟩
      rcases k with _ | k
      · omega
      · exact h2 n (List.mem_of_getElem? (i := k) (by simpa using hn))
theorem unitGo_none1 {ms : List Bool} : ∀ (c : List Int) (u : Int), u ≠ 0 → unitGo ms c u = none → ∃ (i : Nat) (l : Int), c[i]? = some l ∧ hasM ms (-l) = false
  | [], u, _, h => by simp [unitGo] at h
  | l :: r, u, hu, h => by
    rw [unitGo] at h
    split at h
    · obtain ⟨i, n, h1, h2⟩ := unitGo_none1 r u hu h
      exact ⟨i + 1, n, by simpa using h1, h2⟩
    · rename_i hl
      exact ⟨0, l, by simp, by simpa using hl⟩
theorem unitGo_none {ms : List Bool} : ∀ (c : List Int), (∀ l ∈ c, l ≠ 0) → unitGo ms c 0 = none → ∃ (i j : Nat) (l n : Int), i ≠ j ∧ c[i]? = some l ∧ c[j]? = some n ∧ hasM ms (-l) = false ∧ hasM ms (-n) = false
  | [], _, h => by simp [unitGo] at h
  | l :: r, hc, h => by
    rw [unitGo] at h
    split at h
    · obtain ⟨i, j, a, b, h1, h2, h3, h4⟩ := unitGo_none r (fun y hy => hc y (by simp [hy])) h
      exact ⟨i + 1, j + 1, a, b, by omega, by simpa using h2, by simpa using h3, h4⟩
    · rename_i hl
      rw [if_neg (by simp)] at h
      obtain ⟨i, n, h1, h2⟩ := unitGo_none1 r l (hc l (by simp)) h
      exact ⟨0, i + 1, l, n, by omega, by simp, by simpa using h1, by simpa using hl, h2⟩

structure MInv (V : Nat) (cs : List (List Int)) (L : Int → Prop) (ms : List Bool) : Prop where
  len : ms.length = (V + 1) * 2
  der : ∀ l, LitOk V l → hasM ms l = true → Der cs L l
  con : ∀ l, LitOk V l → hasM ms l = true → hasM ms (-l) = false
theorem MInv.set {V : Nat} {cs : List (List Int)} {L : Int → Prop} {ms : List Bool} {u : Int} (h : MInv V cs L ms) (hu : LitOk V u) (hd : Der cs L u) (hn : hasM ms (-u) = false) : MInv V cs L (setM ms u) := by
  refine ⟨by rw [setM_len]; exact h.len, fun l hl hh => ?_, fun l hl hh => ?_⟩
  · rcases (hasM_set h.len hu hl).1 hh with rfl | h1
    · exact hd
    · exact h.der l hl h1
  · apply Bool.eq_false_iff.2
    intro h2
    rcases (hasM_set h.len hu hl).1 hh with rfl | h1 <;> rcases (hasM_set h.len hu hl.neg).1 h2 with h3 | h3
    · have := hl.1; omega
    · rw [hn] at h3; cases h3
    · rw [← h3, Int.neg_neg] at hn; rw [hn] at h1; cases h1
    · rw [h.con l hl h1] at h3; cases h3
/-- the marks are closed at a clause -/
def ClosedAt (ms : List Bool) (c : List Int) : Prop := c ≠ [] ∧ ∀ (i : Nat) (l : Int), c[i]? = some l → (∀ (k : Nat) (n : Int), k ≠ i → c[k]? = some n → hasM ms (-n) = true) → hasM ms l = true

theorem passGo_spec {V : Nat} {cs : List (List Int)} {L : Int → Prop} (hcs : LitsOk V cs) : ∀ (r : List (List Int)) (ms : List Bool) (ch b : Bool) (m : List Bool) (ch' : Bool), (∀ c ∈ r, c ∈ cs) → MInv V cs L ms → passGo r ms ch = (b, m, ch') →
    (b = false → Conf cs L) ∧ (b = true → MInv V cs L m ∧ (∀ l, LitOk V l → hasM ms l = true → hasM m l = true) ∧ (ch' = false → ch = false ∧ m = ms ∧ ∀ c ∈ r, ClosedAt ms c) ∧ (ch' = true → ch = true ∨ m.count false < ms.count false) ∧ m.count false ≤ ms.count false)
  | [], ms, ch, b, m, ch', _, hm, h => by
    rw [passGo] at h
    injection h with h1 h
    injection h with h2 h3
    subst h1 h2 h3
    exact ⟨(fun h => by cases h), fun _ => ⟨hm, fun _ _ h => h, fun h => ⟨h, rfl, by simp⟩, fun h => .inl h, Nat.le_refl _⟩⟩
  | c :: r, ms, ch, b, m, ch', hr, hm, h => by
    have hcc := hr c (by simp)
    have hr' : ∀ d ∈ r, d ∈ cs := fun d hd => hr d (by simp [hd])
    have hne := hcs.ne c hcc
    rw [passGo] at h
    split at h
    · rename_i hu
      obtain ⟨h1, h2⟩ := passGo_spec hcs r ms ch b m ch' hr' hm h
      refine ⟨h1, fun hb => ?_⟩
      obtain ⟨g1, g2, g3, g4, g5⟩ := h2 hb
      refine ⟨g1, g2, fun hch => ?_, g4, g5⟩
      obtain ⟨k1, k2, k3⟩ := g3 hch
      refine ⟨k1, k2, fun d hd => ?_⟩
      rcases List.mem_cons.1 hd with rfl | hd
      · obtain ⟨i, j, a, n, e0, e1, e2, e3, e4⟩ := unitGo_none d hne hu
        refine ⟨by rintro rfl; simp at e1, fun p l hl hall => ?_⟩
        by_cases hp : p = i
        · rw [hall j n (by omega) e2] at e4; cases e4
        · rw [hall i a (by omega) e1] at e3; cases e3
      · exact k3 d hd
    · rename_i u hu
      split at h
      · rename_i h0
        subst h0
        injection h with h1 h
        subst h1
        refine ⟨fun _ => ?_, fun h => by cases h⟩
        have hall := unitGo_zero c hne hu
        rcases c with _ | ⟨l, t⟩
        · exact .inl hcc
        · have hl := hcs _ hcc l (by simp)
          refine .inr ⟨l, .step (i := 0) hcc (by simp) fun k n _ hn => ?_, hm.der _ hl.neg (hall l (by simp))⟩
          have hn' := List.mem_of_getElem? hn
          exact hm.der _ (hcs _ hcc n hn').neg (hall n hn')
      · rename_i h0
        obtain ⟨i, e1, e2, e3⟩ := unitGo_unit c u hne hu h0
        have hul := hcs _ hcc u (List.mem_of_getElem? e1)
        have hclo : hasM ms u = true → ClosedAt ms c := fun hh => by
          refine ⟨by rintro rfl; simp at e1, fun p l hl hall => ?_⟩
          by_cases hp : p = i
          · subst hp
            rw [e1] at hl
            injection hl with hl
            exact hl ▸ hh
          · rw [hall i u (by omega) e1] at e2; cases e2
        split at h
        · rename_i hh
          obtain ⟨h1, h2⟩ := passGo_spec hcs r ms ch b m ch' hr' hm h
          refine ⟨h1, fun hb => ?_⟩
          obtain ⟨g1, g2, g3, g4, g5⟩ := h2 hb
          refine ⟨g1, g2, fun hch => ?_, g4, g5⟩
          obtain ⟨k1, k2, k3⟩ := g3 hch
          refine ⟨k1, k2, fun d hd => ?_⟩
          rcases List.mem_cons.1 hd with rfl | hd
          · exact hclo hh
          · exact k3 d hd
        · rename_i hh
          have hd : Der cs L u := .step hcc e1 fun k n hk hn => hm.der _ (hcs _ hcc n (List.mem_of_getElem? hn)).neg (e3 k n hk hn)
          split at h
          · rename_i hs
            unfold setOk at hs
            unfold hasM at e2
            rw [e2] at hs
            cases hs
          · have hm2 := hm.set hul hd e2
            have hcnt := setM_count (ms := ms) (l := u) (by simpa using hh) (by rw [hm.len]; exact idx_lt hul)
            obtain ⟨h1, h2⟩ := passGo_spec hcs r _ true b m ch' hr' hm2 h
            refine ⟨h1, fun hb => ?_⟩
            obtain ⟨g1, g2, g3, g4, g5⟩ := h2 hb
            refine ⟨g1, fun l hl hlm => g2 l hl ((hasM_set hm.len hul hl).2 (.inr hlm)), fun hch => ?_, fun _ => .inr (by omega), by omega⟩
            exact absurd (g3 hch).1 (by simp)

theorem propGo_spec {V : Nat} {cs : List (List Int)} {L : Int → Prop} (hcs : LitsOk V cs) : ∀ (f : Nat) (ms m : List Bool) (b : Bool), ms.count false + 1 ≤ f → MInv V cs L ms → propGo f cs ms = (b, m) →
    (b = false → Conf cs L) ∧ (b = true → MInv V cs L m ∧ (∀ l, LitOk V l → hasM ms l = true → hasM m l = true) ∧ ∀ c ∈ cs, ClosedAt m c)
  | 0, ms, m, b, hf, _, _ => by omega
  | f + 1, ms, m, b, hf, hm, h => by
    rw [propGo] at h
    rcases hp : passGo cs ms false with ⟨b1, m1, ch1⟩
    rw [hp] at h
    obtain ⟨h1, h2⟩ := passGo_spec hcs cs ms false b1 m1 ch1 (fun _ h => h) hm hp
    cases b1 <;> cases ch1 <;> simp only at h
    · injection h with e1 e2
      subst e1
      exact ⟨fun _ => h1 rfl, fun h => by cases h⟩
    · injection h with e1 e2
      subst e1
      exact ⟨fun _ => h1 rfl, fun h => by cases h⟩
    · injection h with e1 e2
      subst e1 e2
      refine ⟨(fun h => by cases h), fun _ => ?_⟩
      obtain ⟨g1, g2, g3, _, _⟩ := h2 rfl
      obtain ⟨_, k2, k3⟩ := g3 rfl
      subst k2
      exact ⟨g1, g2, k3⟩
    · obtain ⟨g1, g2, _, g4, g5⟩ := h2 rfl
      have g4 := (g4 rfl).resolve_left (by simp)
      obtain ⟨k1, k2⟩ := propGo_spec hcs f m1 m b (by omega) g1 h
      refine ⟨k1, fun hb => ?_⟩
      obtain ⟨j1, j2, j3⟩ := k2 hb
      exact ⟨j1, fun l hl hh => j2 l hl (g2 l hl hh), j3⟩

/-- marks whose set literals are L's: what propagation makes of them -/
theorem propM_spec {V : Nat} {cs : List (List Int)} {L : Int → Prop} {ms : List Bool} (hcs : LitsOk V cs) (hm : MInv V cs L ms) (hL : ∀ l, L l → LitOk V l ∧ hasM ms l = true) :
    ((propM cs ms).1 = false → Conf cs L) ∧ ((propM cs ms).1 = true → ¬ Conf cs L ∧ (propM cs ms).2.length = (V + 1) * 2 ∧ ∀ l, LitOk V l → (hasM (propM cs ms).2 l = true ↔ Der cs L l)) := by
  rcases hp : propM cs ms with ⟨b, m⟩
  obtain ⟨h1, h2⟩ := propGo_spec hcs _ ms m b (Nat.le_refl _) hm hp
  refine ⟨h1, fun hb => ?_⟩
  obtain ⟨g1, g2, g3⟩ := h2 hb
  have hcl : ∀ l, Der cs L l → hasM m l = true := by
    intro l hd
    induction hd with
    | base h => exact g2 _ (hL _ h).1 (hL _ h).2
    | step hc hi _ ih => exact (g3 _ hc).2 _ _ hi ih
  refine ⟨?_, g1.len, fun l hl => ⟨g1.der l hl, hcl l⟩⟩
  rintro (h | ⟨l, k1, k2⟩)
  · exact (g3 _ h).1 rfl
  · have hl := k1.lit hcs fun l hl => (hL l hl).1
    have := g1.con l hl (hcl l k1)
    rw [hcl _ k2] at this
    cases this

theorem startGo_spec {V : Nat} : ∀ (r : List Int) (ms : List Bool) (ok : Bool), (∀ l ∈ r, LitOk V l) → ms.length = (V + 1) * 2 →
    (startGo r ms ok).1.length = (V + 1) * 2 ∧ (∀ l, LitOk V l → (hasM (startGo r ms ok).1 l = true ↔ l ∈ r ∨ hasM ms l = true)) ∧
    ((∀ l, LitOk V l → hasM ms l = true → hasM ms (-l) = false) → ok = true → ((startGo r ms ok).2 = true → ∀ l, LitOk V l → hasM (startGo r ms ok).1 l = true → hasM (startGo r ms ok).1 (-l) = false) ∧
      ((startGo r ms ok).2 = false → ∃ l, LitOk V l ∧ (l ∈ r ∨ hasM ms l = true) ∧ (-l ∈ r ∨ hasM ms (-l) = true))) ∧ (ok = false → (startGo r ms ok).2 = false)
  | [], ms, ok, _, hlen => ⟨hlen, by simp [startGo], fun h hok => ⟨fun _ => h, fun h => by rw [startGo, hok] at h; cases h⟩, fun h => h⟩
  | l :: r, ms, ok, hr, hlen => by
    have hl := hr l (by simp)
    rw [startGo]
    obtain ⟨h1, h2, h3, h4⟩ := startGo_spec r (setM ms l) (setOk ms l && ok) (fun y hy => hr y (by simp [hy])) (by rw [setM_len]; exact hlen)
    refine ⟨h1, fun y hy => ?_, fun hcon hok => ?_, fun hok => h4 (by rw [hok]; simp)⟩
    · rw [h2 y hy, hasM_set hlen hl hy, List.mem_cons]
      constructor
      · rintro (h | h | h)
        · exact .inl (.inr h)
        · exact .inl (.inl h)
        · exact .inr h
      · rintro ((h | h) | h)
        · exact .inr (.inl h)
        · exact .inl h
        · exact .inr (.inr h)
    · subst hok
      rcases hs : setOk ms l with _ | _
      · have hx : hasM ms (-l) = true := by simpa [setOk, hasM] using hs
        have hf := h4 (by rw [hs]; rfl)
        rw [hs] at hf
        exact ⟨(fun h => by rw [hf] at h; cases h), fun _ => ⟨l, hl, .inl (by simp), .inr hx⟩⟩
      · have hx : hasM ms (-l) = false := by simpa [setOk, hasM] using hs
        rw [hs] at h3
        obtain ⟨k1, k2⟩ := h3 (fun y hy hh => by
          apply Bool.eq_false_iff.2
          intro h2'
          rcases (hasM_set hlen hl hy).1 hh with rfl | g1 <;> rcases (hasM_set hlen hl hy.neg).1 h2' with g3 | g3
          · have := hy.1; omega
          · rw [hx] at g3; cases g3
          · rw [← g3, Int.neg_neg] at hx; rw [hx] at g1; cases g1
          · rw [hcon y hy g1] at g3; cases g3) rfl
        refine ⟨k1, fun hf => ?_⟩
        obtain ⟨y, hy, e1, e2⟩ := k2 hf
        refine ⟨y, hy, ?_, ?_⟩
        · rw [List.mem_cons]
          rcases e1 with e | e
          · exact .inl (.inr e)
          · rcases (hasM_set hlen hl hy).1 e with e | e
            · exact .inl (.inl e)
            · exact .inr e
        · rw [List.mem_cons]
          rcases e2 with e | e
          · exact .inl (.inr e)
          · rcases (hasM_set hlen hl hy.neg).1 e with e | e
            · exact .inl (.inl e)
            · exact .inr e
theorem hasM_zero (n : Nat) (l : Int) : hasM (List.replicate n false) l = false := by
  unfold hasM
  rw [List.getD, List.getElem?_replicate]
  split <;> rfl
theorem startM_spec {V : Nat} {lits : List Int} (h : ∀ l ∈ lits, LitOk V l) :
    (startM V lits).1.length = (V + 1) * 2 ∧ (∀ l, LitOk V l → (hasM (startM V lits).1 l = true ↔ l ∈ lits)) ∧
    ((startM V lits).2 = true → ∀ l, LitOk V l → hasM (startM V lits).1 l = true → hasM (startM V lits).1 (-l) = false) ∧ ((startM V lits).2 = false → ∃ l, l ∈ lits ∧ -l ∈ lits) := by
  obtain ⟨h1, h2, h3, h4⟩ := startGo_spec lits (List.replicate ((V + 1) * 2) false) true h (by simp)
  obtain ⟨h5, h6⟩ := h3 (fun l _ hh => by rw [hasM_zero] at hh; cases hh) rfl
  refine ⟨h1, fun l hl => (h2 l hl).trans (by rw [hasM_zero]; simp), h5, fun hf => ?_⟩
  obtain ⟨l, hl, e1, e2⟩ := h6 hf
  rw [hasM_zero] at e1 e2
  exact ⟨l, by simpa using e1, by simpa using e2⟩

/-- both together: Propagate's marks -/
theorem marks_spec {V : Nat} {cs : List (List Int)} {lits : List Int} (hcs : LitsOk V cs) (h : ∀ l ∈ lits, LitOk V l) :
    (((startM V lits).2 && (propM cs (startM V lits).1).1) = false → Conf cs (· ∈ lits)) ∧
    (((startM V lits).2 && (propM cs (startM V lits).1).1) = true → ¬ Conf cs (· ∈ lits) ∧ (propM cs (startM V lits).1).2.length = (V + 1) * 2 ∧ ∀ l, LitOk V l → (hasM (propM cs (startM V lits).1).2 l = true ↔ Der cs (· ∈ lits) l)) := by
  obtain ⟨h1, h2, h3, h4⟩ := startM_spec h
  rcases hs : (startM V lits).2 with _ | _
  · refine ⟨fun _ => ?_, fun h => by simp at h⟩
    obtain ⟨l, e1, e2⟩ := h4 hs
    exact .inr ⟨l, .base e1, .base e2⟩
  · simp only [Bool.true_and]
    exact propM_spec hcs ⟨h1, fun l hl hh => .base ((h2 l hl).1 hh), h3 hs⟩ fun l hl => ⟨h l hl, (h2 l (h l hl)).2 hl⟩
end Go.Proofs.YthanfjpmcckbhaaGreatDoor
