/- Walks of layer 31: set over marks that are owned, and start. -/
import Derived.Test.YtjbhglmmakkkgaaSw2
namespace Go.Proofs.Ytjbhglmmakkkgaa
open Go.ChangeShapes Go.WideShapes Go.ChangeAt Go.RowKit
set_option linter.unusedVariables false

/-- where a literal's mark lies -/
def idx (l : Int) : Nat := if l < 0 then (-l).toNat * 2 else l.toNat * 2 + 1
def LitOk (V : Nat) (l : Int) : Prop := l ≠ 0 ∧ -(V : Int) ≤ l ∧ l ≤ V
theorem LitOk.cases {V : Nat} {l : Int} (h : LitOk V l) : ∃ v : Nat, 1 ≤ v ∧ v ≤ V ∧ (l = v ∧ idx l = v * 2 + 1 ∧ idx (-l) = v * 2 ∨ l = -v ∧ idx l = v * 2 ∧ idx (-l) = v * 2 + 1) := by
  obtain ⟨h1, h2, h3⟩ := h
  refine ⟨l.natAbs, by omega, by omega, ?_⟩
  unfold idx
  by_cases h : l < 0
  · right; rw [if_pos h, if_neg (by omega)]; omega
  · left; rw [if_neg h, if_pos (by omega)]; omega
theorem LitOk.neg {V : Nat} {l : Int} (h : LitOk V l) : LitOk V (-l) := by unfold LitOk at *; omega
/-- set: writes a literal's mark and says whether the other one is clear -/
def setOk (ms : List Bool) (l : Int) : Bool := !(ms.getD (idx (-l)) false)
def setM (ms : List Bool) (l : Int) : List Bool := ms.set (idx l) true
def hasM (ms : List Bool) (l : Int) : Bool := ms.getD (idx l) false

/-- marks that are owned -/
def Marks (w : World) (base g V : Nat) (ms : List Bool) : Prop :=
  w.ownsRow base 64 2 (.slice (some ⟨g, 0, none⟩) (V + 1) (V + 1)) (V + 1) (ms.map .bool)
theorem Marks.cell {w : World} {base g V : Nat} {ms : List Bool} (h : Marks w base g V ms) (i : Nat) (hi : i < (V + 1) * 2) : w.cell? ⟨g, i, none⟩ = some (.bool (ms.getD i false)) := by
  have h1 := World.ownsRow.cellAt h i hi
  have h2 : ms.length = (V + 1) * 2 := by simpa using h.1
  rw [h1, List.getElem?_map, List.getD, List.getElem?_eq_getElem (by omega)]
  rfl
theorem Marks.frozen {w : World} {base g V : Nat} {ms : List Bool} (h : Marks w base g V ms) (i : Nat) : w.frozen? ⟨g, i, none⟩ = false := World.ownsRow.frozenAt h i
theorem Marks.set {w : World} {base g V : Nat} {ms : List Bool} (h : Marks w base g V ms) (i : Nat) (b : Bool) : Marks (w.setCell ⟨g, i, none⟩ (.bool b)) base g V (ms.set i b) := by
  have := (World.ownsRow.stored h i (.bool b)).1
  rwa [← List.map_set] at this
theorem Marks.lt {w : World} {base g V : Nat} {ms : List Bool} (h : Marks w base g V ms) : base ≤ g ∧ g < w.heap.size := World.ownsRow.lt h g rfl
theorem Marks.below {w w' : World} {base g V : Nat} {ms : List Bool} (h : Marks w base g V ms) (hb : Below w.heap.size w w') : Marks w' base g V ms := own_below h hb

theorem mset_own {w : World} {base g V : Nat} {ms : List Bool} {l : Int} (h : Marks w base g V ms) (hV : V ≤ 1000000) (hl : LitOk V l) :
    Calls Try.prog 44 #[.slice (some ⟨g, 0, none⟩) (V + 1) (V + 1), .int .i64 l] w fun e w' => e = .returned (.bool (setOk ms l)) ∧ w' = w.setCell ⟨g, idx l, none⟩ (.bool true) := by
  obtain ⟨v, hv1, hv2, h1⟩ := hl.cases
  rcases h1 with ⟨rfl, e1, e2⟩ | ⟨rfl, e1, e2⟩
  · have := mset_pos g (V + 1) (V + 1) v _ _ w (by omega) (by omega) (h.cell _ (by omega)) (h.cell _ (by omega)) (h.frozen _)
    unfold setOk
    rw [e1, e2]
    exact this
  · have := mset_neg g (V + 1) (V + 1) v _ _ w (by omega) (by omega) hv1 (h.cell _ (by omega)) (h.cell _ (by omega)) (h.frozen _)
    unfold setOk
    rw [e1, e2]
    exact this
theorem mhas_own {w : World} {base g V : Nat} {ms : List Bool} {l : Int} (h : Marks w base g V ms) (hV : V ≤ 1000000) (hl : LitOk V l) :
    Calls Try.prog 47 #[.slice (some ⟨g, 0, none⟩) (V + 1) (V + 1), .int .i64 l] w fun e w' => e = .returned (.bool (hasM ms l)) ∧ w' = w := by
  obtain ⟨v, hv1, hv2, h1⟩ := hl.cases
  unfold hasM
  rcases h1 with ⟨rfl, e1, e2⟩ | ⟨rfl, e1, e2⟩
  · rw [e1]
    exact mhas_pos g (V + 1) (V + 1) v _ w (by omega) (by omega) (h.cell _ (by omega))
  · rw [e1]
    exact mhas_neg g (V + 1) (V + 1) v _ w (by omega) (by omega) hv1 (h.cell _ (by omega))

/-- start -/
def startGo : List Int → List Bool → Bool → List Bool × Bool
  | [], ms, ok => (ms, ok)
  | l :: r, ms, ok => startGo r (setM ms l) (setOk ms l && ok)
def startM (V : Nat) (lits : List Int) : List Bool × Bool := startGo lits (List.replicate ((V + 1) * 2) false) true
def StartPost (W : World) (V : Nat) (R : List Bool × Bool) (e : Ending) (w' : World) : Prop :=
  ∃ g, e = .returned (.tuple #[.slice (some ⟨g, 0, none⟩) (V + 1) (V + 1), .bool R.2]) ∧ Marks w' W.heap.size g V R.1 ∧ Below W.heap.size W w'
theorem made_pairs (n : Nat) : (madeCells (Value.cells (.agg #[.bool false, .bool false])) (n * 2)).toList = (List.replicate (n * 2) false).map .bool := by
  apply List.ext_getElem?
  intro i
  rcases Nat.mod_two_eq_zero_or_one i with h0 | h0 <;> by_cases h : i < n * 2 <;> simp [madeCells, Value.cells, h, h0]

set_option maxHeartbeats 4000000 in
theorem start_any (F : Nat → Prop) (V : Nat) (lv : Value) (lits : List Int) (w : World) (hl : Ints F w lv lits) (hV : V ≤ 1000000) (hlits : ∀ l ∈ lits, LitOk V l) :
    Calls Try.prog 35 #[.int .i64 (V : Int), lv] w (StartPost w V (startM V lits)) := by
  obtain ⟨a, n, c, rfl, HN, hn⟩ := hl.form'
  have hinfo : (Try.prog.info? 64).map (fun i => (i.zero, i.size, i.bytes)) = some (some (.agg #[.bool false, .bool false]), 2, 2) := by kernel_rfl
  obtain ⟨i0, g1, g2, g3, g4⟩ := info_parts hinfo
  have G1 := Lib.hid g1
  have G2 := Lib.hid g2
  have G3 := Lib.hid g3
  have G4 := Lib.hid g4
  obtain ⟨R, hR⟩ : ∃ R, startM V lits = R := ⟨_, rfl⟩
  have HR : Hid (R = startGo (lits.drop 0) (List.replicate ((V + 1) * 2) false) true) := Lib.hid hR.symm
  rw [hR]
  have HL := Lib.hid hl
  have HLO := Lib.hid hlits
  clear hl hinfo g1 g2 g3 g4 hR hlits
  go_enter Try.func35, Try.ntmps35
  go_upto_region 2 with (at_make; refine wpList_make_full _ rfl _ _ 60 rfl w.heap.size 64 i0 (.agg #[.bool false, .bool false]) 2 (by kernel_rfl) G1.out G2.out G3.out .i64 .i64 _ _ (V + 1) rfl rfl (by simp) (by simp) (by rw [G4.out]; omega) (by unfold maxLen; omega) (by simp) ?_; intro w1 hown1 hg1)
  have hmk : Marks w1 w.heap.size w.heap.size V (List.replicate ((V + 1) * 2) false) := by
    unfold Marks
    rw [made_pairs] at hown1
    exact hown1
  have HB1 : Hid (Below w.heap.size w w1) := Lib.hid ((Below.refl _ _).grown hg1 (Nat.le_refl _) (by intro k hk; cases hk))
  clear hown1 hg1
  go_wp2
  go_loopg [7, 15] n (fun g u7 u15 wx => ∃ (k : Nat) (ms : List Bool) (ok : Bool), k + g = n ∧ u15 = .int .i64 k ∧ u7 = .bool ok ∧ Marks wx w.heap.size w.heap.size V ms ∧ Hid (Below w.heap.size w wx) ∧ Hid (R = startGo (lits.drop k) ms ok))
  case atStart => exact ⟨0, _, true, by omega, rfl, rfl, hmk, HB1, HR⟩
  case round =>
  obtain ⟨k, ms, ok, hkg, rfl, rfl, hm, HB, hinv⟩ := hrel
  by_cases hk : k < n
  case neg =>
    have HF : Hid (R = (ms, ok)) := Lib.hid (by rw [hinv.out, List.drop_eq_nil_of_le (by have := HN.out; omega)]; rfl)
    have hk2 : n ≤ k := by omega
    clear hinv hk
    go_wp2
    go_ret2
    exact ⟨_, by rw [HF.out]; rfl, by rw [HF.out]; exact hm, HB.out⟩
  obtain ⟨x, hx, e⟩ := drop_at (xs := lits) (k := k) (by have := HN.out; omega)
  have hll := HL.out.below HB.out
  obtain ⟨b, o, rfl, _, hb, hc, _⟩ := hll.at hx
  have HX : Hid (LitOk V x) := Lib.hid (HLO.out x (List.mem_of_getElem? hx))
  have HE : Hid (R = startGo (lits.drop (k + 1)) (setM ms x) (setOk ms x && ok)) := Lib.hid (by rw [hinv.out, e]; rfl)
  clear hinv e hx hll
  go_wp2_with fail
  refine (mset_own hm hV HX.out).mono ?_
  rintro e w2 ⟨rfl, rfl⟩
  have hm2 := hm.set (idx x) true
  have HB2 := Lib.hid (HB.out.setCell (p := ⟨w.heap.size, idx x, none⟩) (Nat.le_refl _) (.bool true))
  rcases hs : setOk ms x with _ | _
  · rw [hs] at HE
    go_wp2_with fail
    go_roundg (gk - 1)
    case measure => omega
    case rel => exact ⟨k + 1, _, false, by omega, by go_num, rfl, hm2, HB2, HE⟩
  · rw [hs] at HE
    go_wp2_with fail
    go_roundg (gk - 1)
    case measure => omega
    case rel => exact ⟨k + 1, _, ok, by omega, by go_num, rfl, hm2, HB2, HE⟩
end Go.Proofs.Ytjbhglmmakkkgaa
