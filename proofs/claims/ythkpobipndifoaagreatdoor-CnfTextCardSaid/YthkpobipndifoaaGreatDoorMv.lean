/- (Text seat) Walks: strconv.Atoi at this program, number of the reader of the package cnf. Condition: the tables and strconv.ErrSyntax lie as laid. -/
import Derived.Test.YthkpobipndifoaaGreatDoorMt
import Derived.Test.YthkpobipndifoaaGreatDoorTk
import Derived.Shelf.Strconv.ErrVar
import Derived.Shelf.Strconv.Atoi
import Derived.Deep.QuietTactic
import Derived.BigQuiet
namespace Go.Proofs.YthkpobipndifoaaGreatDoor
open Go.ChangeShapes Go.WideShapes Go.ChangeAt Go.RowKit Go.Lib
set_option linter.unusedVariables false
set_option linter.unusedSimpArgs false

/-- the sentinel lies below B -/
def SynT (B : Nat) (w : World) : Prop := ∃ tp p, ∀ w', Below B w w' → w'.var? Tryz.prog "strconv.ErrSyntax" = some #[.iface tp p]
theorem SynT.on {B : Nat} {w w1 : World} (h : SynT B w) (hb : Below B w w1) : SynT B w1 := let ⟨tp, p, h1⟩ := h; ⟨tp, p, fun w' h' => h1 w' (hb.trans h')⟩
theorem SynT.below {B B' : Nat} {w w' : World} (h : SynT B w) (hb : Below B' w w') (hle : B ≤ B') : SynT B w' := h.on (hb.mono hle)
def AtPost (W : World) (t : Bts) (e : Ending) (w' : World) : Prop :=
  ∃ ev, e = .returned (.tuple #[.int .i64 (valM t), ev]) ∧ (ev = .nilIface ∧ (atoi t).isSome = true ∨ ∃ T p, ev = .iface T p ∧ atoi t = none) ∧ Below W.heap.size W w'
theorem atoi_any (B : Nat) (s : ByteArray) (t : Bts) (w : World) (hs : s.data.toList = t) (hl : t.length ≤ 18) (hy : SynT B w) : Calls Tryz.prog 36 #[.string s] w (AtPost w t) := by
  have hsz : s.size ≤ 18 := by rw [← hs] at hl; simpa using hl
  rcases ha : atoi t with _ | n
  · obtain ⟨tp, p, hv⟩ := hy
    refine (Any.strconv_Atoi_err_var atoiC s hsz (by rw [hs]; exact ha) tp p w (hv w (Below.refl _ _))).mono ?_
    rintro e w' ⟨N, rfl, _, _, hb⟩
    exact ⟨_, by unfold valM; rw [ha]; rfl, .inr ⟨_, _, rfl, ha⟩, hb⟩
  · refine (Any.strconv_Atoi { atoiC with } s n hsz (by rw [hs]; exact ha) w).mono ?_
    rintro e w' ⟨rfl, u, rfl⟩
    exact ⟨_, by unfold valM; rw [ha]; rfl, .inl ⟨rfl, by rw [ha]; rfl⟩, Lib.bytesWorld_below _ _ _⟩
/-- what the loop has still to take -/
def restM (j : Nat) (r : Bts) : Bts := if j = 0 then tokM r else digGo (10 - j) (r.drop j)
theorem rest_no {j : Nat} {r : Bts} (h : r.length ≤ j) : restM j r = [] := by
  unfold restM
  split
  · rename_i h0
    subst h0
    rw [List.eq_nil_of_length_eq_zero (by omega : r.length = 0)]
    rfl
  · rw [List.drop_eq_nil_of_le h]
    rcases 10 - j with _ | k <;> simp [digGo]
theorem rest_ten {j : Nat} {r : Bts} (h : 10 ≤ j) : restM j r = [] := by
  unfold restM
  rw [if_neg (by omega), show 10 - j = 0 by omega, digGo]
theorem rest_yes {j : Nat} {r : Bts} {y : UInt8} (hj : j < 10) (hy : r[j]? = some y) (h : isDig y = true ∨ (j = 0 ∧ y = 45)) : restM j r = y :: restM (j + 1) r := by
  obtain ⟨hl, he⟩ := List.getElem?_eq_some_iff.1 hy
  have hd := List.drop_eq_getElem_cons hl
  rw [he] at hd
  unfold restM
  rw [if_neg (Nat.succ_ne_zero j)]
  by_cases h0 : j = 0
  · subst h0
    rw [if_pos rfl]
    rw [List.drop_zero] at hd
    conv => lhs; rw [hd]
    rw [tokM, if_pos (h.imp id fun h => h.2)]
  · rw [if_neg h0, hd, show 10 - j = (10 - (j + 1)) + 1 by omega, digGo, if_pos (h.elim id fun h => absurd h.1 h0)]
theorem rest_stop {j : Nat} {r : Bts} {y : UInt8} (hj : j < 10) (hy : r[j]? = some y) (h : ¬ (isDig y = true ∨ (j = 0 ∧ y = 45))) : restM j r = [] := by
  obtain ⟨hl, he⟩ := List.getElem?_eq_some_iff.1 hy
  have hd := List.drop_eq_getElem_cons hl
  rw [he] at hd
  unfold restM
  by_cases h0 : j = 0
  · subst h0
    rw [if_pos rfl]
    rw [List.drop_zero] at hd
    rw [hd, tokM, if_neg fun h2 => h (h2.imp id fun h => ⟨rfl, h⟩)]
  · rw [if_neg h0, hd, show 10 - j = (10 - (j + 1)) + 1 by omega, digGo, if_neg fun h2 => h (.inl h2)]
theorem ba_at {T : ByteArray} {t : Bts} {p : Nat} {y : UInt8} (hT : T = BA t) (hy : t[p]? = some y) (h : p < T.size) : (T[p]'h).toNat = y.toNat := by
  subst hT
  have h2 := (List.getElem?_eq_some_iff.1 hy).2
  rw [← h2]
  rfl
theorem ba_ext (t : Bts) (a p : Nat) : ((BA t).extract a p).data.toList = (t.drop a).take (p - a) := by
  simp [ByteArray.data_extract, List.drop_take]
theorem bad_some {t : Bts} (h : (atoi t).isSome = true) : badM t = (itoa (valM t) != t) := by
  unfold badM valM
  rcases ha : atoi t with _ | n
  · rw [ha] at h; cases h
  · rfl
theorem bad_none {t : Bts} (h : atoi t = none) : badM t = true := by unfold badM; rw [h]
theorem val_i64 {t : Bts} (h : t.length ≤ 10) : I64 (valM t) := by
  unfold valM
  rcases ha : atoi t with _ | n
  · exact ⟨by decide, by decide⟩
  · have := atoi_bound ha (by omega)
    show I64 n
    unfold I64
    omega
def NumPost (W : World) (R : Nat) (T : ByteArray) (t : Bts) (a : Nat) (b : Bool) (e : Ending) (w' : World) : Prop :=
  ∃ a', e = .returned (.int .i64 (numV (t.drop a))) ∧ RdS w' R T a' (b || numB (t.drop a)) ∧ a' ≤ t.length ∧ t.drop a' = numR (t.drop a) ∧ KpR R W w'
end Go.Proofs.YthkpobipndifoaaGreatDoor
