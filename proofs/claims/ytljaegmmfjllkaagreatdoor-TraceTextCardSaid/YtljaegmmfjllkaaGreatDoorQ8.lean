/- slices.Sort of ints that the call owns; what occurs (plain). No condition but the lengths. -/
import Derived.Test.YtljaegmmfjllkaaGreatDoorTd
import Derived.Test.YtljaegmmfjllkaaGreatDoorKd
import Derived.Test.YtljaegmmfjllkaaGreatDoorKp
import Derived.Shelf.Sort.Plain
import Derived.Shelf.Slices.In.SortNone
namespace Go.Proofs.YtljaegmmfjllkaaGreatDoor
open Go.ChangeShapes Go.WideShapes Go.ChangeAt Go.RowKit
set_option linter.unusedVariables false

theorem merge_asc (xs : List Int) : (xs.mergeSort fun x y => decide (x ≤ y)).Pairwise (fun a b => a ≤ b) := by
  have := List.pairwise_mergeSort (le := fun x y : Int => decide (x ≤ y)) (fun a b c h1 h2 => by simp at *; omega) (fun a b => by simp; omega) xs
  exact this.imp fun h => by simpa using h
/-- what Sort leaves -/
def SortOPost (W : World) (base : Nat) (e : TypeId) (v : Value) (xs : List Int) (r : Ending) (w' : World) : Prop :=
  r = .returned (.tuple #[]) ∧ ∃ ts : List Int, ts.Perm xs ∧ (ts.Pairwise fun a b => a ≤ b) ∧ w'.ownsRow base e 1 v xs.length (ts.map (.int .i64)) ∧ W.grownBy w' v.ownBlock
theorem sorto_own (w : World) (base : Nat) (e : TypeId) (v : Value) (xs : List Int) (hown : w.ownsRow base e 1 v xs.length (xs.map (.int .i64))) (hl : xs.length < 4611686018427387904) :
    Calls Tryz.prog 48 #[v] w (SortOPost w base e v xs) := by
  rcases hown.2 with ⟨rfl, h0⟩ | ⟨b, cap, cur, rfl, hbase, hb, hn, hcap, hcs, ht⟩
  · obtain rfl : xs = [] := List.eq_nil_of_length_eq_zero h0
    refine (Any.slices_Sort_int_none sortO none 0 w).mono ?_
    rintro r w' ⟨rfl, rfl⟩
    exact ⟨rfl, [], List.Perm.refl _, List.Pairwise.nil, hown, ⟨rfl, rfl, rfl, Nat.le_refl _, fun _ _ _ => rfl⟩⟩
  · have hg : b < w.heap.size := (Array.getElem?_eq_some_iff.1 hb).1
    rw [Nat.mul_one] at ht
    have hH := holds_own (Value.int .i64) hb ht
    refine (Any.slices_Sort_int sortO b 0 cap xs w hH hg hl).mono ?_
    rintro r w' ⟨rfl, n, os, rfl⟩
    have hp := List.mergeSort_perm xs fun x y => decide (x ≤ y)
    have ha := merge_asc xs
    generalize (xs.mergeSort fun x y => decide (x ≤ y)) = ts at *
    have hd := hp.length_eq
    refine ⟨rfl, ts, hp, ha, ?_, sorted_grown (Value.int .i64) ts.toArray⟩
    refine ⟨by simp [hd], .inr ⟨b, cap, _, rfl, hbase, sorted_block (Value.int .i64) ts.toArray hb, hn, hcap, by simp [Sort.putCells, hcs], ?_⟩⟩
    rw [Nat.mul_one, ← hd]
    exact sorted_take (Value.int .i64) cur ts (by omega)

/-! ### what occurs -/
def magR (x : Int) : Bool := decide (1 ≤ x) && decide (x ≤ 20000)
def magsC (c : List Int) : List Int := (c.map varM).filter magR
def mags (cs : List (List Int)) : List Int := cs.flatMap magsC
theorem cmpCmp : Cmp cmpM := ⟨cmpM_flip, fun _ _ => cmpM_zero, fun a b c h1 h2 => by rw [cmpM_lt] at *; omega⟩
theorem strict_ext {α : Type} {c : α → α → Int} (h : Cmp c) : ∀ (l m : List α), Strict c l → Strict c m → (∀ x, x ∈ l ↔ x ∈ m) → l = m
  | [], [], _, _, _ => rfl
  | [], b :: s, _, _, hm => by have := (hm b).2 (List.mem_cons_self ..); cases this
  | a :: r, [], _, _, hm => by have := (hm a).1 (List.mem_cons_self ..); cases this
  | a :: r, b :: s, hl, hs, hm => by
    obtain ⟨l1, l2⟩ := List.pairwise_cons.1 hl
    obtain ⟨s1, s2⟩ := List.pairwise_cons.1 hs
    have hself : ∀ x, ¬ c x x < 0 := fun x hx => by have := (h.eq x x).2 rfl; omega
    have hab : a = b := by
      rcases List.mem_cons.1 ((hm a).1 (List.mem_cons_self ..)) with h1 | h1
      · exact h1
      · rcases List.mem_cons.1 ((hm b).2 (List.mem_cons_self ..)) with h2 | h2
        · exact h2.symm
        · exact absurd (h.tr a b a (l1 b h2) (s1 a h1)) (hself a)
    subst hab
    rw [strict_ext h r s l2 s2 fun x => by
      constructor
      · intro hx
        rcases List.mem_cons.1 ((hm x).1 (List.mem_cons_of_mem _ hx)) with h1 | h1
        · subst h1
          exact absurd (l1 x hx) (hself x)
        · exact h1
      · intro hx
        rcases List.mem_cons.1 ((hm x).2 (List.mem_cons_of_mem _ hx)) with h1 | h1
        · subst h1
          exact absurd (s1 x hx) (hself x)
        · exact h1]
/-- what Occur hands back: the variables that occur, ascending -/
def OccPost (W : World) (cs : List (List Int)) (e : Ending) (w' : World) : Prop :=
  ∃ v os, e = .returned v ∧ Ints (fun b => W.heap.size ≤ b) w' v os ∧ Below W.heap.size W w' ∧ Strict cmpM os ∧ ∀ x, x ∈ os ↔ x ∈ mags cs
theorem mags_I64 {cs : List (List Int)} {x : Int} (h : x ∈ mags cs) : 1 ≤ x ∧ x ≤ 20000 := by
  unfold mags magsC at h
  obtain ⟨c, _, hx⟩ := List.mem_flatMap.1 h
  rw [List.mem_filter] at hx
  have := hx.2
  unfold magR at this
  simp at this
  exact this
theorem asc_cpt {ts : List Int} (h : ts.Pairwise fun a b => a ≤ b) : Strict cmpM (cptM ts) :=
  (cpt_strict cmpCmp none ts (h.imp fun {a b} hab => by rw [cmpM_lt]; omega) fun q hq => by cases hq).1
theorem asc_nodup {ts : List Int} (h : ts.Pairwise fun a b => a ≤ b) (hn : ts.Nodup) : Strict cmpM ts := by
  have := h.and hn
  exact this.imp fun {a b} hab => by rw [cmpM_lt]; have := hab.1; have := hab.2; omega
theorem cptM_has {α : Type} [DecidableEq α] : ∀ (p : Option α) (l : List α) (x : α), x ∈ l → x ∈ cptG p l ∨ p = some x
  | p, y :: r, x, h => by
    rw [cptG]
    split
    · rename_i e
      rcases List.mem_cons.1 h with rfl | h
      · exact .inr e
      · rcases cptM_has (some y) r x h with h1 | h1
        · exact .inl h1
        · exact .inr (e.trans h1)
    · rcases List.mem_cons.1 h with rfl | h
      · exact .inl (List.mem_cons_self ..)
      · rcases cptM_has (some y) r x h with h1 | h1
        · exact .inl (List.mem_cons_of_mem _ h1)
        · injection h1 with h1
          subst h1
          exact .inl (List.mem_cons_self ..)
theorem cptM_in {α : Type} [DecidableEq α] {l : List α} {x : α} : x ∈ cptM l ↔ x ∈ l :=
  ⟨fun h => cptG_sub none l x h, fun h => (cptM_has none l x h).resolve_right fun e => by cases e⟩
theorem varM_u64 (y : Int) (h : I64 y) : 0 ≤ varM y ∧ varM y ≤ 9223372036854775808 := by
  unfold varM
  obtain ⟨h1, h2⟩ := h
  split <;> omega
end Go.Proofs.YtljaegmmfjllkaaGreatDoor
