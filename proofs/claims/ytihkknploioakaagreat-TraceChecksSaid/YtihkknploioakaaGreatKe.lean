/- slices.Compact over a slice of ints that the call owns: the kit's contract in the words of these walks. No condition but the length. -/
import Derived.Test.YtihkknploioakaaGreatKp
import Derived.Test.YtihkknploioakaaGreatKc
import Derived.Test.YtihkknploioakaaGreatTc
import Derived.Shelf.Slices.CompactI
import Derived.Sort.OwnSortedInts
import Derived.Lib.RowBridge
namespace Go.Proofs.YtihkknploioakaaGreat
open Go.ChangeShapes Go.WideShapes Go.ChangeAt Go.RowKit
set_option linter.unusedVariables false

theorem compact_cpt {α : Type} [Inhabited α] [DecidableEq α] (zs : List α) : ∀ (m k : Nat), k + m = zs.length →
    ((List.range' k m).filter (Lib.keeps zs.toArray)).map (zs.toArray[·]!) = cptG (if k = 0 then none else zs[k - 1]?) (zs.drop k)
  | 0, k, h => by rw [List.drop_eq_nil_of_le (by omega)]; rfl
  | m + 1, k, h => by
    obtain ⟨x, hx, e⟩ := drop_at (xs := zs) (k := k) (by omega)
    have ih := compact_cpt zs m (k + 1) (by omega)
    rw [if_neg (by omega), Nat.add_sub_cancel, hx] at ih
    have hxd : zs.toArray[k]! = x := by
      rw [getElem!_pos _ k (by simp; omega)]
      simp
      rw [List.getElem?_eq_getElem (by omega)] at hx
      injection hx
    rw [List.range'_succ, List.filter_cons, e, cptG]
    by_cases hk : k = 0
    · subst hk
      rw [if_pos (Lib.keeps_lt_one _ 0 (by omega)), if_pos rfl, if_neg (by simp), List.map_cons, ih, hxd]
    · obtain ⟨y, hy⟩ : ∃ y, zs[k - 1]? = some y := ⟨_, List.getElem?_eq_getElem (by omega)⟩
      have hyd : zs.toArray[k - 1]! = y := by
        rw [getElem!_pos _ (k - 1) (by simp; omega)]
        simp
        rw [List.getElem?_eq_getElem (by omega)] at hy
        injection hy
      rw [if_neg hk, hy]
      by_cases hxy : y = x
      · have hk1 : Lib.keeps zs.toArray k = false := Lib.keeps_neg (by omega) (by rw [hxd, hyd, hxy])
        rw [hk1, if_neg (by simp), ih, if_pos (by rw [hxy])]
      · have hk1 : Lib.keeps zs.toArray k = true := Lib.keeps_pos (by rw [hxd, hyd]; exact fun h => hxy h.symm)
        rw [hk1, if_pos rfl, List.map_cons, ih, hxd, if_neg (fun h => hxy (by injection h))]
theorem compact_eq {α : Type} [Inhabited α] [DecidableEq α] (zs : List α) : Lib.compact zs = cptM zs := by
  have h := compact_cpt zs zs.length 0 (by omega)
  rw [if_pos rfl, List.drop_zero, ← List.range_eq_range'] at h
  exact h

/-- what Compact leaves -/
def CompactPost (W : World) (base : Nat) (e : TypeId) (v : Value) (us : List Value) (r : Ending) (w' : World) : Prop :=
  ∃ v', r = .returned v' ∧ w'.ownsRow base e 1 v' us.length us ∧ v'.ownBlock = v.ownBlock ∧ W.grownBy w' v.ownBlock
theorem compact_own (w : World) (base : Nat) (e : TypeId) (v : Value) (xs : List Int) (hown : w.ownsRow base e 1 v xs.length (xs.map (.int .i64))) (hl : xs.length ≤ 9223372036854775807) :
    Calls Tryz.prog 40 #[v] w (CompactPost w base e v ((cptM xs).map (.int .i64))) := by
  rcases hown.2 with ⟨rfl, h0⟩ | ⟨b, cap, cur, rfl, hbase, hb, hn, hcap, hcs, ht⟩
  · obtain rfl : xs = [] := List.eq_nil_of_length_eq_zero h0
    refine (Any.slices_Compact_int_empty compactI none 0 w).mono ?_
    rintro r w' ⟨rfl, rfl⟩
    exact ⟨_, rfl, hown, rfl, ⟨rfl, rfl, rfl, Nat.le_refl _, fun _ _ _ => rfl⟩⟩
  · rw [Nat.mul_one] at ht
    have hH := holds_of_blockI hb ht
    refine (Any.slices_Compact_int compactI b 0 cap xs w hH hl hn).mono ?_
    rintro r w' ⟨rfl, q, rfl⟩
    have hle := Lib.compact_length_le xs
    rw [compact_eq] at hle ⊢
    have hsb : ∀ d : Array Int, (Sort.putRow (Value.int .i64) (Sort.ahead w q) b 0 d).heap[b]? = some (.cells (Sort.putCells (Value.int .i64) 0 d cur) e (0, 0)) := fun d => by
      simp [Sort.putRow, Sort.mapBlock, Sort.ahead, Array.getElem?_modify, hb, Sort.onCells]
    refine ⟨_, rfl, ⟨by simp, .inr ⟨b, cap, _, by simp, hbase, hsb _, by simp; omega, hcap, by simp [Sort.putCells, hcs], ?_⟩⟩, rfl, rfl, rfl, rfl, by simp, fun k hk hne => ?_⟩
    · rw [Nat.mul_one]
      have h := take_putCellsI cur (cptM xs ++ List.replicate (xs.length - (cptM xs).length) 0) (by simp; omega)
      have h2 := congrArg (List.take (cptM xs).length) h
      rw [List.take_take, List.map_append, List.take_append_of_le_length (by simp)] at h2
      simp only [List.length_map]
      rw [Nat.min_eq_left (by simp)] at h2
      rw [h2]
      exact List.take_of_length_le (by simp)
    · have : b ≠ k := fun e => hne (by rw [e]; rfl)
      simp [Sort.putRow, Sort.mapBlock, Sort.ahead, Array.getElem?_modify, this]
end Go.Proofs.YtihkknploioakaaGreat
