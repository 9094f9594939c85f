/- slices.SortFunc over a slice that the call owns, at whatever element of one cell: the kit's contract in the words of these walks. No condition but the length. -/
import Derived.Test.YteadlkecngfcoaaGreatKa
import Derived.Test.YteadlkecngfcoaaGreatTs
import Derived.Shelf.SlSortCmp.NoneTotal
import Derived.Sort.OwnSortedInts
import Derived.Test.YteadlkecngfcoaaGreatKp
import Derived.Test.YteadlkecngfcoaaGreatTc
import Derived.Shelf.Slices.CompactI
import Derived.Lib.RowBridge
namespace Go.Proofs.YteadlkecngfcoaaGreat
open Go.ChangeShapes Go.WideShapes Go.ChangeAt Go.RowKit
set_option linter.unusedVariables false

section
variable {α : Type} [Inhabited α]
theorem holds_own {w : World} {g : Nat} {cur : Array Value} {e : TypeId} (enc : α → Value) {ds : List α} (hb : w.heap[g]? = some (.cells cur e (0, 0))) (ht : cur.toList.take ds.length = ds.map enc) : Sort.Holds enc w g 0 ds.toArray := by
  intro j hj
  have hj' : j < ds.length := by simpa using hj
  refine ⟨?_, by simp [World.frozen?, hb]⟩
  have h1 : (cur.toList.take ds.length)[j]? = (ds.map enc)[j]? := by rw [ht]
  rw [List.getElem?_take_of_lt hj'] at h1
  simp only [World.cell?, hb, Nat.zero_add]
  simp only [Option.isSome_none, Bool.false_eq_true, if_false]
  rw [← Array.getElem?_toList, h1]
  simp [hj']
theorem sorted_block {w : World} {g n : Nat} {os : Array Obj} {cur : Array Value} {e : TypeId} {fr : Nat × Nat} (enc : α → Value) (d : Array α) (hb : w.heap[g]? = some (.cells cur e fr)) :
    (Sort.grow (Sort.putRow enc (Sort.ahead w n) g 0 d) os).heap[g]? = some (.cells (Sort.putCells enc 0 d cur) e fr) := by
  have hg : g < w.heap.size := (Array.getElem?_eq_some_iff.1 hb).1
  rw [Sort.heap_grow_old _ _ (by simpa using hg)]
  simp [Sort.putRow, Sort.mapBlock, Sort.ahead, Array.getElem?_modify, hb, Sort.onCells]
theorem sorted_grown {w : World} {g n : Nat} {os : Array Obj} (enc : α → Value) (d : Array α) : w.grownBy (Sort.grow (Sort.putRow enc (Sort.ahead w n) g 0 d) os) (some g) := by
  refine ⟨rfl, rfl, rfl, by simp, fun k hk hne => ?_⟩
  rw [Sort.heap_grow_old _ _ (by simpa using hk)]
  have : g ≠ k := fun e => hne (by rw [e])
  simp [Sort.putRow, Sort.mapBlock, Sort.ahead, Array.getElem?_modify, this]
theorem sorted_take (enc : α → Value) (cur : Array Value) (ts : List α) (h : ts.length ≤ cur.size) : (Sort.putCells enc 0 ts.toArray cur).toList.take ts.length = ts.map enc := by
  apply List.ext_getElem?
  intro j
  by_cases hj : j < ts.length
  · rw [List.getElem?_take_of_lt hj, Array.getElem?_toList]
    simp [Sort.putCells, hj, show j < cur.size by omega]
  · rw [List.getElem?_take_eq_none (by omega), List.getElem?_eq_none (by simp; omega)]

/-- what the library's sort leaves -/
def SortPost (W : World) (base : Nat) (e : TypeId) (v : Value) (enc : α → Value) (cf : α → α → Int) (ds : List α) (r : Ending) (w' : World) : Prop :=
  r = .returned (.tuple #[]) ∧ ∃ ts : List α, ts.Perm ds ∧ ts.Pairwise (fun x y => ¬ cf y x < 0) ∧ w'.ownsRow base e 1 v ds.length (ts.map enc) ∧ W.grownBy w' v.ownBlock

theorem sort_own {P : Program} {ρ : Shelf.Ren} (L : SlLaysF.n6 P ρ) (enc : α → Value) (h1 : OneCell enc) (cf : α → α → Int) (hO : Sort.SWO (ltOf cf)) (g : Nat)
    (eg : ∀ args w, (callFunc g args).run P w = .ok (.enter g args) w) (w : World) (base : Nat) (e : TypeId) (v : Value) (ds : List α)
    (hown : w.ownsRow base e 1 v ds.length (ds.map enc)) (hsz : ds.length < 4611686018427387904)
    (hcmp : ∀ (x y : α) (w' : World), (∀ k, k < w.heap.size → v.ownBlock ≠ some k → w'.heap[k]? = w.heap[k]?) → Calls P g #[enc x, enc y] w' fun r w'' => r = .returned (.int .i64 (cf x y)) ∧ w'' = w') :
    Calls P (ρ.f 6) #[v, .func (.func g) #[] #[]] w (SortPost w base e v enc cf ds) := by
  rcases hown.2 with ⟨rfl, h0⟩ | ⟨b, cap, cur, rfl, hbase, hb, hn, hcap, hcs, ht⟩
  · obtain rfl : ds = [] := List.eq_nil_of_length_eq_zero h0
    refine (AnyF.slices_SortFunc_none { L with } none 0 _ w).mono ?_
    rintro r w' ⟨rfl, rfl⟩
    exact ⟨rfl, [], List.Perm.refl _, List.Pairwise.nil, hown, ⟨rfl, rfl, rfl, Nat.le_refl _, fun _ _ _ => rfl⟩⟩
  · have hg : b < w.heap.size := (Array.getElem?_eq_some_iff.1 hb).1
    rw [Nat.mul_one] at ht
    have hH := holds_own enc hb ht
    have hc : CmpLays1 P g #[] enc cf b 0 ds.toArray.size w := fun m os dk hs x y => by
      refine (hcmp x y _ fun k hk hne => ?_).mono ?_
      · exact (sorted_grown (os := os) (n := m) enc dk).block k hk fun h => hne h.symm
      · rintro r w'' ⟨rfl, rfl⟩
        exact ⟨rfl, 0, #[], by rw [Sort.grow_empty]; rfl⟩
    have hcon := Any.slices_SortFunc L enc h1 cf hO g #[] b 0 cap ds.toArray w eg hc hH hg (by simpa using hsz)
    rw [List.size_toArray] at hcon
    refine hcon.mono ?_
    rintro r w' ⟨rfl, d', n, os, hp, hs, rfl⟩
    have hl : d'.size = ds.length := by simpa using hp.1
    have hperm : d'.toList.Perm ds := by
      have h := hp.2.2
      rwa [Array.extract_eq_self_of_le (by omega), Array.extract_eq_self_of_le (by simp)] at h
    refine ⟨rfl, d'.toList, hperm, ?_, ?_, sorted_grown enc d'⟩
    · rw [List.pairwise_iff_getElem]
      intro i j hi hj hij
      have h := hs i j (Nat.zero_le _) hij (by simp at hj; omega)
      simp at hi hj
      rw [getElem!_pos d' j hj, getElem!_pos d' i hi] at h
      simpa [ltOf] using h
    · have hd : d'.toList.length = ds.length := by simpa using hl
      refine ⟨by simp [hl], .inr ⟨b, cap, _, rfl, hbase, sorted_block enc d' hb, hn, hcap, by simp [Sort.putCells, hcs], ?_⟩⟩
      rw [Nat.mul_one, ← hd]
      exact sorted_take enc cur d'.toList (by omega)
end

/- slices.Compact over a slice of ints that the call owns: the kit's contract in the words of these walks. No condition but the length. -/
open Go.ChangeShapes Go.WideShapes Go.ChangeAt Go.RowKit
set_option linter.unusedVariables false

theorem compact_cpt {α : Type} [Inhabited α] [DecidableEq α] (zs : List α) : ∀ (m k : Nat), k + m = zs.length →
    ((List.range' k m).filter (Lib.keeps zs.toArray)).map (zs.toArray[·]!) = cptG (if k = 0 then none else zs[k - 1]?) (zs.drop k)
  | 0, k, h => by rw [List.drop_eq_nil_of_le (by omega)]; rfl
  | m + 1, k, h => by
    obtain ⟨x, hx, e⟩ := drop_at (xs := zs) (k := k) (by omega)
    have ih := compact_cpt zs m (k + 1) (by omega)
    rw [if_neg (by omega), Nat.add_sub_cancel, hx] at ih
    have hxd : zs.toArray[k]! = x := by
      rw [getElem!_pos _ k (by simp; omega)]
      simp
      rw [List.getElem?_eq_getElem (by omega)] at hx
      injection hx
    rw [List.range'_succ, List.filter_cons, e, cptG]
    by_cases hk : k = 0
    · subst hk
      rw [if_pos (Lib.keeps_lt_one _ 0 (by omega)), if_pos rfl, if_neg (by simp), List.map_cons, ih, hxd]
    · obtain ⟨y, hy⟩ : ∃ y, zs[k - 1]? = some y := ⟨_, List.getElem?_eq_getElem (by omega)⟩
      have hyd : zs.toArray[k - 1]! = y := by
        rw [getElem!_pos _ (k - 1) (by simp; omega)]
        simp
        rw [List.getElem?_eq_getElem (by omega)] at hy
        injection hy
      rw [if_neg hk, hy]
      by_cases hxy : y = x
      · have hk1 : Lib.keeps zs.toArray k = false := Lib.keeps_neg (by omega) (by rw [hxd, hyd, hxy])
        rw [hk1, if_neg (by simp), ih, if_pos (by rw [hxy])]
      · have hk1 : Lib.keeps zs.toArray k = true := Lib.keeps_pos (by rw [hxd, hyd]; exact fun h => hxy h.symm)
        rw [hk1, if_pos rfl, List.map_cons, ih, hxd, if_neg (fun h => hxy (by injection h))]
theorem compact_eq {α : Type} [Inhabited α] [DecidableEq α] (zs : List α) : Lib.compact zs = cptM zs := by
  have h := compact_cpt zs zs.length 0 (by omega)
  rw [if_pos rfl, List.drop_zero, ← List.range_eq_range'] at h
  exact h

/-- what Compact leaves -/
def CompactPost (W : World) (base : Nat) (e : TypeId) (v : Value) (us : List Value) (r : Ending) (w' : World) : Prop :=
  ∃ v', r = .returned v' ∧ w'.ownsRow base e 1 v' us.length us ∧ v'.ownBlock = v.ownBlock ∧ W.grownBy w' v.ownBlock
theorem compact_own (w : World) (base : Nat) (e : TypeId) (v : Value) (xs : List Int) (hown : w.ownsRow base e 1 v xs.length (xs.map (.int .i64))) (hl : xs.length ≤ 9223372036854775807) :
    Calls Tryz.prog 45 #[v] w (CompactPost w base e v ((cptM xs).map (.int .i64))) := by
  rcases hown.2 with ⟨rfl, h0⟩ | ⟨b, cap, cur, rfl, hbase, hb, hn, hcap, hcs, ht⟩
  · obtain rfl : xs = [] := List.eq_nil_of_length_eq_zero h0
    refine (Any.slices_Compact_int_empty compactI none 0 w).mono ?_
    rintro r w' ⟨rfl, rfl⟩
    exact ⟨_, rfl, hown, rfl, ⟨rfl, rfl, rfl, Nat.le_refl _, fun _ _ _ => rfl⟩⟩
  · rw [Nat.mul_one] at ht
    have hH := holds_of_blockI hb ht
    refine (Any.slices_Compact_int compactI b 0 cap xs w hH hl hn).mono ?_
    rintro r w' ⟨rfl, q, rfl⟩
    have hle := Lib.compact_length_le xs
    rw [compact_eq] at hle ⊢
    have hsb : ∀ d : Array Int, (Sort.putRow (Value.int .i64) (Sort.ahead w q) b 0 d).heap[b]? = some (.cells (Sort.putCells (Value.int .i64) 0 d cur) e (0, 0)) := fun d => by
      simp [Sort.putRow, Sort.mapBlock, Sort.ahead, Array.getElem?_modify, hb, Sort.onCells]
    refine ⟨_, rfl, ⟨by simp, .inr ⟨b, cap, _, by simp, hbase, hsb _, by simp; omega, hcap, by simp [Sort.putCells, hcs], ?_⟩⟩, rfl, rfl, rfl, rfl, by simp, fun k hk hne => ?_⟩
    · rw [Nat.mul_one]
      have h := take_putCellsI cur (cptM xs ++ List.replicate (xs.length - (cptM xs).length) 0) (by simp; omega)
      have h2 := congrArg (List.take (cptM xs).length) h
      rw [List.take_take, List.map_append, List.take_append_of_le_length (by simp)] at h2
      simp only [List.length_map]
      rw [Nat.min_eq_left (by simp)] at h2
      rw [h2]
      exact List.take_of_length_le (by simp)
    · have : b ≠ k := fun e => hne (by rw [e]; rfl)
      simp [Sort.putRow, Sort.mapBlock, Sort.ahead, Array.getElem?_modify, this]
end Go.Proofs.YteadlkecngfcoaaGreat
