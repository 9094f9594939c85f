/- (Counter seat) Plain: what Components computes: unions by size, then the classes in order. No program in sight. -/
import Derived.Test.YthanfjpmcckbhaaGreatDoorYb
namespace Go.Proofs.YthanfjpmcckbhaaGreatDoor
set_option linter.unusedVariables false

/-- two clauses with numbers of one magnitude -/
def connB (cs : List (List Int)) (i k : Nat) : Bool := (cs.getD i []).any fun x => (cs.getD k []).any fun y => varM x == varM y
theorem connB_iff {cs : List (List Int)} {i k : Nat} : connB cs i k = true ↔ ∃ x ∈ cs.getD i [], ∃ y ∈ cs.getD k [], varM x = varM y := by
  unfold connB
  simp
theorem connB_sym (cs : List (List Int)) (i k : Nat) : connB cs i k = connB cs k i := by
  have : connB cs i k = true ↔ connB cs k i = true := by
    rw [connB_iff, connB_iff]
    constructor
    · rintro ⟨x, hx, y, hy, e⟩
      exact ⟨y, hy, x, hx, e.symm⟩
    · rintro ⟨x, hx, y, hy, e⟩
      exact ⟨y, hy, x, hx, e.symm⟩
  rcases h : connB cs i k <;> rcases h2 : connB cs k i <;> simp_all
/-- the state of the first loop: the clauses before k, and j numbers of clause k -/
structure CoS (cs : List (List Int)) (l : List Nat) (os : List (Nat × Int)) (k j : Nat) : Prop where
  uf : Uf cs.length (Rel (connB cs) cs.length) l os
  from_ : ∀ i s, (i, s) ∈ os → i < cs.length ∧ ∃ x ∈ cs.getD i [], varM x = s
  all : ∀ i x, i < k → x ∈ cs.getD i [] → (i, varM x) ∈ os
  here : ∀ x, x ∈ (cs.getD k []).take j → (k, varM x) ∈ os
theorem CoS.start (cs : List (List Int)) : CoS cs (List.range cs.length) [] 0 0 := ⟨Uf.start _ _, fun i s h => by simp at h, fun i x h => by omega, fun x h => by simp at h⟩
theorem take_succ_mem {l : List Int} {j : Nat} {x y : Int} (hx : l[j]? = some x) (hy : y ∈ l.take (j + 1)) : y ∈ l.take j ∨ y = x := by
  rw [List.take_add_one, hx] at hy
  simpa using hy
theorem CoS.fresh {cs : List (List Int)} {l : List Nat} {os : List (Nat × Int)} {k j : Nat} {x : Int} (h : CoS cs l os k j) (hk : k < cs.length) (hx : (cs.getD k [])[j]? = some x) (hn : firstO os (varM x) = none) : CoS cs l (os ++ [(k, varM x)]) k (j + 1) := by
  refine ⟨h.uf.fresh hk hn, fun i s hi => ?_, fun i y hi hy => List.mem_append_left _ (h.all i y hi hy), fun y hy => ?_⟩
  · rcases List.mem_append.1 hi with h1 | h1
    · exact h.from_ i s h1
    · simp at h1
      obtain ⟨rfl, rfl⟩ := h1
      exact ⟨hk, x, List.mem_of_getElem? hx, rfl⟩
  · rcases take_succ_mem hx hy with h1 | rfl
    · exact List.mem_append_left _ (h.here y h1)
    · exact List.mem_append_right _ (by simp)
theorem rel_symm (cs : List (List Int)) : ∀ a b, Rel (connB cs) cs.length a b → Rel (connB cs) cs.length b a := fun a b ⟨h1, h2, h3⟩ => ⟨h2, h1, by rw [connB_sym]; exact h3⟩
theorem CoS.join {cs : List (List Int)} {l : List Nat} {os : List (Nat × Int)} {k j q : Nat} {x : Int} (h : CoS cs l os k j) (hk : k < cs.length) (hx : (cs.getD k [])[j]? = some x) (hn : firstO os (varM x) = some q) : CoS cs (unite l q k) (os ++ [(k, varM x)]) k (j + 1) ∧ q < cs.length := by
  obtain ⟨hq, y, hy, ey⟩ := h.from_ _ _ (firstO_mem hn)
  refine ⟨⟨h.uf.join (rel_symm cs) hk hn ⟨hq, hk, connB_iff.2 ⟨y, hy, x, List.mem_of_getElem? hx, ey⟩⟩, fun i s hi => ?_, fun i y hi hy => List.mem_append_left _ (h.all i y hi hy), fun y hy => ?_⟩, hq⟩
  · rcases List.mem_append.1 hi with h1 | h1
    · exact h.from_ i s h1
    · simp at h1
      obtain ⟨rfl, rfl⟩ := h1
      exact ⟨hk, x, List.mem_of_getElem? hx, rfl⟩
  · rcases take_succ_mem hx hy with h1 | rfl
    · exact List.mem_append_left _ (h.here y h1)
    · exact List.mem_append_right _ (by simp)
theorem CoS.next {cs : List (List Int)} {l : List Nat} {os : List (Nat × Int)} {k j : Nat} (h : CoS cs l os k j) (hj : (cs.getD k []).length ≤ j) : CoS cs l os (k + 1) 0 := by
  refine ⟨h.uf, h.from_, fun i y hi hy => ?_, fun y hy => by simp at hy⟩
  by_cases e : i = k
  · subst e
    exact h.here y (by rw [List.take_of_length_le hj]; exact hy)
  · exact h.all i y (by omega) hy
theorem CoS.roots {cs : List (List Int)} {l : List Nat} {os : List (Nat × Int)} (h : CoS cs l os cs.length 0) : Roots cs.length (Rel (connB cs) cs.length) (rootL l) := by
  refine h.uf.roots fun i k hi hk hs => ?_
  obtain ⟨x, hx, y, hy, e⟩ := connB_iff.1 hs.2.2
  exact ⟨varM x, h.all i x hi hx, by rw [e]; exact h.all k y hk hy⟩

/-! ### the classes in order -/
/-- the roots before i -/
def rootsTo (f : Nat → Nat) (i : Nat) : List Nat := (List.range i).filter fun q => f q == q
/-- the classes of the indices before i -/
def grpTo (f : Nat → Nat) (i : Nat) : List (List Nat) := (rootsTo f i).map fun r => (List.range i).filter fun k => f k == r
theorem grpTo_all (n : Nat) (f : Nat → Nat) : grpTo f n = groupsOf n f := rfl
theorem rootsTo_succ (f : Nat → Nat) (i : Nat) : rootsTo f (i + 1) = rootsTo f i ++ if f i = i then [i] else [] := by
  unfold rootsTo
  rw [List.range_succ, List.filter_append]
  by_cases h : f i = i <;> simp [h]
theorem rootsTo_mem {f : Nat → Nat} {i r : Nat} : r ∈ rootsTo f i ↔ r < i ∧ f r = r := by
  unfold rootsTo
  simp
theorem rootsTo_at {f : Nat → Nat} {r : Nat} (hf : f r = r) : ∀ {i : Nat}, r < i → (rootsTo f i)[(rootsTo f r).length]? = some r
  | i + 1, h => by
    rw [rootsTo_succ]
    by_cases e : r = i
    · subst e
      rw [List.getElem?_append_right (Nat.le_refl _), if_pos hf]
      simp
    · have h1 := rootsTo_at hf (i := i) (by omega)
      rw [List.getElem?_append_left (List.getElem?_eq_some_iff.1 h1).1]
      exact h1
theorem rootsTo_le (f : Nat → Nat) (i : Nat) : (rootsTo f i).length ≤ i := by
  unfold rootsTo
  have := List.length_filter_le (fun q => f q == q) (List.range i)
  simpa using this
theorem rootsTo_nodup (f : Nat → Nat) (i : Nat) : (rootsTo f i).Nodup := List.nodup_range.filter _
theorem cls_succ (f : Nat → Nat) (i r : Nat) : ((List.range (i + 1)).filter fun k => f k == r) = ((List.range i).filter fun k => f k == r) ++ if f i = r then [i] else [] := by
  rw [List.range_succ, List.filter_append]
  by_cases h : f i = r <;> simp [h]
theorem nodup_at {l : List Nat} (h : l.Nodup) {a b r : Nat} (ha : l[a]? = some r) (hb : l[b]? = some r) : a = b := by
  obtain ⟨a1, a2⟩ := List.getElem?_eq_some_iff.1 ha
  obtain ⟨b1, b2⟩ := List.getElem?_eq_some_iff.1 hb
  have := List.pairwise_iff_getElem.1 h
  rcases Nat.lt_trichotomy a b with h1 | h1 | h1
  · exact absurd (a2.trans b2.symm) (this a b a1 b1 h1)
  · exact h1
  · exact absurd (b2.trans a2.symm) (this b a b1 a1 h1)
/-- a class met for the first time -/
theorem grp_new {f : Nat → Nat} {i : Nat} (hle : ∀ k, k < i → f k ≤ k) (h : f i = i) : grpTo f (i + 1) = grpTo f i ++ [[i]] := by
  unfold grpTo
  rw [rootsTo_succ, if_pos h, List.map_append]
  refine congr (congrArg _ (List.map_congr_left fun r hr => ?_)) ?_
  · have := (rootsTo_mem.1 hr).1
    rw [cls_succ, if_neg (by omega), List.append_nil]
  · rw [List.map_cons, List.map_nil, cls_succ, if_pos h]
    have : (List.range i).filter (fun k => f k == i) = [] := by
      rw [List.filter_eq_nil_iff]
      intro k hk
      have h1 := List.mem_range.1 hk
      have h2 := hle k h1
      simp
      omega
    rw [this]
    rfl
/-- a class met before -/
theorem grp_old {f : Nat → Nat} {i : Nat} (hlt : f i < i) (hf : f (f i) = f i) : ∃ g, (grpTo f i)[(rootsTo f (f i)).length]? = some g ∧ grpTo f (i + 1) = (grpTo f i).set (rootsTo f (f i)).length (g ++ [i]) := by
  have h1 := rootsTo_at hf hlt
  refine ⟨(List.range i).filter fun k => f k == f i, ?_, ?_⟩
  · unfold grpTo
    rw [List.getElem?_map, h1]
    rfl
  · unfold grpTo
    rw [rootsTo_succ, if_neg (by omega), List.append_nil]
    have hn := rootsTo_nodup f i
    apply List.ext_getElem?
    intro j
    rw [List.getElem?_set, List.getElem?_map, List.getElem?_map]
    by_cases e : (rootsTo f (f i)).length = j
    · subst e
      rw [if_pos rfl, h1, if_pos (by rw [List.length_map]; exact (List.getElem?_eq_some_iff.1 h1).1)]
      simp only [Option.map_some]
      rw [cls_succ, if_pos rfl]
    · rw [if_neg e]
      rcases hj : (rootsTo f i)[j]? with _ | r
      · rfl
      · simp only [Option.map_some]
        have : f i ≠ r := fun q => by
          subst q
          exact e (nodup_at hn h1 hj)
        rw [cls_succ, if_neg this, List.append_nil]
/-- the classes as numbers -/
def grpI (f : Nat → Nat) (i : Nat) : List (List Int) := (grpTo f i).map fun g => g.map Int.ofNat
theorem grpI_len (f : Nat → Nat) (i : Nat) : (grpI f i).length = (rootsTo f i).length := by unfold grpI grpTo; simp
theorem grpI_new {f : Nat → Nat} {i : Nat} (hle : ∀ k, k < i → f k ≤ k) (h : f i = i) : grpI f (i + 1) = grpI f i ++ [[(i : Int)]] := by
  unfold grpI
  rw [grp_new hle h, List.map_append]
  rfl
theorem grpI_old {f : Nat → Nat} {i : Nat} (hlt : f i < i) (hf : f (f i) = f i) : ∃ g, (grpI f i)[(rootsTo f (f i)).length]? = some g ∧ grpI f (i + 1) = (grpI f i).set (rootsTo f (f i)).length (g ++ [(i : Int)]) := by
  obtain ⟨g, h1, h2⟩ := grp_old hlt hf
  refine ⟨g.map Int.ofNat, ?_, ?_⟩
  · unfold grpI
    rw [List.getElem?_map, h1]
    rfl
  · unfold grpI
    rw [h2, List.map_set, List.map_append]
    rfl
theorem grpI_mem {f : Nat → Nat} {i : Nat} {g : List Int} (h : g ∈ grpI f i) : g.length ≤ i ∧ ∀ x ∈ g, 0 ≤ x ∧ x < (i : Int) := by
  unfold grpI grpTo at h
  simp only [List.mem_map, List.map_map] at h
  obtain ⟨r, _, rfl⟩ := h
  refine ⟨?_, fun x hx => ?_⟩
  · simp only [Function.comp, List.length_map]
    have := List.length_filter_le (fun k => f k == r) (List.range i)
    simpa using this
  · simp only [Function.comp] at hx
    obtain ⟨k, hk, rfl⟩ := List.mem_map.1 hx
    have := List.mem_range.1 (List.mem_filter.1 hk).1
    have e : Int.ofNat k = (k : Int) := rfl
    omega

/- (Counter seat) Plain: the parts of a list of clauses without a common variable. No program in sight. -/
set_option linter.unusedVariables false

theorem pick_mem {l : List (List Int)} {is : List Nat} {c : List Int} : c ∈ pick l is ↔ ∃ i ∈ is, l.getD i [] = c := by
  unfold pick
  rw [List.mem_map]
theorem mem_getD {l : List (List Int)} {i : Nat} (h : i < l.length) : l.getD i [] ∈ l := by
  rw [List.getD_eq_getElem?_getD, List.getElem?_eq_getElem h]
  exact List.getElem_mem h
/-- what is known of the parts -/
structure PartsP (l : List (List Int)) (gs : List (List Nat)) : Prop where
  sub : ∀ is ∈ gs, (pick l is).Sublist l
  one : ∀ is ∈ gs, 1 ≤ (occM (pick l is)).length
  occ : ∀ is ∈ gs, ∀ x ∈ occM (pick l is), x ∈ occM l
  disj : gs.Pairwise fun a b => ∀ v ∈ occM (pick l a), v ∉ occM (pick l b)
  perm : (gs.flatMap (pick l)).Perm l
  lt : ∀ is ∈ gs, ∀ i ∈ is, i < l.length
theorem parts_of {l : List (List Int)} {f : Nat → Nat} (hc : Cn' l) (hr : Roots l.length (Rel (connB l) l.length) f) (hne : ∀ c ∈ l, c ≠ []) : PartsP l (groupsOf l.length f) := by
  have hlt : ∀ i, i < l.length → f i < l.length := fun i hi => Nat.lt_of_le_of_lt (hr.le i hi) hi
  have hsub : ∀ is ∈ groupsOf l.length f, (pick l is).Sublist l := fun is h => pick_sub (group_sub h)
  have hin : ∀ is ∈ groupsOf l.length f, ∀ i ∈ is, i < l.length := fun is h i hi => by
    obtain ⟨r, _, _, h3⟩ := group_root h
    exact ((h3 i).1 hi).1
  have hcp : ∀ is ∈ groupsOf l.length f, Cn' (pick l is) := fun is h => cn_sub hc (hsub is h)
  refine ⟨hsub, fun is h => ?_, fun is h x hx => ?_, ?_, pick_perm hlt fun i hi => hr.idem (rel_within _ _) hi, hin⟩
  · obtain ⟨r, h1, h2, h3⟩ := group_root h
    have hm := mem_getD h1
    obtain ⟨x, hx⟩ := List.exists_mem_of_ne_nil _ (hne _ hm)
    exact List.length_pos_of_mem ((hcp is h).mem.2 ⟨l.getD r [], pick_mem.2 ⟨r, (h3 r).2 ⟨h1, h2⟩, rfl⟩, x, hx, rfl⟩)
  · obtain ⟨c, hcm, y, hy, e⟩ := (hcp is h).mem.1 hx
    exact hc.mem.2 ⟨c, (hsub is h).subset hcm, y, hy, e⟩
  · refine List.Pairwise.imp_of_mem (fun {a b} ha hb hab v hva hvb => ?_) groups_disj
    obtain ⟨c, hcm, x, hx, e⟩ := (hcp a ha).mem.1 hva
    obtain ⟨d, hdm, y, hy, e2⟩ := (hcp b hb).mem.1 hvb
    obtain ⟨i, hi, rfl⟩ := pick_mem.1 hcm
    obtain ⟨k, hk, rfl⟩ := pick_mem.1 hdm
    exact hab i hi k hk (hr.same i k (hin a ha i hi) (hin b hb k hk) ⟨hin a ha i hi, hin b hb k hk, connB_iff.2 ⟨x, hx, y, hy, e.trans e2.symm⟩⟩)
theorem PartsP.sum {l : List (List Int)} {gs : List (List Nat)} (h : PartsP l gs) : (gs.map fun is => (occM (pick l is)).length).sum ≤ (occM l).length := by
  have h1 : (gs.flatMap fun is => occM (pick l is)).Nodup := by
    have hd := h.disj
    clear h
    induction gs with
    | nil => simp
    | cons a r ih =>
      obtain ⟨h1, h2⟩ := List.pairwise_cons.1 hd
      rw [List.flatMap_cons]
      refine List.nodup_append.2 ⟨occM_nodup _, ih h2, fun x hx y hy e => ?_⟩
      subst e
      obtain ⟨b, hb, hy⟩ := List.mem_flatMap.1 hy
      exact h1 b hb x hx hy
  have h2 := nodup_len_le h1 (m := occM l) fun x hx => by
    obtain ⟨is, hi, hx⟩ := List.mem_flatMap.1 hx
    exact h.occ is hi x hx
  rw [List.length_flatMap] at h2
  exact h2
theorem sum_two : ∀ {vs : List Nat}, (∀ v ∈ vs, 1 ≤ v) → 2 ≤ vs.length → ∀ v ∈ vs, v + 1 ≤ vs.sum
  | [], _, h, _, _ => by simp at h
  | [_], _, h, _, _ => by simp at h
  | a :: b :: r, h, _, v, hv => by
    have hb := h b (by simp)
    have ha := h a (by simp)
    rw [List.sum_cons, List.sum_cons]
    rcases List.mem_cons.1 hv with rfl | hv
    · omega
    · have hm : ∀ {xs : List Nat}, v ∈ xs → v ≤ xs.sum := by
        intro xs
        induction xs with
        | nil => intro h; cases h
        | cons y t ih =>
          intro h
          rw [List.sum_cons]
          rcases List.mem_cons.1 h with rfl | h
          · omega
          · have := ih h; omega
      have h1 := hm hv
      rw [List.sum_cons] at h1
      omega
theorem PartsP.less {l : List (List Int)} {gs : List (List Nat)} (h : PartsP l gs) (h2 : 2 ≤ gs.length) {is : List Nat} (hi : is ∈ gs) : (occM (pick l is)).length < (occM l).length := by
  have h1 := sum_two (vs := gs.map fun is => (occM (pick l is)).length) (fun v hv => by
    obtain ⟨js, hj, rfl⟩ := List.mem_map.1 hv
    exact h.one js hj) (by rw [List.length_map]; exact h2) _ (List.mem_map.2 ⟨is, hi, rfl⟩)
  have := h.sum
  omega
theorem PartsP.cap {l : List (List Int)} {gs : List (List Nat)} (h : PartsP l gs) (h2 : 2 ≤ gs.length) : (gs.map fun is => capT (occM (pick l is)).length).sum + 1 ≤ capT (occM l).length := by
  have h1 := capT_sum (vs := gs.map fun is => (occM (pick l is)).length) (fun v hv => by
    obtain ⟨js, hj, rfl⟩ := List.mem_map.1 hv
    exact h.one js hj) (fun e => by rw [List.map_eq_nil_iff] at e; rw [e] at h2; simp at h2)
  rw [List.map_map, List.length_map] at h1
  have h3 := capT_le h.sum
  have e : (capT ∘ fun is => (occM (pick l is)).length) = fun is => capT (occM (pick l is)).length := rfl
  rw [e] at h1
  omega
end Go.Proofs.YthanfjpmcckbhaaGreatDoor
