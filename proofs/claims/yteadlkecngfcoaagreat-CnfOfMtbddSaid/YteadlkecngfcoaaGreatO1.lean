/- Plain: the walk of a diagram with integer leaves, and what mtbdd's builder makes of it. No program in sight. -/
import Derived.Test.YteadlkecngfcoaaGreatQ0
import Derived.Test.YteadlkecngfcoaaGreatQe
namespace Go.Proofs.YteadlkecngfcoaaGreat
open Go.RowKit
set_option linter.unusedVariables false

/-- the references that a walk from r leaves, low first; leaves too -/
def vis (L : Nat) (ns : List Fork) : Nat → List Int → Int → List Int
  | 0, o, _ => o
  | k + 1, o, r =>
    if r ∈ o then o
    else if r < L then o ++ [r]
    else match ns[(r - L).toNat]? with
      | none => o
      | some f => vis L ns k (vis L ns k o f.2.1) f.2.2 ++ [r]
def lfs (L : Nat) (o : List Int) : List Int := o.filter fun x => decide (x < L)
def nds (L : Nat) (o : List Int) : List Int := o.filter fun x => decide ((L : Int) ≤ x)
/-- the builder's reference -/
def bref (L : Nat) (o : List Int) (r : Int) : Int := if r < L then 2 * ((lfs L o).idxOf r : Int) else 2 * ((nds L o).idxOf r : Int) + 1
def lvO (L : Nat) (lvs : List Int) (o : List Int) : List Int := (lfs L o).map fun r => lvs.getD r.toNat 0
def frk (L : Nat) (ns : List Fork) (r : Int) : Fork := ns.getD (r - L).toNat (0, 0, 0)
def ndO (L : Nat) (ns : List Fork) (o : List Int) : List Fork := (nds L o).map fun r => ((frk L ns r).1, bref L o (frk L ns r).2.1, bref L o (frk L ns r).2.2)

theorem lfs_app (L : Nat) (a b : List Int) : lfs L (a ++ b) = lfs L a ++ lfs L b := List.filter_append ..
theorem nds_app (L : Nat) (a b : List Int) : nds L (a ++ b) = nds L a ++ nds L b := List.filter_append ..
theorem lfs_leaf {L : Nat} {r : Int} (h : r < L) : lfs L [r] = [r] ∧ nds L [r] = [] := by
  simp [lfs, nds, h]
theorem lfs_node {L : Nat} {r : Int} (h : (L : Int) ≤ r) : lfs L [r] = [] ∧ nds L [r] = [r] := by
  simp [lfs, nds, h]
theorem mem_lfs {L : Nat} {o : List Int} {r : Int} : r ∈ lfs L o ↔ r ∈ o ∧ r < L := by simp [lfs]
theorem mem_nds {L : Nat} {o : List Int} {r : Int} : r ∈ nds L o ↔ r ∈ o ∧ (L : Int) ≤ r := by simp [nds]
theorem len_split (L : Nat) : ∀ (o : List Int), (lfs L o).length + (nds L o).length = o.length
  | [] => rfl
  | x :: o => by
    have ih := len_split L o
    unfold lfs nds at ih ⊢
    by_cases h : x < L
    · rw [List.filter_cons_of_pos (by simpa using h), List.filter_cons_of_neg (by simp; omega)]
      simp only [List.length_cons]
      omega
    · rw [List.filter_cons_of_neg (by simpa using h), List.filter_cons_of_pos (by simp; omega)]
      simp only [List.length_cons]
      omega
theorem bref_ext {L : Nat} {o e : List Int} {r : Int} (h : r ∈ o) : bref L (o ++ e) r = bref L o r := by
  unfold bref
  split
  · rename_i hr
    rw [lfs_app, List.idxOf_append, if_pos (mem_lfs.2 ⟨h, hr⟩)]
  · rename_i hr
    rw [nds_app, List.idxOf_append, if_pos (mem_nds.2 ⟨h, by omega⟩)]
theorem bref_leaf {L : Nat} (lvs : List Int) {o : List Int} {r : Int} (h : r ∉ o) (hr : r < L) : bref L (o ++ [r]) r = 2 * ((lvO L lvs o).length : Int) := by
  unfold bref
  rw [if_pos hr, lfs_app, (lfs_leaf hr).1, List.idxOf_append, if_neg (fun hm => h (mem_lfs.1 hm).1)]
  simp [lvO]
theorem bref_node {L : Nat} (ns : List Fork) {o : List Int} {r : Int} (h : r ∉ o) (hr : (L : Int) ≤ r) : bref L (o ++ [r]) r = 2 * ((ndO L ns o).length : Int) + 1 := by
  unfold bref
  rw [if_neg (by omega), nds_app, (lfs_node hr).2, List.idxOf_append, if_neg (fun hm => h (mem_nds.1 hm).1)]
  simp [ndO]
theorem bref_inj {L : Nat} {o : List Int} {x y : Int} (hx : x ∈ o) (hy : y ∈ o) (h : bref L o x = bref L o y) : x = y := by
  unfold bref at h
  split at h
  · rename_i h1
    split at h
    · rename_i h2
      have mx : x ∈ lfs L o := mem_lfs.2 ⟨hx, h1⟩
      have my : y ∈ lfs L o := mem_lfs.2 ⟨hy, h2⟩
      have e : (lfs L o).idxOf x = (lfs L o).idxOf y := by omega
      have a := List.getElem_idxOf (List.idxOf_lt_length_of_mem mx)
      have b := List.getElem_idxOf (List.idxOf_lt_length_of_mem my)
      rw [← a, ← b]
      congr 1
    · omega
  · rename_i h1
    split at h
    · omega
    · rename_i h2
      have mx : x ∈ nds L o := mem_nds.2 ⟨hx, Int.not_lt.1 h1⟩
      have my : y ∈ nds L o := mem_nds.2 ⟨hy, Int.not_lt.1 h2⟩
      have e : (nds L o).idxOf x = (nds L o).idxOf y := by omega
      have a := List.getElem_idxOf (List.idxOf_lt_length_of_mem mx)
      have b := List.getElem_idxOf (List.idxOf_lt_length_of_mem my)
      rw [← a, ← b]
      congr 1
theorem bref_bound {L : Nat} {o : List Int} (r : Int) : 0 ≤ bref L o r ∧ bref L o r ≤ 2 * (o.length : Int) + 1 := by
  have hl := len_split L o
  unfold bref
  split
  · have := List.idxOf_le_length (l := lfs L o) (a := r); omega
  · have := List.idxOf_le_length (l := nds L o) (a := r); omega

/-- what holds of the visited -/
def VisI (L : Nat) (ns : List Fork) (o : List Int) : Prop :=
  o.Nodup ∧ (∀ x ∈ o, 0 ≤ x ∧ x < L + ns.length) ∧
  ∀ x ∈ o, (L : Int) ≤ x → ((frk L ns x).2.1 ∈ o ∧ ((L : Int) ≤ (frk L ns x).2.1 → bref L o (frk L ns x).2.1 < bref L o x)) ∧ ((frk L ns x).2.2 ∈ o ∧ ((L : Int) ≤ (frk L ns x).2.2 → bref L o (frk L ns x).2.2 < bref L o x))
theorem VisI.nil (L : Nat) (ns : List Fork) : VisI L ns [] := ⟨List.nodup_nil, fun x h => by simp at h, fun x h => by simp at h⟩
theorem frk_some {L : Nat} {ns : List Fork} {r : Int} {f : Fork} (h : ns[(r - L).toNat]? = some f) : frk L ns r = f := by
  unfold frk; rw [List.getD_eq_getElem?_getD, h]; rfl
theorem VisI.leaf {L : Nat} {ns : List Fork} {o : List Int} {r : Int} (h : VisI L ns o) (hr : r ∉ o) (h0 : 0 ≤ r) (h1 : r < L) : VisI L ns (o ++ [r]) := by
  obtain ⟨a, b, c⟩ := h
  refine ⟨by rw [List.nodup_append]; exact ⟨a, by simp, fun x hx y hy => by simp at hy; subst hy; exact fun e => hr (e ▸ hx)⟩, fun x hx => ?_, fun x hx hL => ?_⟩
  · rcases List.mem_append.1 hx with hx | hx
    · exact b x hx
    · simp at hx; subst hx; omega
  · rcases List.mem_append.1 hx with hx | hx
    · obtain ⟨⟨c1, c2⟩, c3, c4⟩ := c x hx hL
      refine ⟨⟨List.mem_append_left _ c1, fun hl => ?_⟩, List.mem_append_left _ c3, fun hl => ?_⟩
      · rw [bref_ext c1, bref_ext hx]; exact c2 hl
      · rw [bref_ext c3, bref_ext hx]; exact c4 hl
    · simp at hx; omega
theorem bref_lt {L : Nat} {o : List Int} {r x : Int} (hx : x ∈ o) (hL : (L : Int) ≤ x) (hr : r ∉ o) (hrL : (L : Int) ≤ r) : bref L (o ++ [r]) x < bref L (o ++ [r]) r := by
  rw [bref_ext hx, bref_node [] hr hrL]
  unfold bref
  rw [if_neg (by omega)]
  have := List.idxOf_lt_length_of_mem (mem_nds.2 ⟨hx, hL⟩)
  simp [ndO]
  omega
theorem VisI.node {L : Nat} {ns : List Fork} {o : List Int} {r : Int} {f : Fork} (h : VisI L ns o) (hr : r ∉ o) (h1 : (L : Int) ≤ r) (hf : ns[(r - L).toNat]? = some f) (m1 : f.2.1 ∈ o) (m2 : f.2.2 ∈ o) : VisI L ns (o ++ [r]) := by
  obtain ⟨a, b, c⟩ := h
  refine ⟨by rw [List.nodup_append]; exact ⟨a, by simp, fun x hx y hy => by simp at hy; subst hy; exact fun e => hr (e ▸ hx)⟩, fun x hx => ?_, fun x hx hL => ?_⟩
  · rcases List.mem_append.1 hx with hx | hx
    · exact b x hx
    · simp at hx; subst hx
      have := (List.getElem?_eq_some_iff.1 hf).1
      omega
  · rcases List.mem_append.1 hx with hx | hx
    · obtain ⟨⟨c1, c2⟩, c3, c4⟩ := c x hx hL
      refine ⟨⟨List.mem_append_left _ c1, fun hl => ?_⟩, List.mem_append_left _ c3, fun hl => ?_⟩
      · rw [bref_ext c1, bref_ext hx]; exact c2 hl
      · rw [bref_ext c3, bref_ext hx]; exact c4 hl
    · simp at hx; subst hx
      rw [frk_some hf]
      exact ⟨⟨List.mem_append_left _ m1, fun hl => bref_lt m1 hl hr h1⟩, List.mem_append_left _ m2, fun hl => bref_lt m2 hl hr h1⟩
theorem vis_I {L : Nat} {ns : List Fork} (hb : BackB L ns) : ∀ (k : Nat) (o : List Int) (r : Int), VisI L ns o → 0 ≤ r → r < L + ns.length → r < k →
    VisI L ns (vis L ns k o r) ∧ (∃ e, vis L ns k o r = o ++ e) ∧ r ∈ vis L ns k o r ∧ ∀ x ∈ vis L ns k o r, x ∈ o ∨ x ≤ r
  | 0, o, r, _, h0, _, hk => by omega
  | k + 1, o, r, hI, h0, hr, hk => by
    rw [vis]
    split
    · rename_i hm; exact ⟨hI, ⟨[], by simp⟩, hm, fun x hx => .inl hx⟩
    rename_i hno
    split
    · rename_i hl
      exact ⟨hI.leaf hno h0 hl, ⟨[r], rfl⟩, by simp, fun x hx => by rcases List.mem_append.1 hx with h | h; exact .inl h; simp at h; exact .inr (by omega)⟩
    rename_i hl
    obtain ⟨f, hf⟩ : ∃ f, ns[(r - L).toNat]? = some f := ⟨_, List.getElem?_eq_getElem (by omega)⟩
    rw [hf]
    simp only
    obtain ⟨⟨b1, b2⟩, b3, b4⟩ := hb _ f hf
    have e1 : (((r - L).toNat : Nat) : Int) = r - L := by omega
    rw [e1] at b2 b4
    obtain ⟨i1, ⟨t1, ht1⟩, m1, l1⟩ := vis_I hb k o f.2.1 hI b1 (by omega) (by omega)
    obtain ⟨i2, ⟨t2, ht2⟩, m2, l2⟩ := vis_I hb k _ f.2.2 i1 b3 (by omega) (by omega)
    have hno2 : r ∉ vis L ns k (vis L ns k o f.2.1) f.2.2 := fun h => by
      rcases l2 r h with h | h
      · rcases l1 r h with h | h
        · exact hno h
        · omega
      · omega
    refine ⟨i2.node hno2 (by omega) hf ?_ m2, ⟨t1 ++ t2 ++ [r], by rw [ht2, ht1]; simp⟩, by simp, fun x hx => ?_⟩
    · rw [ht2]; exact List.mem_append_left _ m1
    · rcases List.mem_append.1 hx with hx | hx
      · rcases l2 x hx with h | h
        · rcases l1 x h with h | h
          · exact .inl h
          · exact .inr (by omega)
        · exact .inr (by omega)
      · simp at hx; exact .inr (by omega)
theorem VisI.len {L : Nat} {ns : List Fork} {o : List Int} (h : VisI L ns o) : o.length ≤ L + ns.length := by
  have h1 : (o.map Int.toNat).Nodup := by
    rw [List.Nodup, List.pairwise_map]
    exact h.1.imp_of_mem fun {a b} ha hb hne e => hne (by have := (h.2.1 a ha).1; have := (h.2.1 b hb).1; omega)
  have h2 := pigeon (L + ns.length) (o.map Int.toNat) h1 (fun x hx => by
    obtain ⟨y, hy, rfl⟩ := List.mem_map.1 hx
    have := h.2.1 y hy
    omega)
  simpa using h2
theorem getD_some {α : Type} {l : List α} {i : Nat} {d x : α} (h : l[i]? = some x) : l.getD i d = x := by rw [List.getD_eq_getElem?_getD, h]; rfl
theorem VisI.split {L : Nat} {ns : List Fork} {o : List Int} (h : VisI L ns o) : (lfs L o).length ≤ L ∧ (nds L o).length ≤ ns.length := by
  have h1 : ((lfs L o).map Int.toNat).Nodup := by
    rw [List.Nodup, List.pairwise_map]
    exact (h.1.filter _).imp_of_mem fun {a b} ha hb hne e => hne (by have := (h.2.1 a (mem_lfs.1 ha).1).1; have := (h.2.1 b (mem_lfs.1 hb).1).1; omega)
  have h2 := pigeon L _ h1 (fun x hx => by
    obtain ⟨y, hy, rfl⟩ := List.mem_map.1 hx
    have := h.2.1 y (mem_lfs.1 hy).1
    have := (mem_lfs.1 hy).2
    omega)
  have h3 : ((nds L o).map fun x : Int => (x - L).toNat).Nodup := by
    rw [List.Nodup, List.pairwise_map]
    exact (h.1.filter _).imp_of_mem fun {a b} ha hb hne e => hne (by have := (mem_nds.1 ha).2; have := (mem_nds.1 hb).2; omega)
  have h4 := pigeon ns.length _ h3 (fun x hx => by
    obtain ⟨y, hy, rfl⟩ := List.mem_map.1 hx
    have := h.2.1 y (mem_nds.1 hy).1
    have := (mem_nds.1 hy).2
    omega)
  simp only [List.length_map] at h2 h4
  exact ⟨h2, h4⟩
theorem lvO_len (L : Nat) (lvs o : List Int) : (lvO L lvs o).length = (lfs L o).length := by simp [lvO]
theorem ndO_len (L : Nat) (ns : List Fork) (o : List Int) : (ndO L ns o).length = (nds L o).length := by simp [ndO]
theorem lvO_leaf {L : Nat} {lvs o : List Int} {r v : Int} (h : r < L) (hv : lvs[r.toNat]? = some v) : lvO L lvs (o ++ [r]) = lvO L lvs o ++ [v] := by
  unfold lvO
  rw [lfs_app, (lfs_leaf h).1, List.map_append, List.map_singleton, getD_some hv]
theorem lvO_node {L : Nat} {lvs o : List Int} {r : Int} (h : (L : Int) ≤ r) : lvO L lvs (o ++ [r]) = lvO L lvs o := by
  unfold lvO
  rw [lfs_app, (lfs_node h).1, List.append_nil]
theorem ndO_leaf {L : Nat} {ns : List Fork} {o : List Int} {r : Int} (hI : VisI L ns o) (h : r < L) : ndO L ns (o ++ [r]) = ndO L ns o := by
  unfold ndO
  rw [nds_app, (lfs_leaf h).2, List.append_nil]
  refine List.map_congr_left fun x hx => ?_
  obtain ⟨hx, hL⟩ := mem_nds.1 hx
  obtain ⟨⟨c1, _⟩, c3, _⟩ := hI.2.2 x hx hL
  rw [bref_ext c1, bref_ext c3]
theorem ndO_node {L : Nat} {ns : List Fork} {o : List Int} {r : Int} {f : Fork} (hI : VisI L ns o) (h : (L : Int) ≤ r) (hf : ns[(r - L).toNat]? = some f) (m1 : f.2.1 ∈ o) (m2 : f.2.2 ∈ o) :
    ndO L ns (o ++ [r]) = ndO L ns o ++ [(f.1, bref L o f.2.1, bref L o f.2.2)] := by
  unfold ndO
  rw [nds_app, (lfs_node h).2, List.map_append, List.map_singleton, frk_some hf, bref_ext m1, bref_ext m2]
  congr 1
  refine List.map_congr_left fun x hx => ?_
  obtain ⟨hx, hL⟩ := mem_nds.1 hx
  obtain ⟨⟨c1, _⟩, c3, _⟩ := hI.2.2 x hx hL
  rw [bref_ext c1, bref_ext c3]
theorem lvO_new {L : Nat} {ns : List Fork} {lvs o : List Int} {r v : Int} (hI : VisI L ns o) (hn : lvs.Nodup) (hl : lvs.length = L) (hr : r ∉ o) (h0 : 0 ≤ r) (h : r < L) (hv : lvs[r.toNat]? = some v) : v ∉ lvO L lvs o := fun hm => by
  obtain ⟨x, hx, e⟩ := List.mem_map.1 hm
  obtain ⟨hx, hL⟩ := mem_lfs.1 hx
  have b := hI.2.1 x hx
  obtain ⟨u, hu⟩ : ∃ u, lvs[x.toNat]? = some u := ⟨_, List.getElem?_eq_getElem (by omega)⟩
  rw [getD_some hu] at e
  subst e
  have := (List.getElem?_inj (by omega) hn).1 (hu.trans hv.symm)
  have : x = r := by omega
  exact hr (this ▸ hx)
theorem ndO_new {L : Nat} {ns : List Fork} {o : List Int} {r : Int} {f : Fork} (hI : VisI L ns o) (hn : ns.Nodup) (hr : r ∉ o) (h : (L : Int) ≤ r) (hf : ns[(r - L).toNat]? = some f) (m1 : f.2.1 ∈ o) (m2 : f.2.2 ∈ o) :
    (f.1, bref L o f.2.1, bref L o f.2.2) ∉ ndO L ns o := fun hm => by
  obtain ⟨x, hx, e⟩ := List.mem_map.1 hm
  obtain ⟨hx, hL⟩ := mem_nds.1 hx
  have b := hI.2.1 x hx
  obtain ⟨g, hg⟩ : ∃ g, ns[(x - L).toNat]? = some g := ⟨_, List.getElem?_eq_getElem (by omega)⟩
  obtain ⟨⟨c1, _⟩, c3, _⟩ := hI.2.2 x hx hL
  rw [frk_some hg] at e c1 c3
  simp only [Prod.mk.injEq] at e
  have e2 := bref_inj c1 m1 e.2.1
  have e3 := bref_inj c3 m2 e.2.2
  have e4 : g = f := Prod.ext e.1 (Prod.ext e2 e3)
  subst e4
  have := (List.getElem?_inj (by omega) hn).1 (hg.trans hf.symm)
  have : x = r := by omega
  exact hr (this ▸ hx)
/-- what a walk reaches is its start or some node's reference -/
theorem vis_from {L : Nat} {ns : List Fork} : ∀ (k : Nat) (o : List Int) (r : Int), ∀ x ∈ vis L ns k o r, x ∈ o ∨ x = r ∨ ∃ f ∈ ns, f.2.1 = x ∨ f.2.2 = x
  | 0, o, r, x, hx => .inl hx
  | k + 1, o, r, x, hx => by
    rw [vis] at hx
    split at hx
    · exact .inl hx
    split at hx
    · rcases List.mem_append.1 hx with h | h
      · exact .inl h
      · simp at h; exact .inr (.inl h)
    split at hx
    · exact .inl hx
    rename_i f hf
    have hm := List.mem_of_getElem? hf
    rcases List.mem_append.1 hx with h | h
    · rcases vis_from k _ _ x h with h | h | h
      · rcases vis_from k _ _ x h with h | h | h
        · exact .inl h
        · exact .inr (.inr ⟨f, hm, .inl h.symm⟩)
        · exact .inr (.inr h)
      · exact .inr (.inr ⟨f, hm, .inr h.symm⟩)
      · exact .inr (.inr h)
    · simp at h; exact .inr (.inl h)
/-- the statement's walk: nodes only -/
def visN (L : Nat) (ns : List Fork) : Nat → List Int → Int → List Int
  | 0, o, _ => o
  | k + 1, o, r =>
    if r < L ∨ r ∈ o then o
    else match ns[(r - L).toNat]? with
      | none => o
      | some f => visN L ns k (visN L ns k o f.2.1) f.2.2 ++ [r]
theorem visN_eq {L : Nat} {ns : List Fork} : ∀ (k : Nat) (o : List Int) (r : Int), visN L ns k (nds L o) r = nds L (vis L ns k o r)
  | 0, o, r => rfl
  | k + 1, o, r => by
    rw [visN, vis]
    by_cases hm : r ∈ o
    · rw [if_pos hm, if_pos]
      by_cases hl : r < L
      · exact .inl hl
      · exact .inr (mem_nds.2 ⟨hm, by omega⟩)
    rw [if_neg hm]
    by_cases hl : r < L
    · rw [if_pos hl, if_pos (.inl hl), nds_app, (lfs_leaf hl).2, List.append_nil]
    rw [if_neg hl, if_neg (by rintro (h | h); exact hl h; exact hm (mem_nds.1 h).1)]
    cases hf : ns[(r - L).toNat]? with
    | none => rfl
    | some f =>
      simp only
      rw [visN_eq k, visN_eq k, nds_app, (lfs_node (by omega)).2]
end Go.Proofs.YteadlkecngfcoaaGreat
