/- Plain: the program's test of a diagram with leaves and the statement's one say the same. No program in sight. -/
import Derived.Test.YteadlkecngfcoaaGreatOd
import Derived.Test.YteadlkecngfcoaaGreatO9
import Derived.Test.YteadlkecngfcoaaGreatOr
namespace Go.Proofs.YteadlkecngfcoaaGreat
open Go.RowKit
set_option linter.unusedVariables false

theorem numM_leaf {L : Nat} {O : List Int} {ls : List Nat} {x : Nat} {i : Nat} (hx : (x : Int) < L) (hi : (lfs L O).idxOf (x : Int) = i) (hn : ls.Nodup) (hp : ls[x]? = some i) : numM ls (bref L O x) = x := by
  rw [bref, if_pos hx, hi]
  unfold numM
  rw [if_pos (by omega), show (2 * (i : Int) / 2).toNat = i by omega]
  obtain ⟨h, e⟩ := List.getElem?_eq_some_iff.1 hp
  rw [← e, hn.idxOf_getElem x h]
theorem numM_node {L : Nat} {O : List Int} {ls : List Nat} {r : Int} {j : Nat} (hr : (L : Int) ≤ r) (hl : ls.length = L) (hj : (nds L O).idxOf r = j) (hrj : r = L + j) : numM ls (bref L O r) = r := by
  rw [bref, if_neg (by omega), hj, numM_od, hl, hrj]
theorem full_list {l : List Int} {n : Nat} (hn : l.Nodup) (hb : ∀ x ∈ l, 0 ≤ x ∧ x < n) (hl : n ≤ l.length) : ∀ j, j < n → (j : Int) ∈ l := fun j hj => by
  by_cases h : (j : Int) ∈ l
  · exact h
  exfalso
  have h1 : ((((j : Int) :: l).map Int.toNat)).Nodup := by
    rw [List.Nodup, List.pairwise_map]
    refine List.Pairwise.imp_of_mem ?_ (List.nodup_cons.2 ⟨h, hn⟩)
    intro a b ha hb' hne e
    have ha2 : 0 ≤ a := by rcases List.mem_cons.1 ha with h | h; omega; exact (hb a h).1
    have hb2 : 0 ≤ b := by rcases List.mem_cons.1 hb' with h | h; omega; exact (hb b h).1
    exact hne (by omega)
  have h2 := pigeon n _ h1 (fun x hx => by
    obtain ⟨y, hy, rfl⟩ := List.mem_map.1 hx
    rcases List.mem_cons.1 hy with h | h
    · omega
    · have := hb y h; omega)
  simp at h2
  omega
theorem ordL_iff {L : Nat} : ∀ (l : List Int) (i : Nat), ordL L l i = true ↔ ∀ j x, l[j]? = some x → x = (L : Int) + (i + j : Nat)
  | [], i => by simp [ordL]
  | y :: r, i => by
    rw [ordL]
    split
    · rename_i h
      constructor
      · intro h'; cases h'
      · intro h'
        exact absurd (by have := h' 0 y rfl; omega) h
    · rename_i h
      have hy : y = (L : Int) + i := by
        by_cases e : y = (L : Int) + i
        · exact e
        · exact absurd e h
      rw [ordL_iff r (i + 1)]
      constructor
      · intro h' j x hx
        cases j with
        | zero => simp at hx; omega
        | succ j => have := h' j x (by simpa using hx); omega
      · intro h' j x hx
        have := h' (j + 1) x (by simpa using hx)
        omega
theorem frl_of {vars : Int} {L : Nat} {ns : List Fork} (h : ∀ j, NdAt vars L ns j) (hv : ∀ f ∈ ns, f.1 < vars) : ∀ (r : List Fork) (i : Nat), ns.drop i = r → frlGo vars L ns r i = true
  | [], i, _ => rfl
  | f :: r, i, hd => by
    have hf : ns[i]? = some f := by rw [← Nat.add_zero i, ← List.getElem?_drop, hd]; rfl
    obtain ⟨a1, a2, a3, a4, a5, a6, a7, a8, a9⟩ := h i f hf
    have hfv := hv f (List.mem_of_getElem? hf)
    rw [frlGo, if_neg]
    · rw [Bool.and_eq_true]
      refine ⟨?_, frl_of h hv r (i + 1) (by rw [← List.drop_drop, hd]; rfl)⟩
      simp only [List.all_cons, List.all_nil, Bool.and_true, Bool.and_eq_true]
      exact ⟨refL_iff.2 ⟨a1, a2, a8⟩, refL_iff.2 ⟨a3, a4, a9⟩⟩
    · rintro (h | h | h | h)
      · omega
      · omega
      · exact a5 h
      · exact a6 h
theorem frm_rig {vars root : Int} {lvs : List Int} {ns : List Fork} (h0 : 0 ≤ vars) (h40 : vars ≤ 40) (hL : lvs.length ≤ 4096) (hn : ns.length ≤ 4096) (h : FrmP vars lvs ns root) : RigP vars lvs ns root := by
  obtain ⟨h1, h2, h3, h4, ls, p1, p2, p3, p4, p5⟩ := h
  have d := FrmP.dia (root := root) (vars := vars) ⟨by omega, by omega⟩ hL hn h1 h2
  obtain ⟨L, hLe⟩ : ∃ L, lvs.length = L := ⟨_, rfl⟩
  rw [hLe] at h2 h4 p1 p2 p3 p4 p5 d hL
  obtain ⟨hI, _, hm, _⟩ := vis_I d.back (L + ns.length + 1) [] root (VisI.nil L ns) h3 h4 (by omega)
  obtain ⟨O, hO⟩ : ∃ O, ordO L ns root = O := ⟨_, rfl⟩
  rw [hO] at p1 p2 p3 p4 p5
  rw [show vis L ns (L + ns.length + 1) [] root = O from hO] at hI hm
  have hlsl : ls.length = L := by have := congrArg List.length p3; unfold finV at this; rw [List.length_map] at this; omega
  have hml : (lfs L O).length = L := by have := p1.length_eq; simp at this; omega
  have hlfn : (lfs L O).Nodup := hI.1.filter _
  have hlsn : ls.Nodup := p1.nodup_iff.2 List.nodup_range
  have hndn : (nds L O).Nodup := hI.1.filter _
  have hall := full_list hlfn (fun x hx => ⟨(hI.2.1 x (mem_lfs.1 hx).1).1, (mem_lfs.1 hx).2⟩) (by omega)
  -- the leaves' places
  have hpl : ∀ x : Nat, x < L → ls[x]? = some ((lfs L O).idxOf (x : Int)) := fun x hx => by
    have hxm := hall x hx
    have hi := List.idxOf_lt_length_of_mem hxm
    have hxl : x < ls.length := by omega
    rw [List.getElem?_eq_getElem hxl]
    congr 1
    -- value at place x
    have hv := congrArg (fun l : List Int => l[x]?) p3
    simp only [finV, List.getElem?_map, List.getElem?_eq_getElem hxl, Option.map_some] at hv
    have hlx : x < lvs.length := by omega
    rw [List.getElem?_eq_getElem hlx] at hv
    simp only [Option.some.injEq] at hv
    have hlm : ls[x] < (lfs L O).length := by have := p1.mem_iff.1 (List.getElem_mem hxl); simpa using this
    have hlv : (lvO L lvs O)[ls[x]]? = some (lvs.getD ((lfs L O)[ls[x]]).toNat 0) := by unfold lvO; rw [List.getElem?_map, List.getElem?_eq_getElem hlm]; rfl
    rw [getD_some hlv] at hv
    obtain ⟨hy, hyL⟩ := mem_lfs.1 (List.getElem_mem hlm)
    have hy0 := (hI.2.1 _ hy).1
    have hyl : ((lfs L O)[ls[x]]).toNat < lvs.length := by omega
    rw [getD_some (List.getElem?_eq_getElem hyl)] at hv
    have hxy := (List.getElem_inj d.nl).1 hv
    have : (lfs L O)[ls[x]] = (x : Int) := by omega
    rw [← this, hlfn.idxOf_getElem]
  have numL : ∀ x ∈ O, x < L → numM ls (bref L O x) = x := fun x hx hl => by
    have hx0 := (hI.2.1 x hx).1
    obtain ⟨k, rfl⟩ : ∃ k : Nat, x = k := ⟨x.toNat, by omega⟩
    exact numM_leaf hl rfl hlsn (hpl k (by omega))
  have hnl : (nds L O).length = ns.length := by have := congrArg List.length p4; unfold finN at this; rw [List.length_map, ndO_len] at this; exact this
  -- the nodes' places
  have hnode : ∀ i, i < ns.length → (nds L O)[i]? = some ((L : Int) + i) := fun i => by
    induction i using Nat.strongRecOn with
    | _ i ih =>
      intro hi
      have hil : i < (nds L O).length := by omega
      rw [List.getElem?_eq_getElem hil]
      congr 1
      obtain ⟨r, hr⟩ : ∃ r, (nds L O)[i] = r := ⟨_, rfl⟩
      rw [hr]
      have hrm : r ∈ nds L O := hr ▸ List.getElem_mem hil
      obtain ⟨hrO, hrL⟩ := mem_nds.1 hrm
      have hrb := hI.2.1 r hrO
      obtain ⟨g, hg⟩ : ∃ g, ns[(r - L).toNat]? = some g := ⟨_, List.getElem?_eq_getElem (by omega)⟩
      obtain ⟨⟨c1, d1⟩, c3, d3⟩ := hI.2.2 r hrO hrL
      rw [frk_some hg] at c1 d1 c3 d3
      have hbr : bref L O r = 2 * (i : Int) + 1 := by rw [bref, if_neg (by omega), ← hr, hndn.idxOf_getElem]
      have num : ∀ x ∈ O, ((L : Int) ≤ x → bref L O x < bref L O r) → numM ls (bref L O x) = x := fun x hx hlt => by
        by_cases hxl : x < L
        · exact numL x hx hxl
        have hxL : (L : Int) ≤ x := by omega
        have h1 := hlt hxL
        rw [hbr, bref, if_neg hxl] at h1
        obtain ⟨j, hj⟩ : ∃ j, (nds L O).idxOf x = j := ⟨_, rfl⟩
        rw [hj] at h1
        have hji : j < i := by omega
        have h2 := ih j hji (by omega)
        obtain ⟨hjl, he⟩ := List.getElem?_eq_some_iff.1 h2
        have hxm := List.getElem_idxOf (List.idxOf_lt_length_of_mem (mem_nds.2 ⟨hx, hxL⟩))
        have hx2 : x = (L : Int) + j := by
          rw [← hxm, ← he]
          congr 1
        exact numM_node hxL hlsl hj hx2
      have hg2 : (finN ls (ndO L ns O))[i]? = some g := by
        unfold finN ndO
        rw [List.getElem?_map, List.getElem?_map, List.getElem?_eq_getElem hil, hr]
        simp only [Option.map_some]
        rw [frk_some hg, num _ c1 d1, num _ c3 d3]
      rw [p4] at hg2
      have := (List.getElem?_inj hi d.nd).1 (hg2.trans hg.symm)
      omega
  have hns : nds L O = (List.range ns.length).map fun i : Nat => (L : Int) + i := by
    apply List.ext_getElem?
    intro i
    by_cases hi : i < ns.length
    · rw [hnode i hi, List.getElem?_map, List.getElem?_range hi]
      rfl
    · rw [List.getElem?_eq_none (by omega), List.getElem?_eq_none (by simp; omega)]
  refine ⟨h0, h40, ?_, h3, by rw [hLe]; exact h4, h1, fun j hj => ?_, ?_⟩
  · obtain ⟨x, hx, hxl⟩ := has_leaf hI d.back (L + ns.length + 1) root (by omega) hm
    have := (hI.2.1 x hx).1
    omega
  · have hjO := (mem_lfs.1 (hall j (by omega))).1
    have := vis_from (L := L) (ns := ns) (L + ns.length + 1) [] root (j : Int) (by rw [show vis L ns (L + ns.length + 1) [] root = O from hO]; exact hjO)
    rcases this with h | h | ⟨f, hf, h⟩
    · cases h
    · unfold refsM; rw [h]; simp
    · unfold refsM
      refine List.mem_cons_of_mem _ (List.mem_flatMap.2 ⟨f, hf, ?_⟩)
      rcases h with h | h <;> simp [h]
  · rw [hLe]
    unfold diaL
    rw [frl_of h2 d.vr ns 0 rfl, Bool.true_and]
    unfold endL
    have hvn := visN_eq (L := L) (ns := ns) (L + ns.length + 1) [] root
    rw [show nds L ([] : List Int) = [] from rfl, show vis L ns (L + ns.length + 1) [] root = O from hO] at hvn
    rw [hvn, hnl, decide_eq_true rfl, Bool.and_true, ordL_iff]
    intro j x hx
    rw [hns, List.getElem?_map] at hx
    have hjl : j < ns.length := by
      by_cases h : j < ns.length
      · exact h
      · rw [List.getElem?_eq_none (by simp; omega)] at hx; cases hx
    rw [List.getElem?_range hjl] at hx
    simp at hx
    omega
theorem nd_of {vars : Int} {L : Nat} {ns : List Fork} (h : frlGo vars L ns ns 0 = true) : (∀ j, NdAt vars L ns j) := fun j f hf => by
  obtain ⟨a1, a2, a3, a4, a5, a6⟩ := frlGo_at ns 0 rfl h j f (Nat.zero_le _) hf
  obtain ⟨b1, b2, b3⟩ := refL_iff.1 a5
  obtain ⟨c1, c2, c3⟩ := refL_iff.1 a6
  exact ⟨b1, b2, c1, c2, a3, a4, a1, b3, c3⟩
theorem rig_frm {vars root : Int} {lvs : List Int} {ns : List Fork} (hL : lvs.length ≤ 4096) (hn : ns.length ≤ 4096) (h : RigP vars lvs ns root) : FrmP vars lvs ns root := by
  obtain ⟨h0, h40, hl1, h3, h4, h1, hrf, hd⟩ := h
  unfold diaL at hd
  rw [Bool.and_eq_true] at hd
  obtain ⟨hg, he⟩ := hd
  have h2 := nd_of hg
  have d := FrmP.dia (root := root) (vars := vars) ⟨by omega, by omega⟩ hL hn h1 h2
  refine ⟨h1, h2, h3, h4, ?_⟩
  obtain ⟨L, hLe⟩ : ∃ L, lvs.length = L := ⟨_, rfl⟩
  rw [hLe] at h2 h4 d hL hrf hl1 he hg ⊢
  obtain ⟨hI, _, hm, _⟩ := vis_I d.back (L + ns.length + 1) [] root (VisI.nil L ns) h3 h4 (by omega)
  obtain ⟨O, hO⟩ : ∃ O, ordO L ns root = O := ⟨_, rfl⟩
  unfold EqP
  rw [hO]
  rw [show vis L ns (L + ns.length + 1) [] root = O from hO] at hI hm
  have hvn := visN_eq (L := L) (ns := ns) (L + ns.length + 1) [] root
  rw [show nds L ([] : List Int) = [] from rfl, show vis L ns (L + ns.length + 1) [] root = O from hO] at hvn
  unfold endL at he
  rw [hvn, Bool.and_eq_true, ordL_iff] at he
  obtain ⟨he1, he2⟩ := he
  have hnl : (nds L O).length = ns.length := of_decide_eq_true he2
  have hlfn : (lfs L O).Nodup := hI.1.filter _
  have hndn : (nds L O).Nodup := hI.1.filter _
  have hnode : ∀ i, i < ns.length → (nds L O)[i]? = some ((L : Int) + i) := fun i hi => by
    have hil : i < (nds L O).length := by omega
    rw [List.getElem?_eq_getElem hil]
    have := he1 i _ (List.getElem?_eq_getElem hil)
    rw [this]
    simp
  have hinO : ∀ i, i < ns.length → ((L : Int) + i) ∈ O := fun i hi => (mem_nds.1 (List.mem_of_getElem? (hnode i hi))).1
  have hall : ∀ j, j < L → (j : Int) ∈ lfs L O := fun j hj => by
    refine mem_lfs.2 ⟨?_, by omega⟩
    have := hrf j hj
    unfold refsM at this
    rcases List.mem_cons.1 this with h | h
    · rw [h]; exact hm
    · obtain ⟨f, hf, h⟩ := List.mem_flatMap.1 h
      obtain ⟨i, hi⟩ := List.mem_iff_getElem?.1 hf
      have hil := (List.getElem?_eq_some_iff.1 hi).1
      obtain ⟨⟨c1, _⟩, c3, _⟩ := hI.2.2 _ (hinO i hil) (by omega)
      rw [frk_some (by rw [show ((L : Int) + i - L).toNat = i by omega]; exact hi)] at c1 c3
      simp at h
      rcases h with h | h
      · rw [h]; exact c1
      · rw [h]; exact c3
  have hml : (lfs L O).length = L := by
    have h1 := hI.split.1
    have h2 : L ≤ (lfs L O).length := by
      have hp := pigeon (lfs L O).length ((List.range L).map fun j : Nat => (lfs L O).idxOf (j : Int)) (by
        rw [List.Nodup, List.pairwise_map]
        refine List.nodup_range.imp_of_mem ?_
        intro a b ha hb hne e
        simp only [List.mem_range] at ha hb
        have ea := List.getElem_idxOf (List.idxOf_lt_length_of_mem (hall a ha))
        have eb := List.getElem_idxOf (List.idxOf_lt_length_of_mem (hall b hb))
        have : (a : Int) = b := by rw [← ea, ← eb]; congr 1
        omega) (fun x hx => by
          obtain ⟨j, hj, rfl⟩ := List.mem_map.1 hx
          exact List.idxOf_lt_length_of_mem (hall j (by simpa using hj)))
      simpa using hp
    omega
  obtain ⟨ls, hls⟩ : ∃ ls : List Nat, (List.range L).map (fun j : Nat => (lfs L O).idxOf (j : Int)) = ls := ⟨_, rfl⟩
  have hlsl : ls.length = L := by rw [← hls]; simp
  have hpl : ∀ x : Nat, x < L → ls[x]? = some ((lfs L O).idxOf (x : Int)) := fun x hx => by rw [← hls, List.getElem?_map, List.getElem?_range hx]; rfl
  have hlsn : ls.Nodup := by
    rw [← hls, List.Nodup, List.pairwise_map]
    refine List.nodup_range.imp_of_mem ?_
    intro a b ha hb hne e
    simp only [List.mem_range] at ha hb
    have ea := List.getElem_idxOf (List.idxOf_lt_length_of_mem (hall a ha))
    have eb := List.getElem_idxOf (List.idxOf_lt_length_of_mem (hall b hb))
    have : (a : Int) = b := by rw [← ea, ← eb]; congr 1
    omega
  have hval : ∀ x : Nat, x < L → (lvO L lvs O).getD ((lfs L O).idxOf (x : Int)) 0 = lvs.getD x 0 := fun x hx => by
    have hi := List.idxOf_lt_length_of_mem (hall x hx)
    have e := List.getElem_idxOf hi
    have : (lvO L lvs O)[(lfs L O).idxOf (x : Int)]? = some (lvs.getD x 0) := by
      unfold lvO
      rw [List.getElem?_map, List.getElem?_eq_getElem hi, e]
      simp
    exact getD_some this
  have numL : ∀ x ∈ O, x < L → numM ls (bref L O x) = x := fun x hx hl => by
    have hx0 := (hI.2.1 x hx).1
    obtain ⟨k, rfl⟩ : ∃ k : Nat, x = k := ⟨x.toNat, by omega⟩
    exact numM_leaf hl rfl hlsn (hpl k (by omega))
  have num : ∀ x ∈ O, numM ls (bref L O x) = x := fun x hx => by
    by_cases hxl : x < L
    · exact numL x hx hxl
    have hxL : (L : Int) ≤ x := by omega
    obtain ⟨j, hj⟩ : ∃ j, (nds L O).idxOf x = j := ⟨_, rfl⟩
    have hjl := List.idxOf_lt_length_of_mem (mem_nds.2 ⟨hx, hxL⟩)
    have hxm := List.getElem_idxOf hjl
    rw [hj] at hjl
    have h2 := hnode j (by omega)
    rw [List.getElem?_eq_getElem hjl] at h2
    injection h2 with h2
    have hx2 : x = (L : Int) + j := by
      rw [← h2, ← hxm]
      congr 1
    exact numM_node hxL hlsl hj hx2
  have hfv : finV ls (lvO L lvs O) = lvs := by
    apply List.ext_getElem?
    intro i
    by_cases hi : i < L
    · unfold finV
      rw [List.getElem?_map, hpl i hi]
      simp only [Option.map_some]
      rw [hval i hi, List.getElem?_eq_getElem (by omega), getD_some (List.getElem?_eq_getElem (by omega))]
    · rw [List.getElem?_eq_none (by unfold finV; rw [List.length_map]; omega), List.getElem?_eq_none (by omega)]
  refine ⟨ls, ?_, ?_, hfv, ?_, num root hm⟩
  · rw [hml]
    refine (List.perm_ext_iff_of_nodup hlsn List.nodup_range).2 fun a => ?_
    have hfl := full_list (l := ls.map Int.ofNat) (n := L) (by
      rw [List.Nodup, List.pairwise_map]
      exact hlsn.imp fun {a b} hne e => hne (by injection e)) (fun x hx => by
        obtain ⟨y, hy, rfl⟩ := List.mem_map.1 hx
        rw [← hls] at hy
        obtain ⟨j, hj, rfl⟩ := List.mem_map.1 hy
        have := List.idxOf_lt_length_of_mem (hall j (by simpa using hj))
        exact ⟨by simp, by simp; omega⟩) (by rw [List.length_map]; omega)
    constructor
    · intro ha
      rw [← hls] at ha
      obtain ⟨j, hj, rfl⟩ := List.mem_map.1 ha
      have := List.idxOf_lt_length_of_mem (hall j (by simpa using hj))
      simp
      omega
    · intro ha
      have := hfl a (by simpa using ha)
      obtain ⟨y, hy, e⟩ := List.mem_map.1 this
      have : y = a := by have : (y : Int) = a := e; omega
      exact this ▸ hy
  · rw [hfv, List.pairwise_iff_getElem]
    intro i j hi hj hij
    have := asc_pair h1 j i _ _ hij (List.getElem?_eq_getElem hi) (List.getElem?_eq_getElem hj)
    omega
  · apply List.ext_getElem?
    intro i
    by_cases hi : i < ns.length
    · unfold finN ndO
      obtain ⟨f, hf⟩ : ∃ f, ns[i]? = some f := ⟨_, List.getElem?_eq_getElem hi⟩
      obtain ⟨⟨c1, _⟩, c3, _⟩ := hI.2.2 _ (hinO i hi) (by omega)
      rw [frk_some (by rw [show ((L : Int) + i - L).toNat = i by omega]; exact hf)] at c1 c3
      rw [List.getElem?_map, List.getElem?_map, hnode i hi]
      simp only [Option.map_some]
      rw [frk_some (by rw [show ((L : Int) + i - L).toNat = i by omega]; exact hf), num _ c1, num _ c3, hf]
    · rw [List.getElem?_eq_none (by unfold finN; rw [List.length_map, ndO_len]; omega), List.getElem?_eq_none (by omega)]
end Go.Proofs.YteadlkecngfcoaaGreat
