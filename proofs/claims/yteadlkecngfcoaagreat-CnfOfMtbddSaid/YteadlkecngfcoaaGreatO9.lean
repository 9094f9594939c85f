/- Walks: mtbdd's formed and Check. No condition but sizes. -/
import Derived.Test.YteadlkecngfcoaaGreatO8
namespace Go.Proofs.YteadlkecngfcoaaGreat
open Go.ChangeShapes Go.WideShapes Go.ChangeAt Go.RowKit
set_option linter.unusedVariables false
set_option linter.unusedSimpArgs false

/-- a leaf in range, above the one before -/
def LvAt (lvs : List Int) (j : Nat) : Prop := ∀ v, lvs[j]? = some v → rngM v = true ∧ ∀ u, 0 < j → lvs[j - 1]? = some u → u < v
/-- a node that Check's scan passes -/
def NdAt (vars : Int) (L : Nat) (ns : List Fork) (j : Nat) : Prop := ∀ f, ns[j]? = some f → 0 ≤ f.2.1 ∧ f.2.1 < L + j ∧ 0 ≤ f.2.2 ∧ f.2.2 < L + j ∧ f.2.1 ≠ f.2.2 ∧ f ∉ ns.take j ∧ 0 ≤ f.1 ∧ f.1 < topM vars L ns f.2.1 ∧ f.1 < topM vars L ns f.2.2
def ordO (L : Nat) (ns : List Fork) (root : Int) : List Int := vis L ns (L + ns.length + 1) [] root
/-- the diagram is what finish makes of it -/
def EqP (L : Nat) (lvs : List Int) (ns : List Fork) (root : Int) : Prop :=
  ∃ ls : List Nat, ls.Perm (List.range (lfs L (ordO L ns root)).length) ∧ (finV ls (lvO L lvs (ordO L ns root))).Pairwise (· ≤ ·) ∧ finV ls (lvO L lvs (ordO L ns root)) = lvs ∧ finN ls (ndO L ns (ordO L ns root)) = ns ∧ numM ls (bref L (ordO L ns root) root) = root
def FrmP (vars : Int) (lvs : List Int) (ns : List Fork) (root : Int) : Prop := (∀ j, LvAt lvs j) ∧ (∀ j, NdAt vars lvs.length ns j) ∧ 0 ≤ root ∧ root < lvs.length + ns.length ∧ EqP lvs.length lvs ns root
def FrmPost (W : World) (P : Prop) (e : Ending) (w' : World) : Prop := ∃ b, e = .returned (.bool b) ∧ (b = true ↔ P) ∧ Below W.heap.size W w'

theorem asc_pair {lvs : List Int} (h : ∀ j, LvAt lvs j) : ∀ (j : Nat) (i : Nat) (u v : Int), i < j → lvs[i]? = some u → lvs[j]? = some v → u < v
  | 0, i, u, v, hij, _, _ => by omega
  | j + 1, i, u, v, hij, hu, hv => by
    have hl := (List.getElem?_eq_some_iff.1 hv).1
    obtain ⟨x, hx⟩ : ∃ x, lvs[j]? = some x := ⟨_, List.getElem?_eq_getElem (by omega)⟩
    have h1 := (h (j + 1) v hv).2 x (by omega) hx
    by_cases e : i = j
    · subst e
      rw [hu] at hx
      injection hx with hx
      omega
    · have := asc_pair h j i u x (by omega) hu hx
      omega
theorem FrmP.dia {vars root : Int} {lvs : List Int} {ns : List Fork} (hv : I64 vars) (hL : lvs.length ≤ 4096) (hn : ns.length ≤ 4096) (h1 : ∀ j, LvAt lvs j) (h2 : ∀ j, NdAt vars lvs.length ns j) : DiaP vars lvs.length lvs ns where
  v64 := hv
  hL := hL
  hn := hn
  len := rfl
  rng v hv := by
    obtain ⟨j, hj⟩ := List.mem_iff_getElem?.1 hv
    exact (h1 j v hj).1
  nl := by
    rw [List.Nodup, List.pairwise_iff_getElem]
    intro i j hi hj hij e
    have := asc_pair h1 j i _ _ hij (List.getElem?_eq_getElem hi) (List.getElem?_eq_getElem hj)
    omega
  nd := by
    rw [List.Nodup, List.pairwise_iff_getElem]
    intro i j hi hj hij e
    have := (h2 j _ (List.getElem?_eq_getElem hj)).2.2.2.2.2.1
    exact this (List.mem_iff_getElem?.2 ⟨i, by rw [List.getElem?_take_of_lt hij, List.getElem?_eq_getElem hi, e]⟩)
  back j f hf := by
    have h := h2 j f hf
    exact ⟨⟨h.1, h.2.1⟩, h.2.2.1, h.2.2.2.1⟩
  vr f hf := by
    obtain ⟨j, hj⟩ := List.mem_iff_getElem?.1 hf
    have hv : ∀ (j : Nat) (f : Fork), ns[j]? = some f → f.1 < vars := fun j => by
      induction j using Nat.strongRecOn with
      | _ j ih =>
        intro f hf
        have h := h2 j f hf
        have ht := h.2.2.2.2.2.2.2.1
        unfold topM at ht
        split at ht
        · exact ht
        · rename_i hl
          obtain ⟨g, hg⟩ : ∃ g, ns[(f.2.1 - lvs.length).toNat]? = some g := ⟨_, List.getElem?_eq_getElem (by have := (List.getElem?_eq_some_iff.1 hf).1; omega)⟩
          rw [frk_some hg] at ht
          have := ih _ (by omega) g hg
          omega
    exact hv j f hj
  ne f hf := by
    obtain ⟨j, hj⟩ := List.mem_iff_getElem?.1 hf
    exact (h2 j f hj).2.2.2.2.1
theorem pair_le_eq : ∀ {a b : List Int}, a.Perm b → a.Pairwise (· ≤ ·) → b.Pairwise (· ≤ ·) → a = b
  | [], b, hp, _, _ => hp.nil_eq
  | x :: a, [], hp, _, _ => by have := hp.length_eq; simp at this
  | x :: a, y :: b, hp, ha, hb => by
    obtain ⟨a1, a2⟩ := List.pairwise_cons.1 ha
    obtain ⟨b1, b2⟩ := List.pairwise_cons.1 hb
    have e : x = y := by
      have hx : x ∈ y :: b := hp.mem_iff.1 (by simp)
      have hy : y ∈ x :: a := hp.mem_iff.2 (by simp)
      have h1 : y ≤ x := by rcases List.mem_cons.1 hx with h | h; exact Int.le_of_eq h.symm; exact b1 x h
      have h2 : x ≤ y := by rcases List.mem_cons.1 hy with h | h; exact Int.le_of_eq h.symm; exact a1 y h
      omega
    subst e
    rw [pair_le_eq (List.Perm.cons_inv hp) a2 b2]
/-- the leaves' order is the only one -/
theorem ls_unique {vals : List Int} {m : Nat} {l1 l2 : List Nat} (hn : vals.Nodup) (hm : vals.length = m) (p1 : l1.Perm (List.range m)) (p2 : l2.Perm (List.range m)) (s1 : (finV l1 vals).Pairwise (· ≤ ·)) (s2 : (finV l2 vals).Pairwise (· ≤ ·)) : l1 = l2 := by
  have h := pair_le_eq ((p1.trans p2.symm).map fun i => vals.getD i 0) s1 s2
  have inj : ∀ x ∈ List.range m, ∀ y ∈ List.range m, vals.getD x 0 = vals.getD y 0 → x = y := fun x hx y hy e => by
    simp only [List.mem_range] at hx hy
    have hx' : x < vals.length := by omega
    have hy' : y < vals.length := by omega
    rw [getD_some (List.getElem?_eq_getElem hx'), getD_some (List.getElem?_eq_getElem hy')] at e
    exact (List.getElem_inj hn).1 e
  apply List.ext_getElem?
  intro i
  have hi := congrArg (fun l : List Int => l[i]?) h
  simp only [List.getElem?_map] at hi
  have ll := (p1.trans p2.symm).length_eq
  by_cases hlt : i < l1.length
  · have hlt2 : i < l2.length := by omega
    rw [List.getElem?_eq_getElem hlt, List.getElem?_eq_getElem hlt2] at hi ⊢
    simp only [Option.map_some, Option.some.injEq] at hi ⊢
    exact inj _ (p1.mem_iff.1 (List.getElem_mem hlt)) _ (p2.mem_iff.1 (List.getElem_mem hlt2)) hi
  · rw [List.getElem?_eq_none (by omega), List.getElem?_eq_none (by omega)]
theorem lvO_nodup {L : Nat} {ns : List Fork} {lvs O : List Int} (hI : VisI L ns O) (hl : lvs.length = L) (hn : lvs.Nodup) : (lvO L lvs O).Nodup := by
  unfold lvO
  rw [List.Nodup, List.pairwise_map]
  refine (hI.1.filter _).imp_of_mem fun {a b} ha hb hne e => hne ?_
  obtain ⟨ha, hal⟩ := mem_lfs.1 ha
  obtain ⟨hb, hbl⟩ := mem_lfs.1 hb
  have h1 := (hI.2.1 a ha).1
  have h2 := (hI.2.1 b hb).1
  have ha' : a.toNat < lvs.length := by omega
  have hb' : b.toNat < lvs.length := by omega
  rw [getD_some (List.getElem?_eq_getElem ha'), getD_some (List.getElem?_eq_getElem hb')] at e
  have := (List.getElem_inj hn).1 e
  omega

theorem frm_no {w W : World} {P Q : Prop} (hQ : Q = P) (h : ¬ Q) (hb : Below w.heap.size w W) : FrmPost w P (.returned (.bool false)) W := ⟨false, rfl, by rw [← hQ]; exact ⟨(fun h => by cases h), fun h' => absurd h' h⟩, hb⟩
set_option maxRecDepth 100000 in
set_option maxHeartbeats 16000000 in
theorem mformed_any (F : Nat → Prop) (vars root : Int) (lv0 nv0 : Value) (lvs : List Int) (ns : List Fork) (w : World) (hlv : Ints F w lv0 lvs) (hnv : Forks F w nv0 ns) (hL : lvs.length ≤ 4096) (hn : ns.length ≤ 4096) (hv : I64 vars) (hr : I64 root) :
    Calls Tryz.prog 37 #[.agg #[.int .i64 vars, lv0, nv0, .int .i64 root]] w (FrmPost w (FrmP vars lvs ns root)) := by
  obtain ⟨P, hP⟩ : ∃ P, FrmP vars lvs ns root = P := ⟨_, rfl⟩
  rw [hP]
  obtain ⟨la, ll, lc, rfl, HLL, _⟩ := hlv.form'
  obtain ⟨na, nl, nc, rfl, HNL, _⟩ := hnv.form
  obtain ⟨s, hs⟩ : ∃ b, w.heap.size = b := ⟨_, rfl⟩
  obtain ⟨W1, hW1⟩ : ∃ W1, w.alloc (.cells #[.int .i64 vars, .slice la ll lc, .slice na nl nc, .int .i64 root] 25) = W1 := ⟨_, rfl⟩
  have hb1 : Below w.heap.size w W1 := by rw [← hW1]; exact (Below.refl _ _).alloc (Nat.le_refl _) _
  have hs1 : W1.heap.size = s + 1 := by rw [← hW1, World.size_alloc, hs]
  have hA : W1.heap[s]? = some (.cells #[.int .i64 vars, .slice la ll lc, .slice na nl nc, .int .i64 root] 25) := by rw [← hW1, ← hs]; exact new_at _ _
  have k0 := cell_of (o := 0) hA rfl
  have k1 := cell_of (o := 1) hA rfl
  have k2 := cell_of (o := 2) hA rfl
  have k3 := cell_of (o := 3) hA rfl
  have HLV := Lib.hid (hlv.below hb1)
  have HNV := Lib.hid (hnv.below hb1)
  have HP := Lib.hid hP
  have HW1 := Lib.hid hW1
  have HB1 := Lib.hid hb1
  have HA := Lib.hid hA
  have HS := Lib.hid hs
  have HV := Lib.hid hv
  have HR := Lib.hid hr
  have hll : ll ≤ 4096 := by rw [HLL.out]; exact hL
  have hnl : nl ≤ 4096 := by rw [HNL.out]; exact hn
  have HLn := Lib.hid hL
  have HNn := Lib.hid hn
  have hmm := @run_makeMap Tryz.prog
  have HRG := Lib.hid range_any
  clear hP hlv hnv hs hW1 hb1 hA hv hr hL hn
  go_enter Tryz.func37, Tryz.ntmps37
  go_upto_region 1 with fail
  rw [HW1.out, HS.out]
  go_wp2_with fail
  go_loopg [14] ll (fun gg u14 wx => ∃ (k : Nat), k + gg = ll ∧ u14 = .int .i64 k ∧ Hid (W1 = wx) ∧ Hid (∀ j, j < k → LvAt lvs j))
  case atStart => exact ⟨0, by omega, rfl, Lib.hid rfl, Lib.hid fun j hj => by omega⟩
  case round =>
  obtain ⟨k, hkg, rfl, HWX, HOK⟩ := hrel
  obtain rfl := HWX.out
  clear HWX
  by_cases hk : k < ll
  case neg =>
    have HLA : Hid (∀ j, LvAt lvs j) := Lib.hid fun j v hj => HOK.out j (by have := (List.getElem?_eq_some_iff.1 hj).1; have := HLL.out; omega) v hj
    have hdk : decide ((k : Int) < ll) = false := by simp; omega
    have hdk' : decide (k < ll) = false := decide_eq_false hk
    have hkl : k = ll := by omega
    clear HOK
    have HS1 : Hid (Seen (W1.alloc (.map #[] 0)) (s + 1) (ns.take 0)) := Lib.hid (by have := Seen.made W1; rw [hs1] at this; simpa using this)
    have HBM : Hid (Below (s + 1) W1 (W1.alloc (.map #[] 0))) := Lib.hid (by have := (Below.refl W1.heap.size W1).alloc (Nat.le_refl _) (.map #[] 0); rw [hs1] at this; exact this)
    have HK : Hid (W1.cell? ⟨s, 0, none⟩ = some (.int .i64 vars) ∧ W1.cell? ⟨s, 1, none⟩ = some (.slice la ll lc) ∧ W1.cell? ⟨s, 2, none⟩ = some (.slice na nl nc) ∧ W1.cell? ⟨s, 3, none⟩ = some (.int .i64 root)) := Lib.hid ⟨k0, k1, k2, k3⟩
    obtain ⟨W2, hW2⟩ : ∃ W, W1.alloc (.map #[] 0) = W := ⟨_, rfl⟩
    rw [hW2] at HS1 HBM
    have HW2 := Lib.hid hW2
    have k2' := below_c HBM.out (by omega) k2
    clear hW2 hkl
    go_upto_region 8 with fail
    try rw [HW2.out]
    clear k0 k1 k2 k3
    go_wp2_with fail
    go_loopg [41] nl (fun gg u41 wx => ∃ (q : Nat), q + gg = nl ∧ u41 = .int .i64 q ∧ Hid (Below (s + 1) W1 wx) ∧ Hid (Seen wx (s + 1) (ns.take q)) ∧ Hid (∀ j, j < q → NdAt vars lvs.length ns j))
    case atStart => exact ⟨0, by omega, rfl, HBM, HS1, Lib.hid fun j hj => by omega⟩
    case round =>
    clear HS1 HBM
    obtain ⟨q, hqg, rfl, HB, HSN, HND⟩ := hrel
    have hsz := HB.out.size
    have hszr : s + 1 ≤ wr.heap.size := by omega
    have k0 := below_c HB.out (by omega) HK.out.1
    have k1 := below_c HB.out (by omega) HK.out.2.1
    have k2 := below_c HB.out (by omega) HK.out.2.2.1
    have k3 := below_c HB.out (by omega) HK.out.2.2.2
    by_cases hq : q < nl
    case neg =>
      have hdq : decide ((q : Int) < nl) = false := by simp; omega
      have hdq' : decide (q < nl) = false := decide_eq_false hq
      have HNA : Hid (∀ j, NdAt vars lvs.length ns j) := Lib.hid fun j f hf => HND.out j (by have := (List.getElem?_eq_some_iff.1 hf).1; have := HNL.out; omega) f hf
      have HBW : Hid (Below w.heap.size w wr) := Lib.hid (HB1.out.trans (HB.out.mono (by have := HS.out; omega)))
      clear HND HSN k2'
      have hrf : IntKind.i64.wrap ((ll : Int) + nl) = ll + nl := IntWalk.i64_in _ ⟨by omega, by omega⟩
      by_cases hr0 : root < 0
      · have hd : decide (root < 0) = true := decide_eq_true hr0
        have HF : Hid (FrmPost w P (.returned (.bool false)) wr) := Lib.hid (frm_no HP.out (fun h => by have := h.2.2.1; omega) HBW.out)
        clear hr0
        go_wp2_with fail
        go_ret
        exact HF.out
      have hd : decide (root < 0) = false := decide_eq_false hr0
      by_cases hr1 : (ll : Int) + nl ≤ root
      · have hd2 : decide ((ll : Int) + nl ≤ root) = true := decide_eq_true hr1
        have HF : Hid (FrmPost w P (.returned (.bool false)) wr) := Lib.hid (frm_no HP.out (fun h => by have := h.2.2.2.1; have := HLL.out; have := HNL.out; omega) HBW.out)
        clear hr0 hr1
        go_wp2_with fail
        go_ret
        exact HF.out
      have hd2 : decide ((ll : Int) + nl ≤ root) = false := decide_eq_false hr1
      have HDIA := Lib.hid (FrmP.dia (root := root) HV.out HLn.out HNn.out HLA.out HNA.out)
      obtain ⟨O, hO⟩ : ∃ O, ordO lvs.length ns root = O := ⟨_, rfl⟩
      have hrt : 0 ≤ root ∧ root < lvs.length + ns.length := ⟨by omega, by have := HLL.out; have := HNL.out; omega⟩
      have HRT := Lib.hid hrt
      obtain ⟨w5, hw5⟩ : ∃ W, wr.alloc (.cells #[.int .i64 vars, .slice la ll lc, .slice na nl nc, .int .i64 root] 25) = W := ⟨_, rfl⟩
      have hb5 : Below wr.heap.size wr w5 := by rw [← hw5]; exact (Below.refl _ _).alloc (Nat.le_refl _) _
      have hA5 : w5.heap[wr.heap.size]? = some (.cells #[.int .i64 vars, .slice la ll lc, .slice na nl nc, .int .i64 root] 25) := by rw [← hw5]; exact new_at _ _
      have hb15 : Below W1.heap.size W1 w5 := by rw [hs1]; exact HB.out.trans (hb5.mono (by omega))
      have HLV5 := Lib.hid (HLV.out.below hb15)
      have HNV5 := Lib.hid (HNV.out.below hb15)
      have HMD := Lib.hid (made_any wr.heap.size vars root (.slice la ll lc) (.slice na nl nc) lvs.length lvs ns O w5 (by rw [← hO]; rfl) HDIA.out hrt.1 hrt.2 hA5 (HLV5.out.mono fun _ _ => trivial) (HNV5.out.mono fun _ _ => trivial))
      have k1 := below_c hb5 (block_lt k1) k1
      have k2 := below_c hb5 (block_lt k2) k2
      have k3 := below_c hb5 (block_lt k3) k3
      have k0' := below_c hb5 (block_lt k0) k0
      have HW5 := Lib.hid hw5
      have HB5 : Hid (Below w.heap.size w w5) := Lib.hid (HBW.out.trans (hb5.mono HBW.out.size))
      have HO := Lib.hid hO
      have hs5 : s < w5.heap.size := by have := hb5.size; omega
      clear hw5 hb5 hA5 hb15 hO hrt hr0 hr1
      go_upto_region 20 with fail
      go_wp2_with fail
      rw [HW5.out]
      refine HMD.out.mono ?_
      rintro e w6 ⟨ls, lv1, nv1, hp, hpw, rfl, hl1, hn1, hb6⟩
      obtain ⟨ma, ml, mc, rfl, _, _⟩ := hl1.form'
      obtain ⟨xa, xl, xc, rfl, _, _⟩ := hn1.form
      obtain ⟨Y, hY⟩ : ∃ y, numM ls (bref lvs.length O root) = y := ⟨_, rfl⟩
      rw [hY]
      obtain ⟨ls', hls'⟩ : ∃ l, finV ls (lvO lvs.length lvs O) = l := ⟨_, rfl⟩
      obtain ⟨ns', hns'⟩ : ∃ l, finN ls (ndO lvs.length ns O) = l := ⟨_, rfl⟩
      rw [hls'] at hl1
      rw [hns'] at hn1
      have k1 := below_c hb6 (block_lt k1) k1
      have k2 := below_c hb6 (block_lt k2) k2
      have k3 := below_c hb6 (block_lt k3) k3
      obtain ⟨w7, hw7⟩ : ∃ W, w6.alloc (.cells #[.int .i64 vars, .slice ma ml mc, .slice xa xl xc, .int .i64 Y] 25) = W := ⟨_, rfl⟩
      have hb7 : Below w6.heap.size w6 w7 := by rw [← hw7]; exact (Below.refl _ _).alloc (Nat.le_refl _) _
      obtain ⟨z, hz⟩ : ∃ z, w6.heap.size = z := ⟨_, rfl⟩
      have hA7 : w7.heap[z]? = some (.cells #[.int .i64 vars, .slice ma ml mc, .slice xa xl xc, .int .i64 Y] 25) := by rw [← hw7, ← hz]; exact new_at _ _
      have j1 := cell_of (o := 1) hA7 rfl
      have j2 := cell_of (o := 2) hA7 rfl
      have j3 := cell_of (o := 3) hA7 rfl
      have k1 := below_c hb7 (block_lt k1) k1
      have k2 := below_c hb7 (block_lt k2) k2
      have k3 := below_c hb7 (block_lt k3) k3
      have hb57 : Below w5.heap.size w5 w7 := hb6.trans (hb7.mono hb6.size)
      have HB7 : Hid (Below w.heap.size w w7) := Lib.hid (HB5.out.trans (hb57.mono HB5.out.size))
      obtain ⟨B1, hB1⟩ : ∃ b, (lvs == ls') = b := ⟨_, rfl⟩
      obtain ⟨B2, hB2⟩ : ∃ b, (ns == ns') = b := ⟨_, rfl⟩
      obtain ⟨B3, hB3⟩ : ∃ b, (root == Y) = b := ⟨_, rfl⟩
      have HEL : Hid (∀ n, Calls Tryz.prog 28 #[.slice la ll lc, .slice ma ml mc] (w7.drewN n) (QuietPost (w7.drewN n) (.bool B1))) := Lib.hid fun n => by
        have hn := below_drewN (Below.refl w7.heap.size w7) n
        rw [← hB1]
        exact equal_any _ _ lvs ls' _ ((HLV5.out.below hb57).below hn) ((hl1.below hb7).below hn)
      have HEN : Hid (∀ n, Calls Tryz.prog 57 #[.slice na nl nc, .slice xa xl xc] (w7.drewN n) (QuietPost (w7.drewN n) (.bool B2))) := Lib.hid fun n => by
        have hn := below_drewN (Below.refl w7.heap.size w7) n
        rw [← hB2]
        exact equalk_any _ _ _ _ ns ns' _ ((HNV5.out.below hb57).below hn) ((hn1.below hb7).below hn)
      have HRES : Hid (∀ n, FrmPost w P (.returned (.bool (B1 && B2 && B3))) (w7.drewN n)) := Lib.hid fun n => by
        refine ⟨_, rfl, ?_, below_drewN HB7.out n⟩
        rw [← HP.out]
        have d := HDIA.out
        obtain ⟨hI, _, _, _⟩ := vis_I d.back (lvs.length + ns.length + 1) [] root (VisI.nil _ ns) HRT.out.1 HRT.out.2 (by have := HRT.out.2; omega)
        rw [show vis lvs.length ns (lvs.length + ns.length + 1) [] root = O from HO.out] at hI
        rw [Bool.and_eq_true, Bool.and_eq_true, ← hB1, ← hB2, ← hB3, beq_iff_eq, beq_iff_eq, beq_iff_eq]
        constructor
        · rintro ⟨⟨e1, e2⟩, e3⟩
          refine ⟨HLA.out, HNA.out, HRT.out.1, HRT.out.2, ls, ?_⟩
          rw [HO.out]
          exact ⟨hp, hpw, by rw [hls']; exact e1.symm, by rw [hns']; exact e2.symm, by rw [hY]; exact e3.symm⟩
        · rintro ⟨_, _, _, _, l2, q1, q2, q3, q4, q5⟩
          rw [HO.out] at q1 q2 q3 q4 q5
          have e := ls_unique (lvO_nodup hI rfl d.nl) (lvO_len _ _ _) hp q1 hpw q2
          subst e
          exact ⟨⟨by rw [← hls']; exact q3.symm, by rw [← hns']; exact q4.symm⟩, by rw [← hY]; exact q5.symm⟩
      have HW7 := Lib.hid hw7
      have HZ := Lib.hid hz
      have HEL0 : Hid (Calls Tryz.prog 28 #[.slice la ll lc, .slice ma ml mc] w7 (QuietPost w7 (.bool B1))) := Lib.hid (HEL.out 0)
      clear hp hpw hl1 hn1 hb6 hY hls' hns' hw7 hb7 hz hA7 hb57 hB1 hB2 HEL HMD k0'
      go_upto_region 21 with fail
      rw [HW7.out, HZ.out]
      go_wp2_with fail
      refine HEL0.out.mono ?_
      rintro e w8 ⟨rfl, n1, rfl⟩
      rcases bool2 B1 with rfl | rfl
      case inr =>
        go_wp2_with fail
        go_ret
        exact HRES.out _
      go_wp2_with fail
      refine (HEN.out _).mono ?_
      rintro e w8 ⟨rfl, n2, rfl⟩
      rcases bool2 B2 with rfl | rfl
      case inr =>
        go_wp2_with fail
        go_ret
        have h := HRES.out (n1 + n2)
        exact h
      go_wp2_with fail
      go_ret
      exact HRES.out (n1 + n2)
    have hdq : decide ((q : Int) < nl) = true := by simp; omega
    have hdq' : decide (q < nl) = true := decide_eq_true hq
    have hq0 : (0 : Int) ≤ q := by omega
    have hqn : (q : Int) < nl := by omega
    obtain ⟨f, hf⟩ : ∃ f, ns[q]? = some f := ⟨_, List.getElem?_eq_getElem (by have := HNL.out; omega)⟩
    have hbr : Below W1.heap.size W1 wr := by rw [hs1]; exact HB.out
    have hnr := HNV.out.below hbr
    obtain ⟨fb, fo, rfl, _, hfb, c0, c1, c2, hfo⟩ := hnr.at hf
    obtain ⟨fv, flo, fhi⟩ := f
    simp only at c0 c1 c2
    have HFF := Lib.hid hf
    have HFO := Lib.hid hfo
    obtain ⟨w5, hw5⟩ : ∃ W, wr.alloc (.cells #[.int .i64 fv, .int .i64 flo, .int .i64 fhi] 49) = W := ⟨_, rfl⟩
    have hb5 : Below wr.heap.size wr w5 := by rw [← hw5]; exact (Below.refl _ _).alloc (Nat.le_refl _) _
    have hs5 : w5.heap.size = wr.heap.size + 1 := by rw [← hw5, World.size_alloc]
    obtain ⟨z, hz⟩ : ∃ z, wr.heap.size = z := ⟨_, rfl⟩
    have g0 : w5.cell? ⟨z, 0, none⟩ = some (.int .i64 fv) := by rw [← hw5, ← hz]; exact cell_of (new_at _ _) rfl
    have g1 : w5.cell? ⟨z, 1, none⟩ = some (.int .i64 flo) := by rw [← hw5, ← hz]; exact cell_of (new_at _ _) rfl
    have g2 : w5.cell? ⟨z, 2, none⟩ = some (.int .i64 fhi) := by rw [← hw5, ← hz]; exact cell_of (new_at _ _) rfl
    have k0 := below_c hb5 (block_lt k0) k0
    have k1 := below_c hb5 (block_lt k1) k1
    have k3 := below_c hb5 (block_lt k3) k3
    have HSN5 := Lib.hid (HSN.out.below hb5)
    have hlk := HSN5.out.look hfo
    obtain ⟨S, hS⟩ : ∃ S, decide ((fv, flo, fhi) ∈ ns.take q) = S := ⟨_, rfl⟩
    rw [hS] at hlk
    have HSS := Lib.hid hS
    have HB5 : Hid (Below (s + 1) W1 w5) := Lib.hid (HB.out.trans (hb5.mono (by omega)))
    have HBF : Hid (Below w.heap.size w w5) := Lib.hid (HB1.out.trans (HB5.out.mono (by have := HS.out; omega)))
    have HNV5 := Lib.hid (hnr.below hb5)
    have k2'' := below_c hb5 (block_lt k2) k2
    have HW5 := Lib.hid hw5
    have HZ := Lib.hid hz
    have hrf : IntKind.i64.wrap ((ll : Int) + q) = ll + q := IntWalk.i64_in _ ⟨by omega, by omega⟩
    have hzs : s < z := by omega
    clear hf hbr hnr hfo hw5 hb5 hz hS HSN k2'
    
    go_upto_region 11 with fail
    rw [HW5.out, HZ.out]
    by_cases h1 : flo < 0
    · have HF : Hid (∀ W, Below w5.heap.size w5 W → FrmPost w P (.returned (.bool false)) W) := Lib.hid fun W hW => frm_no HP.out (fun h => by have h := h.2.1 q _ HFF.out; have := h.1; simp only at this; omega) (HBF.out.trans (hW.mono HBF.out.size))
      have hd1 : decide (flo < 0) = true := decide_eq_true h1
      clear h1
      go_wp2_with fail
      try rw [Exit.noGoto_ret]
      go_ret
      exact HF.out _ (Below.refl _ _)
    have hd1 : decide (flo < 0) = false := decide_eq_false h1
    by_cases h2 : (ll : Int) + q ≤ flo
    · have HF : Hid (∀ W, Below w5.heap.size w5 W → FrmPost w P (.returned (.bool false)) W) := Lib.hid fun W hW => frm_no HP.out (fun h => by have h := h.2.1 q _ HFF.out; have := h.2.1; simp only at this; have := HLL.out; omega) (HBF.out.trans (hW.mono HBF.out.size))
      have hd2 : decide ((ll : Int) + q ≤ flo) = true := decide_eq_true h2
      clear h1 h2
      go_wp2_with fail
      try rw [Exit.noGoto_ret]
      go_ret
      exact HF.out _ (Below.refl _ _)
    have hd2 : decide ((ll : Int) + q ≤ flo) = false := decide_eq_false h2
    by_cases h3 : fhi < 0
    · have HF : Hid (∀ W, Below w5.heap.size w5 W → FrmPost w P (.returned (.bool false)) W) := Lib.hid fun W hW => frm_no HP.out (fun h => by have h := h.2.1 q _ HFF.out; have := h.2.2.1; simp only at this; omega) (HBF.out.trans (hW.mono HBF.out.size))
      have hd3 : decide (fhi < 0) = true := decide_eq_true h3
      clear h1 h2 h3
      go_wp2_with fail
      try rw [Exit.noGoto_ret]
      go_ret
      exact HF.out _ (Below.refl _ _)
    have hd3 : decide (fhi < 0) = false := decide_eq_false h3
    by_cases h4 : (ll : Int) + q ≤ fhi
    · have HF : Hid (∀ W, Below w5.heap.size w5 W → FrmPost w P (.returned (.bool false)) W) := Lib.hid fun W hW => frm_no HP.out (fun h => by have h := h.2.1 q _ HFF.out; have := h.2.2.2.1; simp only at this; have := HLL.out; omega) (HBF.out.trans (hW.mono HBF.out.size))
      have hd4 : decide ((ll : Int) + q ≤ fhi) = true := decide_eq_true h4
      clear h1 h2 h3 h4
      go_wp2_with fail
      try rw [Exit.noGoto_ret]
      go_ret
      exact HF.out _ (Below.refl _ _)
    have hd4 : decide ((ll : Int) + q ≤ fhi) = false := decide_eq_false h4
    by_cases h5 : flo = fhi
    · have HF : Hid (∀ W, Below w5.heap.size w5 W → FrmPost w P (.returned (.bool false)) W) := Lib.hid fun W hW => frm_no HP.out (fun h => by have h := h.2.1 q _ HFF.out; exact h.2.2.2.2.1 h5) (HBF.out.trans (hW.mono HBF.out.size))
      have hd5 : (flo == fhi) = true := by simp [h5]
      clear h1 h2 h3 h4 h5
      go_wp2_with fail
      try rw [Exit.noGoto_ret]
      go_ret
      exact HF.out _ (Below.refl _ _)
    have hd5 : (flo == fhi) = false := by simp [h5]
    rcases bool2 S with rfl | rfl
    · have HF : Hid (∀ W, Below w5.heap.size w5 W → FrmPost w P (.returned (.bool false)) W) := Lib.hid fun W hW => frm_no HP.out (fun h => by have h := h.2.1 q _ HFF.out; exact h.2.2.2.2.2.1 (by simpa using HSS.out)) (HBF.out.trans (hW.mono HBF.out.size))
      clear h1 h2 h3 h4 h5
      go_wp2_with fail
      try rw [Exit.noGoto_ret]
      go_ret
      exact HF.out _ (Below.refl _ _)
    have HBND := Lib.hid (⟨h1, h2, h3, h4, h5⟩ : ¬ flo < 0 ∧ ¬ (ll : Int) + q ≤ flo ∧ ¬ fhi < 0 ∧ ¬ (ll : Int) + q ≤ fhi ∧ ¬ flo = fhi)
    obtain ⟨t1, ht1⟩ : ∃ t, topM vars ll ns flo = t := ⟨_, rfl⟩
    obtain ⟨t2, ht2⟩ : ∃ t, topM vars ll ns fhi = t := ⟨_, rfl⟩
    have HT : Hid (∀ x t W, (x = flo ∧ t = t1) ∨ (x = fhi ∧ t = t2) → Below w5.heap.size w5 W → Calls Tryz.prog 59 #[.agg #[.int .i64 vars, .slice la ll lc, .slice (some ⟨fb, fo, none⟩) nl nc, .int .i64 root], .int .i64 x] W fun e w' => e = .returned (.int .i64 t) ∧ Below W.heap.size W w') := Lib.hid fun x t W hx hW => by
      have hql : q < ns.length := (List.getElem?_eq_some_iff.1 HFF.out).1
      have h : x < ll + ns.length ∧ I64 x ∧ topM vars ll ns x = t := by
        rcases hx with ⟨rfl, rfl⟩ | ⟨rfl, rfl⟩
        · exact ⟨by omega, HFO.out.2.1, ht1⟩
        · exact ⟨by omega, HFO.out.2.2, ht2⟩
      have h2 := top_any _ vars root x la ll lc (.slice (some ⟨fb, fo, none⟩) nl nc) ns W (by omega) (HNV5.out.below hW) h.1 h.2.1
      rw [h.2.2] at h2
      refine h2.mono ?_
      rintro e w' ⟨rfl, rfl⟩
      exact ⟨rfl, (Below.refl _ _).alloc (Nat.le_refl _) _⟩
    have HT1 : Hid (∀ W, Below w5.heap.size w5 W → Calls Tryz.prog 59 #[.agg #[.int .i64 vars, .slice la ll lc, .slice (some ⟨fb, fo, none⟩) nl nc, .int .i64 root], .int .i64 flo] W fun e w' => e = .returned (.int .i64 t1) ∧ Below W.heap.size W w') := Lib.hid fun W hW => HT.out flo t1 W (.inl ⟨rfl, rfl⟩) hW
    have HT2 : Hid (∀ W, Below w5.heap.size w5 W → Calls Tryz.prog 59 #[.agg #[.int .i64 vars, .slice la ll lc, .slice (some ⟨fb, fo, none⟩) nl nc, .int .i64 root], .int .i64 fhi] W fun e w' => e = .returned (.int .i64 t2) ∧ Below W.heap.size W w') := Lib.hid fun W hW => HT.out fhi t2 W (.inr ⟨rfl, rfl⟩) hW
    have HTT1 : Hid (topM vars lvs.length ns flo = t1) := Lib.hid (by rw [← HLL.out]; exact ht1)
    have HTT2 : Hid (topM vars lvs.length ns fhi = t2) := Lib.hid (by rw [← HLL.out]; exact ht2)
    clear h1 h2 h3 h4 h5 HT ht1 ht2
    go_upto_region 14 with fail
    by_cases h1 : fv < 0
    · have HF : Hid (∀ W, Below w5.heap.size w5 W → FrmPost w P (.returned (.bool false)) W) := Lib.hid fun W hW => frm_no HP.out (fun h => by have h := h.2.1 q _ HFF.out; have := h.2.2.2.2.2.2.1; simp only at this; omega) (HBF.out.trans (hW.mono HBF.out.size))
      have hd6 : decide (fv < 0) = true := decide_eq_true h1
      clear h1 HT1 HT2
      go_quiet (fail)
      go_wp2_with fail
      try rw [Exit.noGoto_ret]
      go_ret
      exact HF.out _ (below_drewN (Below.refl _ _) _)
    have hd6 : decide (fv < 0) = false := decide_eq_false h1
    have HF0 := Lib.hid h1
    by_cases h2 : t1 ≤ fv
    · have HF : Hid (∀ W, Below w5.heap.size w5 W → FrmPost w P (.returned (.bool false)) W) := Lib.hid fun W hW => frm_no HP.out (fun h => by have h := h.2.1 q _ HFF.out; have := h.2.2.2.2.2.2.2.1; simp only at this; rw [HTT1.out] at this; omega) (HBF.out.trans (hW.mono HBF.out.size))
      have hd7 : decide (t1 ≤ fv) = true := decide_eq_true h2
      clear h1 h2 HT2
      refine wp_region_held_drew (S := fun w' => w'.cell? ⟨z, 0, none⟩ = some (.int .i64 fv) ∧ w'.cell? ⟨z, 1, none⟩ = some (.int .i64 flo) ∧ w'.cell? ⟨z, 2, none⟩ = some (.int .i64 fhi) ∧ w'.cell? ⟨s, 0, none⟩ = some (.int .i64 vars) ∧ w'.cell? ⟨s, 1, none⟩ = some (.slice la ll lc) ∧ w'.cell? ⟨s, 2, none⟩ = some (.slice (some ⟨fb, fo, none⟩) nl nc) ∧ w'.cell? ⟨s, 3, none⟩ = some (.int .i64 root)) (by kernel_rfl) (by exact ⟨g0, g1, g2, k0, k1, k2'', k3⟩) (fun hHeld => ?_)
      refine wpAnyH_take (i := 0) (v := ?_) rfl (by kernel_rfl) (by kernel_rfl) (by kernel_rfl) (fun _ _ _ h => h) (Or.inl ⟨by rfl, ?_⟩) (by assumption) ?_
      rotate_left
      · intro w hSw
        try dsimp only at hSw
        go_simp
        try with_reducible rfl
      try simp only [Act.put, List.getElem_toArray, List.getElem_cons_succ, List.getElem_cons_zero, List.setIfInBounds_toArray, List.set_cons_zero, List.set_cons_succ]
      refine wpAnyH_take (i := 1) (v := ?_) rfl (by kernel_rfl) (by kernel_rfl) (by kernel_rfl) (fun _ _ _ h => h) (Or.inl ⟨by rfl, ?_⟩) (by assumption) ?_
      rotate_left
      · intro w hSw
        try dsimp only at hSw
        go_simp
        try with_reducible rfl
      try simp only [Act.put, List.getElem_toArray, List.getElem_cons_succ, List.getElem_cons_zero, List.setIfInBounds_toArray, List.set_cons_zero, List.set_cons_succ]
      refine wpAnyH_take (i := 2) (v := ?_) rfl (by kernel_rfl) (by kernel_rfl) (by kernel_rfl) (fun _ _ _ h => h) (Or.inl ⟨by rfl, ?_⟩) (by assumption) ?_
      rotate_left
      · intro w hSw
        try dsimp only at hSw
        go_simp
        try with_reducible rfl
      try simp only [Act.put, List.getElem_toArray, List.getElem_cons_succ, List.getElem_cons_zero, List.setIfInBounds_toArray, List.set_cons_zero, List.set_cons_succ]
      refine wpAnyH_take (i := 3) (v := ?_) rfl (by kernel_rfl) (by kernel_rfl) (by kernel_rfl) (fun _ _ _ h => h) (Or.inl ⟨by rfl, ?_⟩) (by assumption) ?_
      rotate_left
      · intro w hSw
        try dsimp only at hSw
        go_simp
        try with_reducible rfl
      try simp only [Act.put, List.getElem_toArray, List.getElem_cons_succ, List.getElem_cons_zero, List.setIfInBounds_toArray, List.set_cons_zero, List.set_cons_succ]
      refine wpAnyH_take (i := 4) (v := ?_) rfl (by kernel_rfl) (by kernel_rfl) (by kernel_rfl) (fun _ _ _ h => h) (Or.inl ⟨by rfl, ?_⟩) (by assumption) ?_
      rotate_left
      · intro w hSw
        try dsimp only at hSw
        go_simp
        try with_reducible rfl
      try simp only [Act.put, List.getElem_toArray, List.getElem_cons_succ, List.getElem_cons_zero, List.setIfInBounds_toArray, List.set_cons_zero, List.set_cons_succ]
      refine wpAnyH_take (i := 5) (v := ?_) rfl (by kernel_rfl) (by kernel_rfl) (by kernel_rfl) (fun _ _ _ h => h) (Or.inl ⟨by rfl, ?_⟩) (by assumption) ?_
      rotate_left
      · intro w hSw
        try dsimp only at hSw
        go_simp
        try with_reducible rfl
      try simp only [Act.put, List.getElem_toArray, List.getElem_cons_succ, List.getElem_cons_zero, List.setIfInBounds_toArray, List.set_cons_zero, List.set_cons_succ]
      refine wpAnyH_take (i := 6) (v := ?_) rfl (by kernel_rfl) (by kernel_rfl) (by kernel_rfl) (fun _ _ _ h => h) (Or.inl ⟨by rfl, ?_⟩) (by assumption) ?_
      rotate_left
      · intro w hSw
        try dsimp only at hSw
        go_simp
        try with_reducible rfl
      try simp only [Act.put, List.getElem_toArray, List.getElem_cons_succ, List.getElem_cons_zero, List.setIfInBounds_toArray, List.set_cons_zero, List.set_cons_succ]
      refine wpAnyH_take (i := 7) (v := ?_) rfl (by kernel_rfl) (by kernel_rfl) (by kernel_rfl) (fun _ _ _ h => h) (Or.inl ⟨by rfl, ?_⟩) (by assumption) ?_
      rotate_left
      · intro w hSw
        try dsimp only at hSw
        go_simp
        try with_reducible rfl
      try simp only [Act.put, List.getElem_toArray, List.getElem_cons_succ, List.getElem_cons_zero, List.setIfInBounds_toArray, List.set_cons_zero, List.set_cons_succ]
      refine wpAnyH_take (i := 8) (v := ?_) rfl (by kernel_rfl) (by kernel_rfl) (by kernel_rfl) (fun _ _ _ h => h) (Or.inl ⟨by rfl, ?_⟩) (by assumption) ?_
      rotate_left
      · intro w hSw
        try dsimp only at hSw
        go_simp
        try with_reducible rfl
      try simp only [Act.put, List.getElem_toArray, List.getElem_cons_succ, List.getElem_cons_zero, List.setIfInBounds_toArray, List.set_cons_zero, List.set_cons_succ]
      refine wpAnyH_ready (rs := [9]) (by kernel_rfl) (by simp) ?_
      refine AllReadyH.cons rfl (fun K hK => ?_) AllReadyH.nil
      go_simp
      (with_reducible refine (HT1.out _ (below_drew (Below.refl _ _))).mono ?_)
      rintro e w6 ⟨rfl, hb6⟩
      have HB6 : Hid (Below w5.heap.size w5 w6) := Lib.hid ((show Below w5.heap.size w5 w5.drew from below_drew (Below.refl _ _)).trans (hb6.mono (Nat.le_refl _)))
      have g0 := below_c HB6.out (block_lt g0) g0
      have g1 := below_c HB6.out (block_lt g1) g1
      have g2 := below_c HB6.out (block_lt g2) g2
      have k0 := below_c HB6.out (block_lt k0) k0
      have k1 := below_c HB6.out (block_lt k1) k1
      have k2'' := below_c HB6.out (block_lt k2'') k2''
      have k3 := below_c HB6.out (block_lt k3) k3
      clear hb6
      go_wp2_with fail
      refine hK.out _ _ (by exact ⟨g0, g1, g2, k0, k1, k2'', k3⟩) (fun hHeld2 => ?_)
      clear hK K
      try simp only [Act.put, List.getElem_toArray, List.getElem_cons_succ, List.getElem_cons_zero, List.setIfInBounds_toArray, List.set_cons_zero, List.set_cons_succ]
      refine wpAnyH_take (i := 10) (v := ?_) rfl (by kernel_rfl) (by kernel_rfl) (by kernel_rfl) (fun _ _ _ h => h) (Or.inl ⟨by rfl, ?_⟩) (by assumption) ?_
      rotate_left
      · intro w hSw
        try dsimp only at hSw
        go_simp
        try with_reducible rfl
      try simp only [Act.put, List.getElem_toArray, List.getElem_cons_succ, List.getElem_cons_zero, List.setIfInBounds_toArray, List.set_cons_zero, List.set_cons_succ]
      refine wpAnyH_take (i := 11) (v := ?_) rfl (by kernel_rfl) (by kernel_rfl) (by kernel_rfl) (fun _ _ _ h => h) (Or.inl ⟨by rfl, ?_⟩) (by assumption) ?_
      rotate_left
      · intro w hSw
        try dsimp only at hSw
        go_simp
        try with_reducible rfl
      try simp only [Act.put, List.getElem_toArray, List.getElem_cons_succ, List.getElem_cons_zero, List.setIfInBounds_toArray, List.set_cons_zero, List.set_cons_succ]
      refine wpAnyH_take (i := 12) (v := ?_) rfl (by kernel_rfl) (by kernel_rfl) (by kernel_rfl) (fun _ _ _ h => h) (Or.inl ⟨by rfl, ?_⟩) (by assumption) ?_
      rotate_left
      · intro w hSw
        try dsimp only at hSw
        go_simp
        try with_reducible rfl
      try simp only [Act.put, List.getElem_toArray, List.getElem_cons_succ, List.getElem_cons_zero, List.setIfInBounds_toArray, List.set_cons_zero, List.set_cons_succ]
      refine wpAnyH_take (i := 13) (v := undef) rfl (by kernel_rfl) (by kernel_rfl) (by kernel_rfl) (fun _ _ _ h => h) (Or.inr ⟨by rfl, rfl⟩) (by assumption) ?_
      try simp only [Act.put, List.getElem_toArray, List.getElem_cons_succ, List.getElem_cons_zero, List.setIfInBounds_toArray, List.set_cons_zero, List.set_cons_succ]
      refine wpAnyH_take (i := 14) (v := undef) rfl (by kernel_rfl) (by kernel_rfl) (by kernel_rfl) (fun _ _ _ h => h) (Or.inr ⟨by rfl, rfl⟩) (by assumption) ?_
      try simp only [Act.put, List.getElem_toArray, List.getElem_cons_succ, List.getElem_cons_zero, List.setIfInBounds_toArray, List.set_cons_zero, List.set_cons_succ]
      refine wpAnyH_take (i := 15) (v := undef) rfl (by kernel_rfl) (by kernel_rfl) (by kernel_rfl) (fun _ _ _ h => h) (Or.inr ⟨by rfl, rfl⟩) (by assumption) ?_
      try simp only [Act.put, List.getElem_toArray, List.getElem_cons_succ, List.getElem_cons_zero, List.setIfInBounds_toArray, List.set_cons_zero, List.set_cons_succ]
      refine wpAnyH_take (i := 16) (v := undef) rfl (by kernel_rfl) (by kernel_rfl) (by kernel_rfl) (fun _ _ _ h => h) (Or.inr ⟨by rfl, rfl⟩) (by assumption) ?_
      try simp only [Act.put, List.getElem_toArray, List.getElem_cons_succ, List.getElem_cons_zero, List.setIfInBounds_toArray, List.set_cons_zero, List.set_cons_succ]
      refine wpAnyH_take (i := 17) (v := undef) rfl (by kernel_rfl) (by kernel_rfl) (by kernel_rfl) (fun _ _ _ h => h) (Or.inr ⟨by rfl, rfl⟩) (by assumption) ?_
      try simp only [Act.put, List.getElem_toArray, List.getElem_cons_succ, List.getElem_cons_zero, List.setIfInBounds_toArray, List.set_cons_zero, List.set_cons_succ]
      refine wpAnyH_take (i := 18) (v := undef) rfl (by kernel_rfl) (by kernel_rfl) (by kernel_rfl) (fun _ _ _ h => h) (Or.inr ⟨by rfl, rfl⟩) (by assumption) ?_
      try simp only [Act.put, List.getElem_toArray, List.getElem_cons_succ, List.getElem_cons_zero, List.setIfInBounds_toArray, List.set_cons_zero, List.set_cons_succ]
      refine wpAnyH_take (i := 19) (v := undef) rfl (by kernel_rfl) (by kernel_rfl) (by kernel_rfl) (fun _ _ _ h => h) (Or.inr ⟨by rfl, rfl⟩) (by assumption) ?_
      try simp only [Act.put, List.getElem_toArray, List.getElem_cons_succ, List.getElem_cons_zero, List.setIfInBounds_toArray, List.set_cons_zero, List.set_cons_succ]
      refine wpAnyH_take (i := 20) (v := ?_) rfl (by kernel_rfl) (by kernel_rfl) (by kernel_rfl) (fun _ _ _ h => h) (Or.inl ⟨by rfl, ?_⟩) (by assumption) ?_
      rotate_left
      · intro w hSw
        try dsimp only at hSw
        go_simp
        try with_reducible rfl
      try simp only [Act.put, List.getElem_toArray, List.getElem_cons_succ, List.getElem_cons_zero, List.setIfInBounds_toArray, List.set_cons_zero, List.set_cons_succ]
      refine wpAnyH_done (by kernel_rfl) ?_ _
      go_wp2_with fail
      try rw [Exit.noGoto_ret]
      go_ret
      exact HF.out _ HB6.out
    have hd7 : decide (t1 ≤ fv) = false := decide_eq_false h2
    have HF1 := Lib.hid h2
    clear h1 h2
    by_cases h3 : t2 ≤ fv
    · have HF : Hid (∀ W, Below w5.heap.size w5 W → FrmPost w P (.returned (.bool false)) W) := Lib.hid fun W hW => frm_no HP.out (fun h => by have h := h.2.1 q _ HFF.out; have := h.2.2.2.2.2.2.2.2; simp only at this; rw [HTT2.out] at this; omega) (HBF.out.trans (hW.mono HBF.out.size))
      have hd8 : decide (t2 ≤ fv) = true := decide_eq_true h3
      clear h3
      go_region_held3 (fun w' => w'.cell? ⟨z, 0, none⟩ = some (.int .i64 fv) ∧ w'.cell? ⟨z, 1, none⟩ = some (.int .i64 flo) ∧ w'.cell? ⟨z, 2, none⟩ = some (.int .i64 fhi) ∧ w'.cell? ⟨s, 0, none⟩ = some (.int .i64 vars) ∧ w'.cell? ⟨s, 1, none⟩ = some (.slice la ll lc) ∧ w'.cell? ⟨s, 2, none⟩ = some (.slice (some ⟨fb, fo, none⟩) nl nc) ∧ w'.cell? ⟨s, 3, none⟩ = some (.int .i64 root))
        (first | exact ⟨g0, g1, g2, k0, k1, k2'', k3⟩ | exact ⟨y0, y1, y2, y3, y4, y5, y6⟩ | exact ⟨z0, z1, z2, z3, z4, z5, z6⟩)
        (first
          | ((with_reducible refine (HT1.out _ (below_drew (Below.refl _ _))).mono ?_); rintro e w6 ⟨rfl, hb6⟩; have HB6 : Hid (Below w5.heap.size w5 w6) := Lib.hid ((show Below w5.heap.size w5 w5.drew from below_drew (Below.refl _ _)).trans (hb6.mono (Nat.le_refl _))); have y0 := below_c HB6.out (block_lt g0) g0; have y1 := below_c HB6.out (block_lt g1) g1; have y2 := below_c HB6.out (block_lt g2) g2; have y3 := below_c HB6.out (block_lt k0) k0; have y4 := below_c HB6.out (block_lt k1) k1; have y5 := below_c HB6.out (block_lt k2'') k2''; have y6 := below_c HB6.out (block_lt k3) k3; clear hb6)
          | ((with_reducible refine (HT2.out _ HB6.out).mono ?_); rintro e w7 ⟨rfl, hb7⟩; have HB7 : Hid (Below w5.heap.size w5 w7) := Lib.hid (HB6.out.trans (hb7.mono HB6.out.size)); have z0 := below_c HB7.out (block_lt g0) g0; have z1 := below_c HB7.out (block_lt g1) g1; have z2 := below_c HB7.out (block_lt g2) g2; have z3 := below_c HB7.out (block_lt k0) k0; have z4 := below_c HB7.out (block_lt k1) k1; have z5 := below_c HB7.out (block_lt k2'') k2''; have z6 := below_c HB7.out (block_lt k3) k3; clear hb7)
          | fail)
      go_wp2_with fail
      try rw [Exit.noGoto_ret]
      go_ret
      exact HF.out _ HB7.out
    have hd8 : decide (t2 ≤ fv) = false := decide_eq_false h3
    have HF2 := Lib.hid h3
    clear h3
    go_region_held3 (fun w' => w'.cell? ⟨z, 0, none⟩ = some (.int .i64 fv) ∧ w'.cell? ⟨z, 1, none⟩ = some (.int .i64 flo) ∧ w'.cell? ⟨z, 2, none⟩ = some (.int .i64 fhi) ∧ w'.cell? ⟨s, 0, none⟩ = some (.int .i64 vars) ∧ w'.cell? ⟨s, 1, none⟩ = some (.slice la ll lc) ∧ w'.cell? ⟨s, 2, none⟩ = some (.slice (some ⟨fb, fo, none⟩) nl nc) ∧ w'.cell? ⟨s, 3, none⟩ = some (.int .i64 root))
      (first | exact ⟨g0, g1, g2, k0, k1, k2'', k3⟩ | exact ⟨y0, y1, y2, y3, y4, y5, y6⟩ | exact ⟨z0, z1, z2, z3, z4, z5, z6⟩)
      (first
        | ((with_reducible refine (HT1.out _ (below_drew (Below.refl _ _))).mono ?_); rintro e w6 ⟨rfl, hb6⟩; have HB6 : Hid (Below w5.heap.size w5 w6) := Lib.hid ((show Below w5.heap.size w5 w5.drew from below_drew (Below.refl _ _)).trans (hb6.mono (Nat.le_refl _))); have y0 := below_c HB6.out (block_lt g0) g0; have y1 := below_c HB6.out (block_lt g1) g1; have y2 := below_c HB6.out (block_lt g2) g2; have y3 := below_c HB6.out (block_lt k0) k0; have y4 := below_c HB6.out (block_lt k1) k1; have y5 := below_c HB6.out (block_lt k2'') k2''; have y6 := below_c HB6.out (block_lt k3) k3; clear hb6)
        | ((with_reducible refine (HT2.out _ HB6.out).mono ?_); rintro e w7 ⟨rfl, hb7⟩; have HB7 : Hid (Below w5.heap.size w5 w7) := Lib.hid (HB6.out.trans (hb7.mono HB6.out.size)); have z0 := below_c HB7.out (block_lt g0) g0; have z1 := below_c HB7.out (block_lt g1) g1; have z2 := below_c HB7.out (block_lt g2) g2; have z3 := below_c HB7.out (block_lt k0) k0; have z4 := below_c HB7.out (block_lt k1) k1; have z5 := below_c HB7.out (block_lt k2'') k2''; have z6 := below_c HB7.out (block_lt k3) k3; clear hb7)
        | fail)
    obtain ⟨D, hD1, hD2, hD3⟩ := HSN5.out.below HB7.out
    have hlq : (ns.take q).length = q := by rw [List.length_take]; have := HNL.out; omega
    rw [hlq] at hD1
    have HD1 := Lib.hid hD1
    have HD2 := Lib.hid hD2
    have HD3 := Lib.hid hD3
    have HLQ := Lib.hid hlq
    clear hD1 hD2 hD3 hlq hlk HT1 HT2
    
    go_wp2_with (first
      | (at_mapUpdate; go_loud (refine wpList_mapUpdate_own _ rfl _ _ _ 84 rfl 49 4 fork_law Tryz.underlying84 (plainElem Tryz.prog 4) (s + 1) q D rfl HD1.out (by unfold maxLen; omega) _ _ (forkL (fv, flo, fhi)) rfl rfl (keyOf_fork HFO.out) (.lit (.bool true)) [] (plainElem_bool Tryz.underlying4 true) ?_); intro w8 hown8 hgrow8; have HO8 := Lib.hid hown8; have HG8 := Lib.hid hgrow8; clear hown8 hgrow8)
      | fail)
    
    go_roundg (gk - 1)
    case measure => omega
    case rel =>
      refine ⟨q + 1, by omega, by go_num, Lib.hid ?_, Lib.hid ?_, Lib.hid fun j hj f hf => ?_⟩
      · exact (HB5.out.trans (HB7.out.mono (by have := HB5.out.size; omega))).grown HG8.out (by have := HB5.out.size; have := HB7.out.size; omega) (fun k e => by injection e with e; omega)
      · have h := seen_put HFO.out (by rw [HLQ.out]; exact HO8.out) HD2.out HD3.out
        rw [List.take_add_one, HFF.out]
        exact h
      · by_cases hjq : j < q
        · exact HND.out j hjq f hf
        · have hjq2 : j = q := by omega
          subst hjq2
          rw [HFF.out] at hf
          injection hf with hf
          subst hf
          obtain ⟨b1, b2, b3, b4, b5⟩ := HBND.out
          have e1 := HTT1.out
          have e2 := HTT2.out
          have f0 := HF0.out
          have f1 := HF1.out
          have f2 := HF2.out
          have hl := HLL.out
          exact ⟨by simp only; omega, by simp only; omega, by simp only; omega, by simp only; omega, b5, by simpa using HSS.out, by simp only; omega, by simp only; rw [e1]; omega, by simp only; rw [e2]; omega⟩
  have hdk : decide ((k : Int) < ll) = true := by simp; omega
  have hdk' : decide (k < ll) = true := decide_eq_true hk
  have hk0 : (0 : Int) ≤ k := by omega
  have hkn : (k : Int) < ll := by omega
  obtain ⟨v, hv⟩ : ∃ v, lvs[k]? = some v := ⟨_, List.getElem?_eq_getElem (by have := HLL.out; omega)⟩
  obtain ⟨eb, eo, rfl, _, hebl, e0, _⟩ := HLV.out.at hv
  have HVV := Lib.hid hv
  obtain ⟨B, hB⟩ : ∃ B, rngM v = B := ⟨_, rfl⟩
  have HRV : Hid (∀ W, Calls Tryz.prog 58 #[.int .i64 v] W fun e w' => e = .returned (.bool B) ∧ w' = W) := Lib.hid fun W => hB ▸ HRG.out v W
  have HBB := Lib.hid hB
  clear hv hB
  rcases bool2 B with rfl | rfl
  case inr =>
    have HF : Hid (FrmPost w P (.returned (.bool false)) W1) := Lib.hid (frm_no HP.out (fun h => by have := (h.1 k v HVV.out).1; rw [HBB.out] at this; cases this) HB1.out)
    go_wp2_with fail
    refine (HRV.out _).mono ?_
    rintro e w2 ⟨rfl, rfl⟩
    go_wp2_with fail
    try rw [Exit.noGoto_ret]
    go_ret
    exact HF.out
  by_cases hk00 : k = 0
  · subst hk00
    rw [Nat.add_zero] at e0
    go_wp2_with fail
    refine (HRV.out _).mono ?_
    rintro e w2 ⟨rfl, rfl⟩
    go_wp2_with fail
    go_roundg (gk - 1)
    case measure => omega
    case rel => exact ⟨1, by omega, by go_num, Lib.hid rfl, Lib.hid fun j hj x hx => (by
      have hj0 : j = 0 := by omega
      subst hj0
      rw [HVV.out] at hx
      injection hx with hx
      subst hx
      exact ⟨HBB.out, fun u h0 _ => by omega⟩)⟩
  obtain ⟨u, hu⟩ : ∃ u, lvs[k - 1]? = some u := ⟨_, List.getElem?_eq_getElem (by have := HLL.out; omega)⟩
  obtain ⟨eb', eo', he, _, _, e1, _⟩ := HLV.out.at hu
  injection he with he
  injection he with he1 he2
  subst he1 he2
  have hg2 : decide (0 < k) = true := decide_eq_true (by omega)
  have HK0 : Hid (0 < k) := Lib.hid (by omega)
  have hg0 : decide ((k : Int) > 0) = true := decide_eq_true (by omega)
  have hg1 : decide ((0 : Int) < k) = true := decide_eq_true (by omega)
  have hkw : IntKind.i64.wrap ((k : Int) - 1) = ((k - 1 : Nat) : Int) := by rw [IntWalk.i64_in _ ⟨by omega, by omega⟩]; omega
  have hkw0 : wrap64 ((k : Int) - 1) = ((k - 1 : Nat) : Int) := by rw [IntWalk.wrap64_in _ ⟨by omega, by omega⟩]; omega
  obtain ⟨k', hk'⟩ : ∃ k', k - 1 = k' := ⟨_, rfl⟩
  rw [hk'] at hkw hkw0 e1 hu
  have HUU := Lib.hid hu
  have HK' := Lib.hid hk'
  have hkk : k' < ll := by omega
  have hkk0 : (0 : Int) ≤ k' := by omega
  have hkk1 : (k' : Int) < ll := by omega
  clear hu hk' hk00
  by_cases huv : v ≤ u
  · have hd : decide (v ≤ u) = true := decide_eq_true huv
    have HF : Hid (FrmPost w P (.returned (.bool false)) W1) := Lib.hid (frm_no HP.out (fun h => by have := (h.1 k v HVV.out).2 u HK0.out (by rw [HK'.out]; exact HUU.out); omega) HB1.out)
    clear huv
    go_wp2_with fail
    refine (HRV.out _).mono ?_
    rintro e w2 ⟨rfl, rfl⟩
    go_wp2_with fail
    try rw [Exit.noGoto_ret]
    go_ret
    exact HF.out
  · have hd : decide (v ≤ u) = false := decide_eq_false huv
    have HUV := Lib.hid huv
    clear huv
    go_wp2_with fail
    refine (HRV.out _).mono ?_
    rintro e w2 ⟨rfl, rfl⟩
    go_wp2_with fail
    go_roundg (gk - 1)
    case measure => omega
    case rel => exact ⟨k + 1, by omega, by go_num, Lib.hid rfl, Lib.hid fun j hj x hx => (by
      by_cases hjk : j < k
      · exact HOK.out j hjk x hx
      · have hj0 : j = k := by omega
        subst hj0
        rw [HVV.out] at hx
        injection hx with hx
        subst hx
        exact ⟨HBB.out, fun u' _ hu' => by rw [HK'.out, HUU.out] at hu'; injection hu' with hu'; have := HUV.out; omega⟩)⟩

end Go.Proofs.YteadlkecngfcoaaGreat
