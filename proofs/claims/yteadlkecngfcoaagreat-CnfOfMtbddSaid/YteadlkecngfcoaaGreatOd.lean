/- Walk: the statement's diagram, references from any base. No condition but sizes and that the root is a reference. -/
import Derived.Test.YteadlkecngfcoaaGreatOw
import Derived.Test.YteadlkecngfcoaaGreatO2
import Derived.Laws.EntriesVeiled
namespace Go.Proofs.YteadlkecngfcoaaGreat
open Go.ChangeShapes Go.WideShapes Go.ChangeAt Go.RowKit
set_option linter.unusedVariables false

/-- a reference below a node: within the earlier ones, and of a later level -/
def refL (vars : Int) (L : Nat) (ns : List Fork) (i : Nat) (v ref : Int) : Bool := !(decide (ref < 0) || decide ((L : Int) + i ≤ ref) || decide (topM vars L ns ref ≤ v))
def frlGo (vars : Int) (L : Nat) (ns : List Fork) : List Fork → Nat → Bool
  | [], _ => true
  | f :: r, i => if f.1 < 0 ∨ vars ≤ f.1 ∨ f.2.1 = f.2.2 ∨ f ∈ ns.take i then false else [f.2.1, f.2.2].all (refL vars L ns i f.1) && frlGo vars L ns r (i + 1)
/-- the order is L, L + 1, .. -/
def ordL (L : Nat) : List Int → Nat → Bool
  | [], _ => true
  | x :: r, i => if x ≠ (L : Int) + i then false else ordL L r (i + 1)
def endL (L : Nat) (ns : List Fork) (root : Int) : Bool := ordL L (visN L ns (L + ns.length + 1) [] root) 0 && decide ((visN L ns (L + ns.length + 1) [] root).length = ns.length)
/-- diagram -/
def diaL (vars : Int) (L : Nat) (ns : List Fork) (root : Int) : Bool := frlGo vars L ns ns 0 && endL L ns root
theorem frlGo_at {vars : Int} {L : Nat} {all : List Fork} : ∀ (r : List Fork) (i : Nat), all.drop i = r → frlGo vars L all r i = true → ∀ (j : Nat) (f : Fork), i ≤ j → all[j]? = some f → 0 ≤ f.1 ∧ f.1 < vars ∧ f.2.1 ≠ f.2.2 ∧ f ∉ all.take j ∧ refL vars L all j f.1 f.2.1 = true ∧ refL vars L all j f.1 f.2.2 = true
  | [], i, hd, _, j, f, hij, hf => by
    have := (List.getElem?_eq_some_iff.1 hf).1
    have := List.drop_eq_nil_iff.1 hd
    omega
  | g :: r, i, hd, h, j, f, hij, hf => by
    rw [frlGo] at h
    split at h
    · cases h
    rename_i hn
    have hg : all[i]? = some g := by rw [← Nat.add_zero i, ← List.getElem?_drop, hd]; rfl
    rw [Bool.and_eq_true] at h
    by_cases e : j = i
    · subst e
      rw [hg] at hf
      injection hf with hf
      subst hf
      have h1 := h.1
      simp only [List.all_cons, List.all_nil, Bool.and_true, Bool.and_eq_true] at h1
      refine ⟨?_, ?_, ?_, ?_, h1.1, h1.2⟩
      · exact Int.not_lt.1 fun h => hn (.inl h)
      · exact Int.not_le.1 fun h => hn (.inr (.inl h))
      · exact fun h => hn (.inr (.inr (.inl h)))
      · exact fun h => hn (.inr (.inr (.inr h)))
    · exact frlGo_at r (i + 1) (by rw [← List.drop_drop, hd]; rfl) h.2 j f (by omega) hf
theorem refL_iff {vars : Int} {L : Nat} {ns : List Fork} {i : Nat} {v r : Int} : refL vars L ns i v r = true ↔ 0 ≤ r ∧ r < L + i ∧ v < topM vars L ns r := by
  unfold refL
  simp only [Bool.not_eq_true', Bool.or_eq_false_iff, decide_eq_false_iff_not]
  omega
theorem frlGo_back {vars : Int} {L : Nat} {ns : List Fork} (h : frlGo vars L ns ns 0 = true) : BackB L ns := fun j f hf => by
  obtain ⟨_, _, _, _, h5, h6⟩ := frlGo_at ns 0 rfl h j f (Nat.zero_le _) hf
  have a := refL_iff.1 h5
  have b := refL_iff.1 h6
  exact ⟨⟨a.1, a.2.1⟩, b.1, b.2.1⟩
set_option maxRecDepth 100000 in
set_option maxHeartbeats 8000000 in
theorem diagramL_any (F : Nat → Prop) (vars root : Int) (L : Nat) (hL : L ≤ 4096) (nv : Value) (ns : List Fork) (w : World) (hx : Forks F w nv ns) (hl : ns.length ≤ 4096) (hv : I64 vars) (hr : 0 ≤ root ∧ root < L + ns.length) (hcap : ∀ a n c, nv = .slice a n c → n ≤ c) :
    Calls Tryz.prog 24 #[.int .i64 vars, nv, .int .i64 root, .int .i64 L] w fun e w' => e = .returned (.bool (diaL vars L ns root)) ∧ Below w.heap.size w w' := by
  obtain ⟨a, n, c, rfl, HN, hn⟩ := hx.form
  have hn2 : n ≤ 4096 := by rw [HN.out]; exact hl
  have hnc := hcap a n c rfl
  obtain ⟨W1, hW1⟩ : ∃ W1, ((w.alloc (.cells #[.slice a n c] 23)).alloc (.cells #[.int .i64 L] 3)) = W1 := ⟨_, rfl⟩
  have hB0 : Below w.heap.size w W1 := by rw [← hW1]; exact ((Below.refl _ _).alloc (Nat.le_refl _) _).alloc (by simp) _
  have hs1 : W1.heap.size = w.heap.size + 1 + 1 := by rw [← hW1]; simp
  have k0 : W1.cell? ⟨w.heap.size, 0, none⟩ = some (.slice a n c) := by rw [← hW1]; exact cell_alloc _ (by simp)
  have k1 : W1.cell? ⟨w.heap.size + 1, 0, none⟩ = some (.int .i64 L) := by rw [← hW1, cell_of_row _ _ _ _ _ _ (new_at' _ _ (by simp))]; rfl
  have HX1 := Lib.hid (hx.lt.move (w' := W1) fun b hb _ => hB0.block b hb.2)
  have HB1 := Lib.hid hB0
  have HSZ := Lib.hid hs1
  obtain ⟨R, hR⟩ : ∃ R, diaL vars L ns root = R := ⟨_, rfl⟩
  have HR0 : Hid (R = (frlGo vars L ns (ns.drop 0) 0 && endL L ns root)) := Lib.hid hR.symm
  have HK : Hid (W1.cell? ⟨w.heap.size, 0, none⟩ = some (.slice a n c) ∧ W1.cell? ⟨w.heap.size + 1, 0, none⟩ = some (.int .i64 L)) := Lib.hid ⟨k0, k1⟩
  have HFR : Hid (frlGo vars L ns ns 0 = true → BackB L ns) := Lib.hid fun h j f hf => frlGo_back h j f hf
  have HRT := Lib.hid hr
  have HBL0 : Hid (Below W1.heap.size W1 W1) := Lib.hid (Below.refl _ _)
  have HFA : Hid (frlGo vars L ns ns 0 = true ∨ True) := Lib.hid (.inr trivial)
  rw [hR]
  clear hR hx hl hB0 hr hcap
  go_enter Tryz.func24, Tryz.ntmps24
  go_wp2
  clear hW1
  obtain ⟨GA, hGA⟩ : ∃ g, frlGo vars L ns ns 0 = g := ⟨_, rfl⟩
  have HGA : Hid (GA = frlGo vars L ns (ns.drop 0) 0) := Lib.hid hGA.symm
  have HGE := Lib.hid hGA
  have HR : Hid (R = (GA && endL L ns root)) := Lib.hid (by rw [HR0.out, List.drop_zero, hGA])
  clear hGA HR0 k0 k1
  go_loopg [19] n (fun gg u19 wx => ∃ (k : Nat), k + gg = n ∧ u19 = .int .i64 k ∧ Hid (Below W1.heap.size W1 wx) ∧ Hid (GA = frlGo vars L ns (ns.drop k) k))
  case atStart => exact ⟨0, by omega, rfl, HBL0, HGA⟩
  case round =>
  clear HBL0 HGA
  obtain ⟨k, hkg, rfl, HB, HG⟩ := hrel
  have k0 := below_c HB.out (by omega) HK.out.1
  have k1 := below_c HB.out (by omega) HK.out.2
  have hszr : w.heap.size + 1 + 1 ≤ wr.heap.size := by have := HB.out.size; have := HSZ.out; omega
  have hlt0 : w.heap.size < wr.heap.size := by omega
  have hlt1 : w.heap.size + 1 < wr.heap.size := by omega
  by_cases hk : k < n
  case neg =>
    have hd : decide ((k : Int) < n) = false := by simp; omega
    have hGT : GA = true := by rw [HG.out, List.drop_eq_nil_of_le (by have := HN.out; omega)]; rfl
    subst hGT
    have hback : BackB L ns := HFR.out HGE.out
    obtain ⟨s', hs'⟩ : ∃ s', visN L ns (L + ns.length + 1) [] root = s' := ⟨_, rfl⟩
    have hsl2 : s'.length ≤ 100000 := by
      obtain ⟨hI, _⟩ := vis_I hback (L + ns.length + 1) [] root (VisI.nil L ns) HRT.out.1 HRT.out.2 (by have := HRT.out.2; omega)
      have h2 := visN_eq (L := L) (ns := ns) (L + ns.length + 1) [] root
      have h3 := hI.split.2
      rw [show nds L ([] : List Int) = [] from rfl, hs'] at h2
      rw [h2]
      have := HN.out
      omega
    have HE : Hid (R = (ordL L s' 0 && decide (s'.length = n))) := Lib.hid (by
      rw [HR.out, Bool.true_and, endL, hs', HN.out])
    obtain ⟨eb, heb⟩ : ∃ eb, wr.heap.size = eb := ⟨_, rfl⟩
    obtain ⟨W5, hW5⟩ : ∃ W5, (((wr.alloc (.cells #[] 3)).alloc (.cells #[.slice (some ⟨eb, 0, none⟩) 0 0] 22)).alloc (.cells #[.func (.func 41) #[] #[.pointer (some ⟨w.heap.size + 1, 0, none⟩), .pointer (some ⟨eb + 1, 0, none⟩), .pointer (some ⟨eb + 1 + 1, 0, none⟩), .pointer (some ⟨w.heap.size, 0, none⟩)]] 73)) = W5 := ⟨_, rfl⟩
    have hb5 : Below wr.heap.size wr W5 := by rw [← hW5]; exact (((Below.refl _ _).alloc (Nat.le_refl _) _).alloc (by simp) _).alloc (by simp; omega) _
    have hs5 : W5.heap.size = eb + 1 + 1 + 1 := by rw [← hW5]; simp; omega
    have hrow1 : W5.heap[eb + 1]? = some (.cells #[.slice (some ⟨eb, 0, none⟩) 0 0] 22) := by rw [← hW5]; exact old_at _ _ _ (new_at' _ _ (by simp; omega))
    have hrow2 : W5.heap[eb + 1 + 1]? = some (.cells #[.func (.func 41) #[] #[.pointer (some ⟨w.heap.size + 1, 0, none⟩), .pointer (some ⟨eb + 1, 0, none⟩), .pointer (some ⟨eb + 1 + 1, 0, none⟩), .pointer (some ⟨w.heap.size, 0, none⟩)]] 73) := by rw [← hW5]; exact new_at' _ _ (by simp; omega)
    have hown5 : W5.ownsRow eb 3 1 (.slice (some ⟨eb, 0, none⟩) 0 0) ([] : List Int).length (([] : List Int).map (.int .i64)) := by
      rw [← hW5]
      refine own_below (own_below ?_ ((Below.refl _ _).alloc (Nat.le_refl _) _)) ((Below.refl _ _).alloc (Nat.le_refl _) _)
      have := own_new (base := eb) (w := wr) #[] 3 (by omega) (by simp)
      rw [heb] at this
      simpa using this
    have hS5 : OrdL L (w.heap.size + 1) w.heap.size (eb + 1) (eb + 1 + 1) eb (.slice a n c) W5 [] (.slice (some ⟨eb, 0, none⟩) 0 0) :=
      ⟨below_c hb5 hlt1 k1, below_c hb5 hlt0 k0, by rw [cell_of_row _ _ _ _ _ _ hrow1]; rfl, by simp only [World.frozen?, hrow1]; simp, by rw [cell_of_row _ _ _ _ _ _ hrow2]; rfl, hown5, fun b hb => by simp [Value.ownBlock] at hb; omega, by omega, by simp⟩
    have hf5 : Forks (fun b => b < eb) W5 (.slice a n c) ns := (HX1.out.move (w' := W5) fun b hb hlt => (hb5.block b (by have := hb.2; omega)).trans (HB.out.block b (by have := hb.2; omega))).mono fun b hb => by have := hb.2; omega
    have HWK : Hid (Calls Tryz.prog 41 #[.int .i64 root, .pointer (some ⟨w.heap.size + 1, 0, none⟩), .pointer (some ⟨eb + 1, 0, none⟩), .pointer (some ⟨eb + 1 + 1, 0, none⟩), .pointer (some ⟨w.heap.size, 0, none⟩)] W5 (OrdLPost L (w.heap.size + 1) w.heap.size (eb + 1) (eb + 1 + 1) eb (.slice a n c) W5 s')) := Lib.hid (by
      have h := walkL_any L (w.heap.size + 1) w.heap.size (eb + 1) (eb + 1 + 1) eb (.slice a n c) ns hL hback (by omega) (by omega) (by omega) (by omega) (by rw [← HN.out]; exact hn2) (L + ns.length + 1) root [] _ W5 HRT.out.1 HRT.out.2 (by have := HRT.out.2; omega) (by rw [hs']; exact hsl2) hf5 hS5
      rw [hs'] at h
      exact h)
    have HB5 : Hid (Below w.heap.size w W5) := Lib.hid (HB1.out.trans ((HB.out.trans (hb5.mono (by omega))).mono (by omega)))
    have HW5 := Lib.hid hW5
    obtain ⟨N, hN⟩ : ∃ N, s'.length = N := ⟨_, rfl⟩
    have HNN := Lib.hid hN
    have hN2 : N ≤ 100000 := by omega
    clear HG HFA HFR HSZ hb5 hrow1 hrow2 hown5 hS5 hf5 hW5 hs' hback hsl2 HR HGE HX1 HK hN
    go_wp2_with fail
    rw [HW5.out]
    refine HWK.out.mono ?_
    rintro e w6 ⟨rfl, hb6, lv6, o1, o2, o3, o4, o5, oO, oAt, owc, o64⟩
    have hin6 : Ints (fun _ => True) w6 lv6 s' := ⟨(ownsRow_sl1 oO (by rw [HNN.out]; omega)).mono fun _ _ => trivial, o64⟩
    obtain ⟨la, lc, hlv⟩ := own_form oO
    rw [HNN.out] at hlv
    subst hlv
    have HI6 := Lib.hid hin6
    have HB6 : Hid (Below w.heap.size w w6) := Lib.hid (HB5.out.trans (hb6.mono (by omega)))
    have HR6 : Hid (R = (ordL L (s'.drop 0) 0 && decide (s'.length = n))) := Lib.hid (by rw [HE.out, List.drop_zero])
    clear hb6 oO oAt o64 hin6 HWK HW5 o4 o5 HE k0 k1
    go_wp2_with fail
    go_loopg [92] N (fun gg u92 wx => ∃ (j : Nat), j + gg = N ∧ u92 = .int .i64 j ∧ w6 = wx ∧ Hid (R = (ordL L (s'.drop j) j && decide (s'.length = n))))
    case atStart => exact ⟨0, by omega, rfl, rfl, HR6⟩
    case round =>
    clear HR6
    obtain ⟨j, hjg, rfl, rfl, HR⟩ := hrel
    by_cases hj : j < N
    case neg =>
      have hdj : decide ((j : Int) < N) = false := by simp; omega
      have hdj2 : decide (j < N) = false := decide_eq_false hj
      have HF : Hid (R = decide (N = n)) := Lib.hid (by rw [HR.out, List.drop_eq_nil_of_le (by rw [HNN.out]; omega), ordL, Bool.true_and, HNN.out])
      clear HR
      by_cases hNn : N = n
      · have HG : Hid (R = true) := Lib.hid (by rw [HF.out, decide_eq_true hNn])
        have hq : ((N : Int) == n) = true := by rw [beq_iff_eq, hNn]
        have hq2 : (N == n) = true := by rw [beq_iff_eq, hNn]
        clear hNn HF
        go_wp2_with fail
        go_ret
        exact ⟨by rw [HG.out]; rfl, HB6.out⟩
      · have HG : Hid (R = false) := Lib.hid (by rw [HF.out, decide_eq_false hNn])
        have hq : ((N : Int) == n) = false := by rw [beq_eq_false_iff_ne]; omega
        have hq2 : (N == n) = false := by rw [beq_eq_false_iff_ne]; exact hNn
        clear hNn HF
        go_wp2_with fail
        go_ret
        exact ⟨by rw [HG.out]; rfl, HB6.out⟩
    obtain ⟨x, hxx, ex⟩ := drop_at (xs := s') (k := j) (by rw [HNN.out]; exact hj)
    obtain ⟨xb, xo, rfl, _, hxb, hxc, hx64⟩ := HI6.out.at hxx
    have hdj : decide ((j : Int) < N) = true := by simp; omega
    have hdj2 : decide (j < N) = true := decide_eq_true hj
    have hw2 : IntKind.i64.wrap ((L : Int) + j) = L + j := IntWalk.i64_in _ ⟨by omega, by omega⟩
    by_cases hxe : x = (L : Int) + j
    · have HF : Hid (R = (ordL L (s'.drop (j + 1)) (j + 1) && decide (s'.length = n))) := Lib.hid (by rw [HR.out, ex, ordL, if_neg (by omega)])
      have hq : (x != (L : Int) + j) = false := by rw [bne_eq_false_iff_eq]; exact hxe
      clear HR ex hxx hxe
      go_wp2_with fail
      go_roundg (gk - 1)
      case measure => omega
      case rel => exact ⟨j + 1, by omega, by go_num, rfl, HF⟩
    · have HF : Hid (R = false) := Lib.hid (by rw [HR.out, ex, ordL, if_pos hxe]; rfl)
      have hq : (x != (L : Int) + j) = true := by rw [bne_iff_ne]; exact hxe
      clear HR ex hxx hxe
      go_wp2_with fail
      try rw [Exit.noGoto_ret]
      go_ret
      exact ⟨by rw [HF.out]; rfl, HB6.out⟩
  obtain ⟨f, hf, ed⟩ := drop_at (xs := ns) (k := k) (by have := HN.out; omega)
  have hxr := HX1.out.move (w' := wr) fun b hb hlt => HB.out.block b (by have := hb.2; omega)
  obtain ⟨fb, fo, rfl, hFb, hfb, c0, c1, c2, hfo⟩ := hxr.at hf
  have HFK0 := Lib.hid hxr
  obtain ⟨fv, flo, fhi⟩ := f
  simp only at c0 c1 c2
  have HFO := Lib.hid hfo
  have HR2 : Hid (GA = (if fv < 0 ∨ vars ≤ fv ∨ flo = fhi ∨ (fv, flo, fhi) ∈ ns.take k then false else ([flo, fhi].all (refL vars L ns k fv) && frlGo vars L ns (ns.drop (k + 1)) (k + 1)))) := Lib.hid (by
    rw [HG.out, ed, frlGo])
  obtain ⟨S, hS⟩ : ∃ S, decide ((fv, flo, fhi) ∈ ns.take k) = S := ⟨_, rfl⟩
  have HSS := Lib.hid hS
  clear HG ed hxr hf hS hfo
  have hba := HB.out.alloc (show W1.heap.size ≤ wr.heap.size by omega) (.cells #[.int .i64 fv, .int .i64 flo, .int .i64 fhi] 49)
  have HBF := Lib.hid (HB1.out.trans (hba.mono (by omega)))
  have HBA := Lib.hid hba
  have hd : decide ((k : Int) < n) = true := by simp; omega
  have hdk : decide (k < n) = true := by simp; omega
  clear hba
  by_cases h1 : fv < 0
  · have HF : Hid (R = false) := Lib.hid (by rw [HR.out, HR2.out, if_pos (.inl h1)]; rfl)
    have hd1 : decide (fv < 0) = true := decide_eq_true h1
    clear h1 HR2
    go_upto_region 4 with fail
    go_quiet (fail)
    go_wp2
    try rw [Exit.noGoto_ret]
    go_ret
    exact ⟨by rw [HF.out]; rfl, below_drewN HBF.out _⟩
  have hd1 : decide (fv < 0) = false := decide_eq_false h1
  by_cases h2 : vars ≤ fv
  · have HF : Hid (R = false) := Lib.hid (by rw [HR.out, HR2.out, if_pos (.inr (.inl h2))]; rfl)
    have hd2 : decide (vars ≤ fv) = true := decide_eq_true h2
    clear h1 h2 HR2
    go_upto_region 4 with fail
    go_quiet (fail)
    go_wp2
    try rw [Exit.noGoto_ret]
    go_ret
    exact ⟨by rw [HF.out]; rfl, below_drewN HBF.out _⟩
  have hd2 : decide (vars ≤ fv) = false := decide_eq_false h2
  by_cases h3 : flo = fhi
  · have HF : Hid (R = false) := Lib.hid (by rw [HR.out, HR2.out, if_pos (.inr (.inr (.inl h3)))]; rfl)
    have hd3 : (flo == fhi) = true := by simp [h3]
    clear h1 h2 h3 HR2
    go_upto_region 4 with fail
    go_quiet (fail)
    go_wp2
    try rw [Exit.noGoto_ret]
    go_ret
    exact ⟨by rw [HF.out]; rfl, below_drewN HBF.out _⟩
  have hd3 : (flo == fhi) = false := by simp [h3]
  have hvf : ¬ vars ≤ fv := h2
  have HS0 : Hid (GA = (if S = true then false else ([flo, fhi].all (refL vars L ns k fv) && frlGo vars L ns (ns.drop (k + 1)) (k + 1)))) := Lib.hid (by
    rw [HR2.out]
    by_cases hs : (fv, flo, fhi) ∈ ns.take k
    · rw [if_pos (.inr (.inr (.inr hs))), ← HSS.out, decide_eq_true hs, if_pos rfl]
    · rw [if_neg (by rintro (h | h | h | h); exact h1 h; exact h2 h; exact h3 h; exact hs h), ← HSS.out, decide_eq_false hs, if_neg (by simp)])
  have hkc : (k : Int) ≤ c := by omega
  have hkc2 : k ≤ c := by omega
  clear h1 h2 h3 HR2
  obtain ⟨wo, hwo⟩ : ∃ W, wr.alloc (.cells #[.int .i64 fv, .int .i64 flo, .int .i64 fhi] 49) = W := ⟨_, rfl⟩
  have hbo : Below wr.heap.size wr wo := by rw [← hwo]; exact (Below.refl _ _).alloc (Nat.le_refl _) _
  have o0 : wo.cell? ⟨wr.heap.size, 0, none⟩ = some (.int .i64 fv) := by rw [← hwo]; simp
  have o1 : wo.cell? ⟨wr.heap.size, 1, none⟩ = some (.int .i64 flo) := by rw [← hwo]; simp
  have o2 : wo.cell? ⟨wr.heap.size, 2, none⟩ = some (.int .i64 fhi) := by rw [← hwo]; simp
  have n0 := below_c hbo hlt0 k0
  have n1 := below_c hbo hlt1 k1
  have hct := containsk_any _ (.slice (some ⟨fb, fo, none⟩) k c) _ (fv, flo, fhi) wo.drew (Forks.move (w' := wo.drew) (((HFK0.out.take (show k ≤ n by omega)).below hbo)) fun _ _ _ => rfl)
  rw [HSS.out] at hct
  have HCT := Lib.hid hct
  have HWO := Lib.hid hwo
  have HFKo := Lib.hid (HFK0.out.below hbo)
  have HBO : Hid (Below W1.heap.size W1 wo) := Lib.hid (HB.out.trans (hbo.mono (by omega)))
  have hszo : wr.heap.size + 1 = wo.heap.size := by rw [← hwo]; simp
  obtain ⟨FB, hFB⟩ : ∃ FB, wr.heap.size = FB := ⟨_, rfl⟩
  have HFB := Lib.hid hFB
  have ho1 : w.heap.size < wo.heap.size := by omega
  have ho2 : w.heap.size + 1 < wo.heap.size := by omega
  have hoF : FB < wo.heap.size := by omega
  rw [hFB] at o0 o1 o2
  have HRG := HR
  clear hct hwo hbo HFK0 hFB HBA HBF HR
  obtain ⟨T, hT⟩ : ∃ T, frlGo vars L ns (ns.drop (k + 1)) (k + 1) = T := ⟨_, rfl⟩
  have HT := Lib.hid hT
  rw [hT] at HS0
  clear hT
  go_upto_region 4 with fail
  clear c0 c1 c2 k0 k1
  rw [HWO.out, HFB.out]
  rcases bool2 S with rfl | rfl
  · have HF : Hid (R = false) := Lib.hid (by rw [HRG.out, HS0.out, if_pos rfl]; rfl)
    clear HS0
    go_region_held3 (fun w' => w'.cell? ⟨FB, 0, none⟩ = some (.int .i64 fv) ∧ w'.cell? ⟨FB, 1, none⟩ = some (.int .i64 flo) ∧ w'.cell? ⟨FB, 2, none⟩ = some (.int .i64 fhi) ∧ w'.cell? ⟨w.heap.size, 0, none⟩ = some (.slice (some ⟨fb, fo, none⟩) n c))
      (first | exact ⟨o0, o1, o2, n0⟩ | exact ⟨below_c hb9 hoF o0, below_c hb9 hoF o1, below_c hb9 hoF o2, below_c hb9 ho1 n0⟩ | go_keep)
      (first | (go_at_call 40; refine HCT.out.mono ?_; rintro e w9 ⟨rfl, hb9⟩))
    have hb9' : Below wo.heap.size wo w9 := ⟨hb9.os, hb9.tape, hb9.output, hb9.size, hb9.block⟩
    have HB9 : Hid (Below w.heap.size w w9) := Lib.hid (HB1.out.trans ((HBO.out.trans (hb9'.mono (by omega))).mono (by omega)))
    clear hb9 hb9'
    go_wp2_with fail
    try rw [Exit.noGoto_ret]
    go_ret
    exact ⟨by rw [HF.out]; rfl, HB9.out⟩
  have HS1 : Hid (GA = (([flo, fhi].drop 0).all (refL vars L ns k fv) && T)) := Lib.hid (by rw [HS0.out, if_neg (by simp)]; rfl)
  clear HS0
  go_region_held3 (fun w' => w'.cell? ⟨FB, 0, none⟩ = some (.int .i64 fv) ∧ w'.cell? ⟨FB, 1, none⟩ = some (.int .i64 flo) ∧ w'.cell? ⟨FB, 2, none⟩ = some (.int .i64 fhi) ∧ w'.cell? ⟨w.heap.size, 0, none⟩ = some (.slice (some ⟨fb, fo, none⟩) n c))
    (first | exact ⟨o0, o1, o2, n0⟩ | exact ⟨below_c hb9 hoF o0, below_c hb9 hoF o1, below_c hb9 hoF o2, below_c hb9 ho1 n0⟩ | go_keep)
    (first | (go_at_call 40; refine HCT.out.mono ?_; rintro e w9 ⟨rfl, hb9⟩))
  have hb9' : Below wo.heap.size wo w9 := ⟨hb9.os, hb9.tape, hb9.output, hb9.size, hb9.block⟩
  have s0 := below_c hb9' hoF o0
  have s1 := below_c hb9' hoF o1
  have s2 := below_c hb9' hoF o2
  have t0 := below_c hb9' ho1 n0
  have t1 := below_c hb9' ho2 n1
  obtain ⟨wz, hwz⟩ : ∃ W, w9.alloc (.cells #[.int .i64 flo, .int .i64 fhi] 3) = W := ⟨_, rfl⟩
  have hbz : Below w9.heap.size w9 wz := by rw [← hwz]; exact (Below.refl _ _).alloc (Nat.le_refl _) _
  have h99 := hb9'.size
  have HBZ : Hid (Below W1.heap.size W1 wz) := Lib.hid (HBO.out.trans ((hb9'.trans (hbz.mono h99)).mono (by omega)))
  have HFKz := Lib.hid (HFKo.out.below (hb9'.trans (hbz.mono h99)))
  have y0 : wz.cell? ⟨w9.heap.size, 0, none⟩ = some (.int .i64 flo) := by rw [← hwz]; simp
  have y1 : wz.cell? ⟨w9.heap.size, 1, none⟩ = some (.int .i64 fhi) := by rw [← hwz]; simp
  have v0 := below_c hbz (by omega) s0
  have v1 := below_c hbz (by omega) t0
  have v2 := below_c hbz (by omega) t1
  have hzs : w9.heap.size + 1 = wz.heap.size := by rw [← hwz]; simp
  have HWZ := Lib.hid hwz
  obtain ⟨AB, hAB⟩ : ∃ AB, w9.heap.size = AB := ⟨_, rfl⟩
  have HAB := Lib.hid hAB
  have hz1 : w.heap.size < wz.heap.size := by omega
  have hz2 : w.heap.size + 1 < wz.heap.size := by omega
  have hzF : FB < wz.heap.size := by omega
  have hzA : AB < wz.heap.size := by omega
  have hkn : (L : Int) + k ≤ 9000 := by omega
  rw [hAB] at y0 y1
  have HBLz : Hid (Below wz.heap.size wz wz) := Lib.hid (Below.refl _ _)
  clear hb9 hwz hbz o0 o1 o2 n0 n1 t0 t1 hAB hb9' HCT HFKo HBO HB
  go_wp2_with fail
  rw [HWZ.out, HAB.out]
  clear s0 s1 s2 hzs h99
  go_loopg [53] 2 (fun gg u53 wi => ∃ (j : Nat), j + gg = 2 ∧ u53 = .int .i64 j ∧ Hid (Below wz.heap.size wz wi) ∧ Hid (GA = (([flo, fhi].drop j).all (refL vars L ns k fv) && T)))
  case atStart => exact ⟨0, by omega, rfl, HBLz, HS1⟩
  case round =>
  clear HBLz HS1
  obtain ⟨j, hjg, rfl, HBI, HR⟩ := hrel
  have q0 := below_c HBI.out hzA y0
  have q1 := below_c HBI.out hzA y1
  have u0 := below_c HBI.out hzF v0
  have u1 := below_c HBI.out hz1 v1
  have u2 := below_c HBI.out hz2 v2
  have HFK := Lib.hid (HFKz.out.below HBI.out)
  have HBX : Hid (Below w.heap.size w wr) := Lib.hid (HB1.out.trans ((HBZ.out.trans (HBI.out.mono (by have := HBZ.out.size; omega))).mono (by omega)))
  have hwk : IntKind.i64.wrap ((L : Int) + k) = L + k := IntWalk.i64_in _ ⟨by omega, by omega⟩
  clear y0 y1 v0 v1 v2
  match j, hjg, HR with
  | 0, hjg, HR =>
    have HR3 : Hid (GA = (refL vars L ns k fv flo && (([flo, fhi].drop 1).all (refL vars L ns k fv) && T))) := Lib.hid (by rw [HR.out, ← Bool.and_assoc]; rfl)
    have hrr : I64 flo := HFO.out.2.1
    clear HR
    by_cases h1 : flo < 0
    · have HF : Hid (R = false) := Lib.hid (by rw [HRG.out, HR3.out, refL, decide_eq_true h1]; rfl)
      have hq : decide (flo < 0) = true := decide_eq_true h1
      clear h1 HR3
      go_upto_region 9 with fail
      go_quiet (fail)
      go_wp2
      try rw [Exit.noGoto_ret]
      go_ret
      exact ⟨by rw [HF.out]; rfl, below_drewN HBX.out _⟩
    have hq : decide (flo < 0) = false := decide_eq_false h1
    have hw : IntKind.i64.wrap ((L : Int) + k) = L + k := IntWalk.i64_in _ ⟨by omega, by omega⟩
    by_cases h2 : (L : Int) + k ≤ flo
    · have HF : Hid (R = false) := Lib.hid (by rw [HRG.out, HR3.out, refL, decide_eq_true (show (L : Int) + k ≤ flo by omega)]; simp)
      have hq2 : decide ((L : Int) + k ≤ flo) = true := decide_eq_true h2
      clear h1 h2 HR3
      go_upto_region 9 with fail
      go_quiet (fail)
      go_wp2
      try rw [Exit.noGoto_ret]
      go_ret
      exact ⟨by rw [HF.out]; rfl, below_drewN HBX.out _⟩
    have hq2 : decide ((L : Int) + k ≤ flo) = false := decide_eq_false h2
    by_cases h3 : (L : Int) ≤ flo
    case neg =>
      have hq3 : decide ((L : Int) ≤ flo) = false := decide_eq_false h3
      have HF : Hid (GA = (([flo, fhi].drop 1).all (refL vars L ns k fv) && T)) := Lib.hid (by
        rw [HR3.out, refL, hq, decide_eq_false (show ¬ (L : Int) + k ≤ flo by omega), topM, if_pos (show flo < L by omega), decide_eq_false (show ¬ vars ≤ fv by omega)]; rfl)
      clear h1 h2 h3 HR3
      go_upto_region 9 with fail
      go_quiet (fail)
      go_wp2
      go_roundg (gk - 1)
      case measure => omega
      case rel => exact ⟨1, by omega, rfl, Lib.hid (below_drewN HBI.out _), HF⟩
    have hq3 : decide ((L : Int) ≤ flo) = true := decide_eq_true h3
    obtain ⟨q, hqq⟩ : ∃ q : Nat, (flo - L).toNat = q := ⟨_, rfl⟩
    have hrq : flo = (q : Int) + L := by omega
    obtain ⟨f2, hf2⟩ : ∃ f, ns[q]? = some f := ⟨_, List.getElem?_eq_getElem (by have := HN.out; omega)⟩
    have hfk := HFK.out
    obtain ⟨gb, go, hgo, _, _, z0, _, _, _⟩ := hfk.at hf2
    injection hgo with hgo
    injection hgo with hg1 hg2
    subst hg1 hg2
    have hwq : IntKind.i64.wrap (flo - L) = (q : Int) := by rw [IntWalk.i64_in _ ⟨by omega, by omega⟩]; omega
    have hqn : q < n := by omega
    have hq0 : (0 : Int) ≤ q := by omega
    have hq1 : (q : Int) < n := by omega
    have hlv : topM vars L ns flo = f2.1 := by rw [topM, if_neg (by omega), frk_some (by rw [hqq]; exact hf2)]
    have HR4 : Hid (GA = (!decide (f2.1 ≤ fv) && (([flo, fhi].drop 1).all (refL vars L ns k fv) && T))) := Lib.hid (by
      rw [HR3.out, refL, hq, decide_eq_false (show ¬ (L : Int) + k ≤ flo by omega), hlv]; rfl)
    generalize f2.1 = LV at *
    clear h1 h2 h3 HR3 hf2 hfk hqq hlv hrq
    by_cases h4 : LV ≤ fv
    · have HF : Hid (R = false) := Lib.hid (by rw [HRG.out, HR4.out, decide_eq_true h4]; rfl)
      have hq4 : decide (LV ≤ fv) = true := decide_eq_true h4
      clear h4 HR4
      go_upto_region 9 with fail
      go_quiet (fail)
      go_wp2
      try rw [Exit.noGoto_ret]
      go_ret
      exact ⟨by rw [HF.out]; rfl, below_drewN HBX.out _⟩
    · have HF : Hid (GA = (([flo, fhi].drop 1).all (refL vars L ns k fv) && T)) := Lib.hid (by rw [HR4.out, decide_eq_false h4]; rfl)
      have hq4 : decide (LV ≤ fv) = false := decide_eq_false h4
      clear h4 HR4
      go_upto_region 9 with fail
      go_quiet (fail)
      go_wp2
      go_roundg (gk - 1)
      case measure => omega
      case rel => exact ⟨1, by omega, rfl, Lib.hid (below_drewN HBI.out _), HF⟩
  | 1, hjg, HR =>
    have HR3 : Hid (GA = (refL vars L ns k fv fhi && (([flo, fhi].drop 2).all (refL vars L ns k fv) && T))) := Lib.hid (by rw [HR.out, ← Bool.and_assoc]; rfl)
    have hrr : I64 fhi := HFO.out.2.2
    clear HR
    by_cases h1 : fhi < 0
    · have HF : Hid (R = false) := Lib.hid (by rw [HRG.out, HR3.out, refL, decide_eq_true h1]; rfl)
      have hq : decide (fhi < 0) = true := decide_eq_true h1
      clear h1 HR3
      go_upto_region 9 with fail
      go_quiet (fail)
      go_wp2
      try rw [Exit.noGoto_ret]
      go_ret
      exact ⟨by rw [HF.out]; rfl, below_drewN HBX.out _⟩
    have hq : decide (fhi < 0) = false := decide_eq_false h1
    have hw : IntKind.i64.wrap ((L : Int) + k) = L + k := IntWalk.i64_in _ ⟨by omega, by omega⟩
    by_cases h2 : (L : Int) + k ≤ fhi
    · have HF : Hid (R = false) := Lib.hid (by rw [HRG.out, HR3.out, refL, decide_eq_true (show (L : Int) + k ≤ fhi by omega)]; simp)
      have hq2 : decide ((L : Int) + k ≤ fhi) = true := decide_eq_true h2
      clear h1 h2 HR3
      go_upto_region 9 with fail
      go_quiet (fail)
      go_wp2
      try rw [Exit.noGoto_ret]
      go_ret
      exact ⟨by rw [HF.out]; rfl, below_drewN HBX.out _⟩
    have hq2 : decide ((L : Int) + k ≤ fhi) = false := decide_eq_false h2
    by_cases h3 : (L : Int) ≤ fhi
    case neg =>
      have hq3 : decide ((L : Int) ≤ fhi) = false := decide_eq_false h3
      have HF : Hid (GA = (([flo, fhi].drop 2).all (refL vars L ns k fv) && T)) := Lib.hid (by
        rw [HR3.out, refL, hq, decide_eq_false (show ¬ (L : Int) + k ≤ fhi by omega), topM, if_pos (show fhi < L by omega), decide_eq_false (show ¬ vars ≤ fv by omega)]; rfl)
      clear h1 h2 h3 HR3
      go_upto_region 9 with fail
      go_quiet (fail)
      go_wp2
      go_roundg (gk - 1)
      case measure => omega
      case rel => exact ⟨2, by omega, rfl, Lib.hid (below_drewN HBI.out _), HF⟩
    have hq3 : decide ((L : Int) ≤ fhi) = true := decide_eq_true h3
    obtain ⟨q, hqq⟩ : ∃ q : Nat, (fhi - L).toNat = q := ⟨_, rfl⟩
    have hrq : fhi = (q : Int) + L := by omega
    obtain ⟨f2, hf2⟩ : ∃ f, ns[q]? = some f := ⟨_, List.getElem?_eq_getElem (by have := HN.out; omega)⟩
    have hfk := HFK.out
    obtain ⟨gb, go, hgo, _, _, z0, _, _, _⟩ := hfk.at hf2
    injection hgo with hgo
    injection hgo with hg1 hg2
    subst hg1 hg2
    have hwq : IntKind.i64.wrap (fhi - L) = (q : Int) := by rw [IntWalk.i64_in _ ⟨by omega, by omega⟩]; omega
    have hqn : q < n := by omega
    have hq0 : (0 : Int) ≤ q := by omega
    have hq1 : (q : Int) < n := by omega
    have hlv : topM vars L ns fhi = f2.1 := by rw [topM, if_neg (by omega), frk_some (by rw [hqq]; exact hf2)]
    have HR4 : Hid (GA = (!decide (f2.1 ≤ fv) && (([flo, fhi].drop 2).all (refL vars L ns k fv) && T))) := Lib.hid (by
      rw [HR3.out, refL, hq, decide_eq_false (show ¬ (L : Int) + k ≤ fhi by omega), hlv]; rfl)
    generalize f2.1 = LV at *
    clear h1 h2 h3 HR3 hf2 hfk hqq hlv hrq
    by_cases h4 : LV ≤ fv
    · have HF : Hid (R = false) := Lib.hid (by rw [HRG.out, HR4.out, decide_eq_true h4]; rfl)
      have hq4 : decide (LV ≤ fv) = true := decide_eq_true h4
      clear h4 HR4
      go_upto_region 9 with fail
      go_quiet (fail)
      go_wp2
      try rw [Exit.noGoto_ret]
      go_ret
      exact ⟨by rw [HF.out]; rfl, below_drewN HBX.out _⟩
    · have HF : Hid (GA = (([flo, fhi].drop 2).all (refL vars L ns k fv) && T)) := Lib.hid (by rw [HR4.out, decide_eq_false h4]; rfl)
      have hq4 : decide (LV ≤ fv) = false := decide_eq_false h4
      clear h4 HR4
      go_upto_region 9 with fail
      go_quiet (fail)
      go_wp2
      go_roundg (gk - 1)
      case measure => omega
      case rel => exact ⟨2, by omega, rfl, Lib.hid (below_drewN HBI.out _), HF⟩
  | 2, hjg, HR =>
    have HF : Hid (GA = frlGo vars L ns (ns.drop (k + 1)) (k + 1)) := Lib.hid (by rw [HR.out, HT.out]; rfl)
    have HBF : Hid (Below W1.heap.size W1 wr) := Lib.hid (HBZ.out.trans (HBI.out.mono (by have := HBZ.out.size; omega)))
    clear HR HT
    go_wp2_with fail
    go_roundg (n - (k + 1))
    case measure => omega
    case rel => exact ⟨k + 1, by omega, by go_num, HBF, HF⟩
  | j + 3, hjg, HR => omega
end Go.Proofs.YteadlkecngfcoaaGreat
