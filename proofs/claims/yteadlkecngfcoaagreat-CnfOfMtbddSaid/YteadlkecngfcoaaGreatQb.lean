/- Walk: bdd.formed. No condition but the number of nodes. -/
import Derived.Test.YteadlkecngfcoaaGreatQa
import Derived.Deep.RegionHeld3
namespace Go.Proofs.YteadlkecngfcoaaGreat
open Go.ChangeShapes Go.WideShapes Go.ChangeAt Go.RowKit
set_option linter.unusedVariables false

/-- a reference below a node: within the earlier nodes, and of a later level -/
def refM (vars : Int) (ns : List Fork) (i : Nat) (v ref : Int) : Bool := !(decide (ref < 0) || decide (1 + (i : Int) < ref) || decide (lvlM vars ns ref ≤ v))
def frmGo (vars : Int) (ns : List Fork) : List Fork → Nat → Bool
  | [], _ => true
  | f :: r, i => if f.1 < 0 ∨ vars ≤ f.1 ∨ f.2.1 = f.2.2 ∨ f ∈ ns.take i then false else [f.2.1, f.2.2].all (refM vars ns i f.1) && frmGo vars ns r (i + 1)
/-- formed -/
def frmM (vars : Int) (ns : List Fork) (root : Int) : Bool := frmGo vars ns ns 0 && (decide (0 ≤ root) && decide (root ≤ 1 + ns.length))

/-- a map that the call made, whose keys with true are l -/
def Seen (w : World) (mb : Nat) (l : List Fork) : Prop :=
  ∃ D : DataW Unit, w.ownsMap Tryz.prog 49 (plainElem Tryz.prog 4) mb l.length D ∧ Maps.IsMap D ∧ ∀ f, ForkOk f → D.atKey (forkL f) (.lit (.bool false)) = .lit (.bool (decide (f ∈ l)))
theorem Seen.lt {w : World} {mb : Nat} {l : List Fork} (h : Seen w mb l) : mb < w.heap.size := let ⟨_, h1, _⟩ := h; h1.lt
theorem Seen.below {w w' : World} {mb : Nat} {l : List Fork} (h : Seen w mb l) (hb : Below w.heap.size w w') : Seen w' mb l := by
  obtain ⟨D, h1, h2⟩ := h
  exact ⟨D, h1.kept (row := none) ⟨hb.os, hb.tape, hb.output, hb.size, fun i hi _ => hb.block i hi⟩ (by simp), h2⟩
theorem Seen.made (w : World) : Seen (w.alloc (.map #[] 0)) w.heap.size [] :=
  ⟨_, World.ownsMap_made _ _ _ _, Maps.isMap_empty, fun f hf => by simp [DataW.atKey]⟩
theorem Seen.look {w : World} {mb : Nat} {l : List Fork} {f : Fork} (h : Seen w mb l) (hf : ForkOk f) :
    (Instr.lookup 84 (.map (some mb)) (.agg #[.int .i64 f.1, .int .i64 f.2.1, .int .i64 f.2.2]) false).run Tryz.prog w = .ok (.bool (decide (f ∈ l))) w := by
  obtain ⟨D, h1, h2, h3⟩ := h
  obtain ⟨v, ps, hrun, hv⟩ := h1.lookup fork_law Tryz.underlying84 (z := .bool false) (by kernel_rfl) (plainElem_bool Tryz.underlying4 false) (keyOf_fork hf)
  rw [h3 f hf] at hv
  obtain ⟨x, rfl, hx⟩ := plainElem_bool_inv Tryz.underlying4 hv
  simp only [Prod.mk.injEq, DataW.lit.injEq, Lit.bool.injEq] at hx
  rw [hx.1]
  exact hrun
theorem forkL_key (f : Fork) : WideAt.IsKeyLit (forkL f) := trivial
theorem forkL_inj {f g : Fork} (hf : ForkOk f) (hg : ForkOk g) (h : forkL f = forkL g) : f = g := by
  have h1 := keyOf_fork hf
  have h2 := keyOf_fork hg
  rw [← h] at h2
  have h3 := fork_law.inj h1 h2
  simp [forkA] at h3
  obtain ⟨a, b, c⟩ := h3
  exact Prod.ext a (Prod.ext b c)
theorem seen_put {w' : World} {mb : Nat} {l : List Fork} {D : DataW Unit} {f : Fork} (hf : ForkOk f)
    (h1 : w'.ownsMap Tryz.prog 49 (plainElem Tryz.prog 4) mb (l.length + 1) (D.put (forkL f) (.lit (.bool true)))) (h2 : Maps.IsMap D)
    (h3 : ∀ f, ForkOk f → D.atKey (forkL f) (.lit (.bool false)) = .lit (.bool (decide (f ∈ l)))) : Seen w' mb (l ++ [f]) := by
  refine ⟨_, by simpa using h1, h2.put _ _, fun g hg => ?_⟩
  by_cases e : g = f
  · subst e
    rw [Maps.atKey_put_same h2 (forkL_key _)]
    simp
  · rw [Maps.atKey_put_other (fun e1 => e (forkL_inj hg hf e1)), h3 g hg]
    simp [e]

theorem run_makeMap_hint (w : World) (n : Int) : (Instr.makeMap 84 (some (.int .i64 n))).run Tryz.prog w = .ok (.map (some w.heap.size)) (w.alloc (.map #[] 0)) := by
  have hu := Tryz.underlying84
  simp [Instr.makeMap, run_underlying hu, asInt, Result.andThen]
  rfl
theorem below_drew {B : Nat} {w w' : World} (h : Below B w w') : Below B w w'.drew := ⟨h.os, h.tape, h.output, h.size, h.block⟩
theorem hb_alloc {w w' : World} (h : Hid (Below w.heap.size w w')) (o : Obj) : Hid (Below w.heap.size w (w'.alloc o)) := Lib.hid (h.out.alloc h.out.size o)
theorem run_ix0 (x y : Int) (w : World) : (Instr.index 100 (.agg #[.int .i64 x, .int .i64 y]) (.int .i64 0)).run Tryz.prog w = .ok (.int .i64 x) w := by kernel_rfl
theorem run_ix1 (x y : Int) (w : World) : (Instr.index 100 (.agg #[.int .i64 x, .int .i64 y]) (.int .i64 1)).run Tryz.prog w = .ok (.int .i64 y) w := by kernel_rfl
set_option maxRecDepth 100000 in
set_option maxHeartbeats 4000000 in
theorem formed_any (F : Nat → Prop) (vars root : Int) (nv : Value) (ns : List Fork) (w : World) (hx : Forks F w nv ns) (hl : ns.length ≤ 4096) (hv : I64 vars) (hr : I64 root) :
    Calls Tryz.prog 55 #[.agg #[.int .i64 vars, nv, .int .i64 root]] w fun e w' => e = .returned (.bool (frmM vars ns root)) ∧ Below w.heap.size w w' := by
  obtain ⟨a, n, c, rfl, HN, hn⟩ := hx.form
  have hn2 : n ≤ 4096 := by rw [HN.out]; exact hl
  have HX := Lib.hid hx
  obtain ⟨R, hR⟩ : ∃ R, frmM vars ns root = R := ⟨_, rfl⟩
  have HR : Hid (R = (frmGo vars ns (ns.drop 0) 0 && (decide (0 ≤ root) && decide (root ≤ 1 + ns.length)))) := Lib.hid hR.symm
  rw [hR]
  have hmm := run_makeMap_hint
  clear hR hx hl
  go_enter Tryz.func55, Tryz.ntmps55
  go_wp2
  have hB0 : Below w.heap.size w (w.alloc (.cells #[.int .i64 vars, .slice a n c, .int .i64 root] 51)) := (Below.refl _ _).alloc (Nat.le_refl _) _
  obtain ⟨W1, hW1⟩ : ∃ W1, w.alloc (.cells #[.int .i64 vars, .slice a n c, .int .i64 root] 51) = W1 := ⟨_, rfl⟩
  have hs1 : W1.heap.size = w.heap.size + 1 := by rw [← hW1]; simp
  have k0 : W1.cell? ⟨w.heap.size, 0, none⟩ = some (.int .i64 vars) := by rw [← hW1]; simp
  have k1 : W1.cell? ⟨w.heap.size, 1, none⟩ = some (.slice a n c) := by rw [← hW1]; simp
  have k2 : W1.cell? ⟨w.heap.size, 2, none⟩ = some (.int .i64 root) := by rw [← hW1]; simp
  rw [hW1] at hB0 ⊢
  have HX1 := Lib.hid (HX.out.below hB0)
  have HB1 := Lib.hid hB0
  have HS1 : Hid (Seen (W1.alloc (.map #[] 0)) W1.heap.size (ns.take 0)) := Lib.hid (by simpa using Seen.made W1)
  have HB2 : Hid (Below W1.heap.size W1 (W1.alloc (.map #[] 0))) := Lib.hid ((Below.refl _ _).alloc (Nat.le_refl _) _)
  have HSZ := Lib.hid hs1
  obtain ⟨mb, hmb⟩ : ∃ mb, w.heap.size + 1 = mb := ⟨_, rfl⟩
  rw [hs1] at HS1 HB2
  rw [hmb] at HS1 HB2 hs1 ⊢
  clear hW1 hB0 HX hmm
  have HK : Hid (W1.cell? ⟨w.heap.size, 0, none⟩ = some (.int .i64 vars) ∧ W1.cell? ⟨w.heap.size, 1, none⟩ = some (.slice a n c) ∧ W1.cell? ⟨w.heap.size, 2, none⟩ = some (.int .i64 root)) := Lib.hid ⟨k0, k1, k2⟩
  clear k0 k1 k2
  go_loopg [15] n (fun gg u15 wx => ∃ (k : Nat), k + gg = n ∧ u15 = .int .i64 k ∧ Hid (Below mb W1 wx) ∧ Hid (Seen wx mb (ns.take k)) ∧ Hid (R = (frmGo vars ns (ns.drop k) k && (decide (0 ≤ root) && decide (root ≤ 1 + ns.length)))))
  case atStart => exact ⟨0, by omega, rfl, HB2, HS1, HR⟩
  case round =>
  clear HS1 HB2 HR
  obtain ⟨k, hkg, rfl, HB, HS, HR⟩ := hrel
  have k0 := below_c HB.out (by omega) HK.out.1
  have k1 := below_c HB.out (by omega) HK.out.2.1
  have k2 := below_c HB.out (by omega) HK.out.2.2
  have hszr : mb ≤ wr.heap.size := by have := HB.out.size; have := HSZ.out; omega
  have hlt0 : w.heap.size < wr.heap.size := by omega
  have hne0 : w.heap.size ≠ wr.heap.size := by omega
  by_cases hk : k < n
  case neg =>
    have HF : Hid (R = (decide (0 ≤ root) && decide (root ≤ 1 + ns.length))) := Lib.hid (by rw [HR.out, List.drop_eq_nil_of_le (by have := HN.out; omega)]; rfl)
    have hbf : Below w.heap.size w wr := HB1.out.trans (HB.out.mono (by omega))
    have HBF := Lib.hid hbf
    have hd : decide ((k : Int) < n) = false := by simp; omega
    have hw : IntKind.i64.wrap (1 + (n : Int)) = 1 + n := IntWalk.i64_in _ ⟨by omega, by omega⟩
    have hg : decide (root ≥ 0) = decide (0 ≤ root) := rfl
    clear HR hbf
    by_cases hr0 : 0 ≤ root
    · have hd0 : decide (0 ≤ root) = true := decide_eq_true hr0
      have HF2 : Hid (R = decide (root ≤ 1 + n)) := Lib.hid (by rw [HF.out, hd0, HN.out]; rfl)
      clear hr0 HF
      go_wp2
      go_ret
      exact ⟨by rw [HF2.out]; rfl, HBF.out⟩
    · have hd0 : decide (0 ≤ root) = false := decide_eq_false hr0
      have HF2 : Hid (R = false) := Lib.hid (by rw [HF.out, hd0]; rfl)
      clear hr0 HF
      go_wp2
      go_ret
      exact ⟨by rw [HF2.out]; rfl, HBF.out⟩
  obtain ⟨f, hf, ed⟩ := drop_at (xs := ns) (k := k) (by have := HN.out; omega)
  have hxr := HX1.out.move (w' := wr) fun b hb hlt => HB.out.block b (by omega)
  obtain ⟨fb, fo, rfl, _, hfb, c0, c1, c2, hfo⟩ := hxr.at hf
  obtain ⟨fv, flo, fhi⟩ := f
  simp only at c0 c1 c2
  have hlk := (HS.out.below (w' := wr.alloc (.cells #[.int .i64 fv, .int .i64 flo, .int .i64 fhi] 49)) ((Below.refl _ _).alloc (Nat.le_refl _) _)).look hfo
  have HFO := Lib.hid hfo
  have HFF := Lib.hid hf
  have HR2 : Hid (R = (if fv < 0 ∨ vars ≤ fv ∨ flo = fhi ∨ (fv, flo, fhi) ∈ ns.take k then false else ([flo, fhi].all (refM vars ns k fv) && frmGo vars ns (ns.drop (k + 1)) (k + 1) && (decide (0 ≤ root) && decide (root ≤ 1 + ns.length))))) := Lib.hid (by
    rw [HR.out, ed, frmGo]
    split
    · rfl
    · rfl)
  obtain ⟨S, hS⟩ : ∃ S, decide ((fv, flo, fhi) ∈ ns.take k) = S := ⟨_, rfl⟩
  rw [hS] at hlk
  have HSS := Lib.hid hS
  clear HR ed hxr hf hS hfo
  have hba := HB.out.alloc (show mb ≤ wr.heap.size by omega) (.cells #[.int .i64 fv, .int .i64 flo, .int .i64 fhi] 49)
  have HBA := Lib.hid hba
  have HBF := Lib.hid (HB1.out.trans (hba.mono (by omega)))
  have hd : decide ((k : Int) < n) = true := by simp; omega
  have hdk : decide (k < n) = true := by simp; omega
  clear hba
  by_cases h1 : fv < 0
  · have HF : Hid (R = false) := Lib.hid (by rw [HR2.out, if_pos (.inl h1)])
    have hd1 : decide (fv < 0) = true := decide_eq_true h1
    clear h1 HR2
    go_wp2
    try rw [Exit.noGoto_ret]
    go_ret
    exact ⟨by rw [HF.out]; rfl, HBF.out⟩
  have hd1 : decide (fv < 0) = false := decide_eq_false h1
  by_cases h2 : vars ≤ fv
  · have HF : Hid (R = false) := Lib.hid (by rw [HR2.out, if_pos (.inr (.inl h2))])
    have hd2 : decide (vars ≤ fv) = true := decide_eq_true h2
    clear h1 h2 HR2
    go_wp2
    try rw [Exit.noGoto_ret]
    go_ret
    exact ⟨by rw [HF.out]; rfl, HBF.out⟩
  have hd2 : decide (vars ≤ fv) = false := decide_eq_false h2
  by_cases h3 : flo = fhi
  · have HF : Hid (R = false) := Lib.hid (by rw [HR2.out, if_pos (.inr (.inr (.inl h3)))])
    have hd3 : (flo == fhi) = true := by simp [h3]
    clear h1 h2 h3 HR2
    go_wp2
    try rw [Exit.noGoto_ret]
    go_ret
    exact ⟨by rw [HF.out]; rfl, HBF.out⟩
  have hd3 : (flo == fhi) = false := by simp [h3]
  rcases bool2 S with rfl | rfl
  · have HF : Hid (R = false) := Lib.hid (by rw [HR2.out, if_pos (.inr (.inr (.inr (by simpa using HSS.out))))])
    clear h1 h2 h3 HR2
    go_wp2
    try rw [Exit.noGoto_ret]
    go_ret
    exact ⟨by rw [HF.out]; rfl, HBF.out⟩
  have hS := HSS.out
  have HF0 : Hid (R = (([flo, fhi].drop 0).all (refM vars ns k fv) && (frmGo vars ns (ns.drop (k + 1)) (k + 1) && (decide (0 ≤ root) && decide (root ≤ 1 + ns.length))))) := Lib.hid (by
    rw [HR2.out, if_neg]
    · rw [Bool.and_assoc]; rfl
    · rintro (h | h | h | h)
      · exact h1 h
      · exact h2 h
      · exact h3 h
      · simp [h] at hS)
  clear h1 h2 h3 HR2 hS
  obtain ⟨T, hT⟩ : ∃ T, (frmGo vars ns (ns.drop (k + 1)) (k + 1) && (decide (0 ≤ root) && decide (root ≤ 1 + ns.length))) = T := ⟨_, rfl⟩
  rw [hT] at HF0
  have HT := Lib.hid hT
  clear hT
  obtain ⟨GK, hGK⟩ : ∃ G, G = gk := ⟨_, rfl⟩
  subst hGK
  obtain ⟨wo, hwo⟩ : ∃ W, W = wr := ⟨_, rfl⟩
  subst hwo
  go_wp2
  go_loopg [47] 2 (fun gg u47 wx => ∃ (j : Nat), j + gg = 2 ∧ u47 = .int .i64 j ∧ Hid (Below wo.heap.size wo wx) ∧ Hid (wx.cell? ⟨wo.heap.size, 0, none⟩ = some (.int .i64 fv) ∧ wx.cell? ⟨wo.heap.size, 1, none⟩ = some (.int .i64 flo) ∧ wx.cell? ⟨wo.heap.size, 2, none⟩ = some (.int .i64 fhi)) ∧ Hid (R = (([flo, fhi].drop j).all (refM vars ns k fv) && T)))
  case atStart => exact ⟨0, by omega, rfl, Lib.hid ((Below.refl _ _).alloc (Nat.le_refl _) _), Lib.hid ⟨by simp, by simp, by simp⟩, HF0⟩
  case round =>
  clear HF0 hlk HBF HBA
  obtain ⟨j, hjg, rfl, HBI, HC, HR⟩ := hrel
  obtain ⟨d0, d1, d2⟩ := HC.out
  have HBX : Hid (Below w.heap.size w wr) := Lib.hid (HB1.out.trans ((HB.out.trans (HBI.out.mono hszr)).mono (by omega)))
  have j0 := below_c HBI.out hlt0 k0
  have j1 := below_c HBI.out hlt0 k1
  have j2 := below_c HBI.out hlt0 k2
  have HFK := Lib.hid (HX1.out.move (w' := wr) fun b hb hlt => (HB.out.trans (HBI.out.mono hszr)).block b (by omega))
  clear HC k0 k1 k2 c0 c1 c2
  match j, hjg, HR with
  | 0, hjg, HR =>
    have hix := run_ix0 flo fhi
    have HR3 : Hid (R = (refM vars ns k fv flo && (([flo, fhi].drop 1).all (refM vars ns k fv) && T))) := Lib.hid (by rw [HR.out, ← Bool.and_assoc]; rfl)
    have hrr : I64 flo := HFO.out.2.1
    clear HR
    by_cases h1 : flo < 0
    · have HF : Hid (R = false) := Lib.hid (by rw [HR3.out, refM, decide_eq_true h1]; rfl)
      have hq : decide (flo < 0) = true := decide_eq_true h1
      clear h1 HR3
      go_upto_region 10 with fail
      go_quiet (fail)
      go_wp2
      try rw [Exit.noGoto_ret]
      go_ret
      exact ⟨by rw [HF.out]; rfl, below_drewN HBX.out _⟩
    have hq : decide (flo < 0) = false := decide_eq_false h1
    have hw : IntKind.i64.wrap (1 + (k : Int)) = 1 + k := IntWalk.i64_in _ ⟨by omega, by omega⟩
    by_cases h2 : 1 + (k : Int) < flo
    · have HF : Hid (R = false) := Lib.hid (by rw [HR3.out, refM, decide_eq_true h2]; simp)
      have hq2 : decide (1 + (k : Int) < flo) = true := decide_eq_true h2
      clear h1 h2 HR3
      go_upto_region 10 with fail
      go_quiet (fail)
      go_wp2
      try rw [Exit.noGoto_ret]
      go_ret
      exact ⟨by rw [HF.out]; rfl, below_drewN HBX.out _⟩
    have hq2 : decide (1 + (k : Int) < flo) = false := decide_eq_false h2
    obtain ⟨B, hB⟩ : ∃ B, decide (lvlM vars ns flo ≤ fv) = B := ⟨_, rfl⟩
    have HR4 : Hid (R = (!B && (([flo, fhi].drop 1).all (refM vars ns k fv) && T))) := Lib.hid (by rw [HR3.out, refM, hq, hq2, hB]; rfl)
    have hlv := fun w (h : Forks F w (.slice (some ⟨fb, fo, none⟩) n c) ns) => level_any F vars root flo _ ns w h (by have := HN.out; omega) hrr
    obtain ⟨L, hL⟩ : ∃ L, lvlM vars ns flo = L := ⟨_, rfl⟩
    rw [hL] at hB hlv
    have HLV := Lib.hid hlv
    have hltx : w.heap.size < wr.heap.size := by have := HBI.out.size; omega
    clear hlv hL h1 h2 HR3
    go_upto_region 10 with fail
    go_cut [65] from 50 to 66 (fun u65 wx => u65 = .bool B ∧ Hid (Below wr.heap.size wr wx))
    case first =>
      unfold boxB at HLV
      have HBD : Hid (Below wr.heap.size wr wr.drew) := Lib.hid (below_drew (Below.refl _ _))
      have HBD2 : Hid (Below wr.heap.size wr (wr.alloc (.cells #[.int .i64 vars, .slice (some ⟨fb, fo, none⟩) n c, .int .i64 root] 51)).drew) := Lib.hid (below_drew ((Below.refl _ _).alloc (Nat.le_refl _) _))
      go_region_held3 (fun w' => w'.cell? ⟨w.heap.size, 0, none⟩ = some (.int .i64 vars) ∧ w'.cell? ⟨w.heap.size, 1, none⟩ = some (.slice (some ⟨fb, fo, none⟩) n c) ∧ w'.cell? ⟨w.heap.size, 2, none⟩ = some (.int .i64 root) ∧ w'.cell? ⟨wo.heap.size, 0, none⟩ = some (.int .i64 fv) ∧ Hid (Below wr.heap.size wr w'))
        (first | exact ⟨j0, j1, j2, d0, HBD⟩ | exact ⟨cell_alloc _ j0, cell_alloc _ j1, cell_alloc _ j2, cell_alloc _ d0, HBD2⟩ | exact ⟨by assumption, by assumption, by assumption, by assumption, by assumption⟩ | go_keep)
        (first | (go_at_call 74; refine (HLV.out _ (HFK.out.below (Hid.out ‹Hid (Below wr.heap.size wr _)›))).mono ?_; rintro e w1 ⟨rfl, rfl⟩))
      all_goals (go_wp2_with fail; go_meet; exact ⟨rfl, HBD2⟩)
    case rest =>
    obtain ⟨rfl, HB5⟩ := hcut
    rcases bool2 B with rfl | rfl
    · have HF : Hid (R = false) := Lib.hid (by rw [HR4.out]; rfl)
      have HBZ : Hid (Below w.heap.size w wc) := Lib.hid (HBX.out.trans (HB5.out.mono HBX.out.size))
      clear HR4
      go_wp2
      try rw [Exit.noGoto_ret]
      go_ret
      exact ⟨by rw [HF.out]; rfl, HBZ.out⟩
    · have HF : Hid (R = (([flo, fhi].drop 1).all (refM vars ns k fv) && T)) := Lib.hid (by rw [HR4.out]; rfl)
      have HBZ : Hid (Below wo.heap.size wo wc) := Lib.hid (HBI.out.trans (HB5.out.mono HBI.out.size))
      have HCZ : Hid (wc.cell? ⟨wo.heap.size, 0, none⟩ = some (.int .i64 fv) ∧ wc.cell? ⟨wo.heap.size, 1, none⟩ = some (.int .i64 flo) ∧ wc.cell? ⟨wo.heap.size, 2, none⟩ = some (.int .i64 fhi)) := Lib.hid ⟨below_c HB5.out (block_lt d0) d0, below_c HB5.out (block_lt d1) d1, below_c HB5.out (block_lt d2) d2⟩
      clear HR4
      go_wp2
      go_roundg (gk - 1)
      case measure => omega
      case rel => exact ⟨1, by omega, rfl, HBZ, HCZ, HF⟩
  | 1, hjg, HR =>
    have hix := run_ix1 flo fhi
    have HR3 : Hid (R = (refM vars ns k fv fhi && (([flo, fhi].drop 2).all (refM vars ns k fv) && T))) := Lib.hid (by rw [HR.out, ← Bool.and_assoc]; rfl)
    have hrr : I64 fhi := HFO.out.2.2
    clear HR
    by_cases h1 : fhi < 0
    · have HF : Hid (R = false) := Lib.hid (by rw [HR3.out, refM, decide_eq_true h1]; rfl)
      have hq : decide (fhi < 0) = true := decide_eq_true h1
      clear h1 HR3
      go_upto_region 10 with fail
      go_quiet (fail)
      go_wp2
      try rw [Exit.noGoto_ret]
      go_ret
      exact ⟨by rw [HF.out]; rfl, below_drewN HBX.out _⟩
    have hq : decide (fhi < 0) = false := decide_eq_false h1
    have hw : IntKind.i64.wrap (1 + (k : Int)) = 1 + k := IntWalk.i64_in _ ⟨by omega, by omega⟩
    by_cases h2 : 1 + (k : Int) < fhi
    · have HF : Hid (R = false) := Lib.hid (by rw [HR3.out, refM, decide_eq_true h2]; simp)
      have hq2 : decide (1 + (k : Int) < fhi) = true := decide_eq_true h2
      clear h1 h2 HR3
      go_upto_region 10 with fail
      go_quiet (fail)
      go_wp2
      try rw [Exit.noGoto_ret]
      go_ret
      exact ⟨by rw [HF.out]; rfl, below_drewN HBX.out _⟩
    have hq2 : decide (1 + (k : Int) < fhi) = false := decide_eq_false h2
    obtain ⟨B, hB⟩ : ∃ B, decide (lvlM vars ns fhi ≤ fv) = B := ⟨_, rfl⟩
    have HR4 : Hid (R = (!B && (([flo, fhi].drop 2).all (refM vars ns k fv) && T))) := Lib.hid (by rw [HR3.out, refM, hq, hq2, hB]; rfl)
    have hlv := fun w (h : Forks F w (.slice (some ⟨fb, fo, none⟩) n c) ns) => level_any F vars root fhi _ ns w h (by have := HN.out; omega) hrr
    obtain ⟨L, hL⟩ : ∃ L, lvlM vars ns fhi = L := ⟨_, rfl⟩
    rw [hL] at hB hlv
    have HLV := Lib.hid hlv
    have hltx : w.heap.size < wr.heap.size := by have := HBI.out.size; omega
    clear hlv hL h1 h2 HR3
    go_upto_region 10 with fail
    go_cut [65] from 50 to 66 (fun u65 wx => u65 = .bool B ∧ Hid (Below wr.heap.size wr wx))
    case first =>
      unfold boxB at HLV
      have HBD : Hid (Below wr.heap.size wr wr.drew) := Lib.hid (below_drew (Below.refl _ _))
      have HBD2 : Hid (Below wr.heap.size wr (wr.alloc (.cells #[.int .i64 vars, .slice (some ⟨fb, fo, none⟩) n c, .int .i64 root] 51)).drew) := Lib.hid (below_drew ((Below.refl _ _).alloc (Nat.le_refl _) _))
      go_region_held3 (fun w' => w'.cell? ⟨w.heap.size, 0, none⟩ = some (.int .i64 vars) ∧ w'.cell? ⟨w.heap.size, 1, none⟩ = some (.slice (some ⟨fb, fo, none⟩) n c) ∧ w'.cell? ⟨w.heap.size, 2, none⟩ = some (.int .i64 root) ∧ w'.cell? ⟨wo.heap.size, 0, none⟩ = some (.int .i64 fv) ∧ Hid (Below wr.heap.size wr w'))
        (first | exact ⟨j0, j1, j2, d0, HBD⟩ | exact ⟨cell_alloc _ j0, cell_alloc _ j1, cell_alloc _ j2, cell_alloc _ d0, HBD2⟩ | exact ⟨by assumption, by assumption, by assumption, by assumption, by assumption⟩ | go_keep)
        (first | (go_at_call 74; refine (HLV.out _ (HFK.out.below (Hid.out ‹Hid (Below wr.heap.size wr _)›))).mono ?_; rintro e w1 ⟨rfl, rfl⟩))
      all_goals (go_wp2_with fail; go_meet; exact ⟨rfl, HBD2⟩)
    case rest =>
    obtain ⟨rfl, HB5⟩ := hcut
    rcases bool2 B with rfl | rfl
    · have HF : Hid (R = false) := Lib.hid (by rw [HR4.out]; rfl)
      have HBZ : Hid (Below w.heap.size w wc) := Lib.hid (HBX.out.trans (HB5.out.mono HBX.out.size))
      clear HR4
      go_wp2
      try rw [Exit.noGoto_ret]
      go_ret
      exact ⟨by rw [HF.out]; rfl, HBZ.out⟩
    · have HF : Hid (R = (([flo, fhi].drop 2).all (refM vars ns k fv) && T)) := Lib.hid (by rw [HR4.out]; rfl)
      have HBZ : Hid (Below wo.heap.size wo wc) := Lib.hid (HBI.out.trans (HB5.out.mono HBI.out.size))
      have HCZ : Hid (wc.cell? ⟨wo.heap.size, 0, none⟩ = some (.int .i64 fv) ∧ wc.cell? ⟨wo.heap.size, 1, none⟩ = some (.int .i64 flo) ∧ wc.cell? ⟨wo.heap.size, 2, none⟩ = some (.int .i64 fhi)) := Lib.hid ⟨below_c HB5.out (block_lt d0) d0, below_c HB5.out (block_lt d1) d1, below_c HB5.out (block_lt d2) d2⟩
      clear HR4
      go_wp2
      go_roundg (gk - 1)
      case measure => omega
      case rel => exact ⟨2, by omega, rfl, HBZ, HCZ, HF⟩
  | j + 2, hjg, HR =>
    obtain rfl : j = 0 := by omega
    have HF : Hid (R = T) := Lib.hid (by rw [HR.out]; rfl)
    obtain ⟨D, hD1, hD2, hD3⟩ := HS.out.below HBI.out
    have hD1' : wr.ownsMap Tryz.prog 49 (plainElem Tryz.prog 4) mb k D := by
      have : (ns.take k).length = k := by rw [List.length_take]; have := HN.out; omega
      rwa [this] at hD1
    have HD3 := Lib.hid hD3
    have HD2 := Lib.hid hD2
    have hkey := keyOf_fork HFO.out
    have hbz : Below mb W1 wr := HB.out.trans (HBI.out.mono hszr)
    have HBZ := Lib.hid hbz
    have hltm : mb < wr.heap.size := hD1'.lt
    unfold forkA at hkey
    simp only at hkey
    clear hD1 hD2 hD3 HR hbz
    go_wp2_with (first | (at_mapUpdate; refine wpList_mapUpdate_own _ rfl _ _ _ 84 rfl 49 4 fork_law Tryz.underlying84 (plainElem Tryz.prog 4) mb k D rfl hD1' (by unfold maxLen; omega) _ _ (forkL (fv, flo, fhi)) rfl rfl hkey (.lit (.bool true)) [] (plainElem_bool Tryz.underlying4 true) ?_; intro w3 hown3 hgrow3) | go_in)
    have HS3 : Hid (Seen w3 mb (ns.take (k + 1))) := Lib.hid (by
      rw [List.take_add_one, HFF.out]
      refine seen_put (D := D) HFO.out ?_ HD2.out HD3.out
      have : (ns.take k).length = k := by rw [List.length_take]; have := HN.out; omega
      rw [this]
      exact hown3)
    have HB3 : Hid (Below mb W1 w3) := Lib.hid (HBZ.out.grown hgrow3 (by omega) fun b hb => by cases hb; omega)
    have HF3 : Hid (R = (frmGo vars ns (ns.drop (k + 1)) (k + 1) && (decide (0 ≤ root) && decide (root ≤ 1 + ns.length)))) := Lib.hid (by rw [HF.out, HT.out])
    clear hown3 hgrow3
    go_roundg (GK - 1)
    case measure => omega
    case rel => exact ⟨k + 1, by omega, by go_num, HB3, HS3, HF3⟩
end Go.Proofs.YteadlkecngfcoaaGreat
