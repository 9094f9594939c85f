/- (seats without []bool: XRo but for its last law) From the statement's reading of the arguments to the predicates of the walks. -/
import Derived.Test.YtljaegmmfjllkaaGreatDoorChecked
import Derived.Test.YtljaegmmfjllkaaGreatDoorSd
import Derived.Deep.Slices
import Derived.Deep.Strs
import Derived.Lib.SmallJoins
import Derived.Test.YtljaegmmfjllkaaGreatDoorVa
import Derived.Test.YtljaegmmfjllkaaGreatDoorRows
namespace Go.Proofs.YtljaegmmfjllkaaGreatDoor
open Go.ChangeShapes Go.WideShapes Go.ChangeAt Go.RowKit
set_option linter.unusedVariables false

theorem wf_I64 {n : Int} (h : (Lit.int .i64 n).wf = true) : I64 n := by
  simp [Lit.wf, IntKind.min, IntKind.max, IntKind.signed, IntKind.bits] at h
  unfold I64
  omega
theorem add_off {b off : Nat} {n : Nat} : (⟨b, off, none⟩ : Addr).add n = ⟨b, off + n, none⟩ := by
  unfold Addr.add; split <;> simp_all

theorem open_intsv {H : Type} {enc : TypeId × Value → H} {W : World} {fuel : Nat} {v : Value} {x : DataW H × List MemPlace} (h : DataW.trod enc Tryz.prog W 0 (fun _ => true) true fuel 43 [v] = some x) :
    ∃ xs, Ints (fun _ => True) W v xs := by
  rcases open_ints Tryz.underlying43 Tryz.underlying3 (by kernel_rfl) h with ⟨hcs, _⟩ | ⟨a, l, c, zs, hcs, _, hl, hm, hz, _, hcell, hwz⟩
  · simp at hcs
    subst hcs
    exact ⟨[], Ints.nil _ _⟩
  · simp at hcs hz
    subst hcs
    have hlz : (zs.take l).length = l := by simp; omega
    refine ⟨zs.take l, ⟨some a, c, by simp; omega, by simp; unfold maxLen at hm; omega, fun j u hu => ?_⟩, fun n hn => wf_I64 (hwz n (List.mem_of_mem_take hn))⟩
    rw [List.getElem?_map, List.getElem?_take] at hu
    by_cases hj : j < l
    · rw [if_pos hj] at hu
      have hjz : j < zs.length := by omega
      rw [List.getElem?_eq_getElem hjz] at hu
      simp at hu
      have hc := hcell j hjz
      obtain ⟨b, off, spot⟩ := a
      have hsp : spot = none := by
        have := World.cell?_spot (hcell 0 (by omega))
        simpa [Addr.add] using this
      subst hsp
      rw [add_off] at hc
      refine ⟨b, off, rfl, trivial, ?_⟩
      rw [hc, ← hu]
      simp [List.getD, List.getElem?_eq_getElem hjz]
    · rw [if_neg hj] at hu; simp at hu


set_option maxRecDepth 100000 in
theorem open_clssv {H : Type} {enc : TypeId × Value → H} {W : World} {fuel : Nat} {v : Value} {x : DataW H × List MemPlace} (h : DataW.trod enc Tryz.prog W 0 (fun _ => true) true fuel 35 [v] = some x) :
    ∃ cs, Clss (fun _ => True) W v cs := by
  rcases Deep.open_slice1 Tryz.underlying35 (by kernel_rfl) h with ⟨hcs, _⟩ | ⟨a, len, cap, m, n, V, D, Pl, hcs, _, hl, hm, hmm, _, hel⟩
  · simp at hcs
    subst hcs
    exact ⟨[], Rows1.nil _ _⟩
  · simp at hcs hmm
    subst hcs hmm
    have hel2 : ∀ i, i < len → ∃ q : Value × List Int, W.cell? (a.add i) = some q.1 ∧ Ints (fun _ => True) W q.1 q.2 := by
      intro i hi
      obtain ⟨h1, h2⟩ := hel i (by omega)
      obtain ⟨xs, hxs⟩ := open_intsv h2
      exact ⟨(_, xs), h1, hxs⟩
    obtain ⟨b, off, spot⟩ := a
    by_cases h0 : len = 0
    · subst h0
      exact ⟨[], [], ⟨_, _, rfl, by simp, by simp⟩, rfl, by simp⟩
    have hsp : spot = none := by
      obtain ⟨_, k0, _⟩ := hel2 0 (by omega)
      simpa [Addr.add] using World.cell?_spot k0
    subst hsp
    simp only [add_off] at hel2
    obtain ⟨f, hf⟩ := Deep.choose_lt (n := len) (p := fun i (q : Value × List Int) => W.cell? ⟨b, off + i, none⟩ = some q.1 ∧ Ints (fun _ => True) W q.1 q.2) hel2
    refine ⟨(List.range len).map fun i => (f i).2, (List.range len).map fun i => (f i).1, ⟨some ⟨b, off, none⟩, _, by simp; rfl, by simp; unfold maxLen at hm; omega, fun j u hu => ?_⟩, by simp, fun j u p hu hp => ?_⟩
    · by_cases hj : j < len
      · simp [hj] at hu
        subst hu
        exact ⟨b, off, rfl, trivial, (hf j hj).1⟩
      · simp [hj] at hu
    · by_cases hj : j < len
      · simp [hj] at hu hp
        subst hu hp
        exact (hf j hj).2
      · simp [hj] at hu

set_option maxRecDepth 100000 in
/-- the argument of the statements: a formula -/
theorem open_cnf {H : Type} {enc : TypeId × Value → H} {W : World} {v : Value} {d : DataW H} {p : List MemPlace} {base : Nat} (hv : Value.okWide Tryz.prog W .any base 37 v) (h : DataW.Trod enc Tryz.prog W 0 (fun _ => true) true 37 v d p) :
    ∃ (vars keep : Int) (cv : Value) (cs : List (List Int)), v = .agg #[.int .i64 vars, .int .i64 keep, cv] ∧ I64 vars ∧ I64 keep ∧ Clss (fun _ => True) W cv cs := by
  obtain ⟨c0, c1, c2, y0, y1, y2, m, rfl, _, _, h0, h1, h2⟩ := Joins.open_agg3 Tryz.underlying37 (by kernel_rfl) (by kernel_rfl) hv h
  obtain ⟨vars, e0, _, w0⟩ := DataW.trod_int Tryz.underlying3 h0
  obtain ⟨keep, e1, _, w1⟩ := DataW.trod_int Tryz.underlying3 h1
  simp at e0 e1
  subst e0 e1
  obtain ⟨cs, hcs⟩ := open_clssv h2
  exact ⟨vars, keep, c2, cs, rfl, wf_I64 w0, wf_I64 w1, hcs⟩


/- (Trace seat) From the statement's reading of a trace to the predicates of the walks. -/
open Go.ChangeShapes Go.WideShapes Go.ChangeAt Go.RowKit
set_option linter.unusedVariables false

theorem list5 {α : Type} {cs : List α} (h : cs.length = 5) : ∃ a b c d e, cs = [a, b, c, d, e] := by
  match cs, h with
  | [a, b, c, d, e], _ => exact ⟨a, b, c, d, e, rfl⟩
theorem trod_claim {H : Type} {enc : TypeId × Value → H} {W : World} {fuel : Nat} {v0 v1 v2 v3 v4 : Value} {x : DataW H × List MemPlace} (h : DataW.trod enc Tryz.prog W 0 (fun _ => true) true fuel 45 [v0, v1, v2, v3, v4] = some x) :
    ∃ c : Claim, ClaimV (fun _ => True) W (v0, v1, v2, v3, v4) c := by
  have c1 : Tryz.prog.cellsOf 3 = 1 := by kernel_rfl
  have c2 : Tryz.prog.cellsOf 43 = 1 := by kernel_rfl
  have c3 : Tryz.prog.cellsOf 35 = 1 := by kernel_rfl
  obtain ⟨xs, n, _, rfl, hl, hlen, hf⟩ := DataW.trod_struct Tryz.underlying45 h
  obtain ⟨y0, y1, y2, y3, y4, rfl⟩ := list5 (by simpa using hlen)
  have t0 := hf 0 _ rfl
  have t1 := hf 1 _ rfl
  have t2 := hf 2 _ rfl
  have t3 := hf 3 _ rfl
  have t4 := hf 4 _ rfl
  simp [c1, c2, c3] at t0 t1 t2 t3 t4
  obtain ⟨cs, hcs⟩ := open_clssv t0
  obtain ⟨a, e1, _, w1⟩ := DataW.trod_int Tryz.underlying3 t1
  obtain ⟨b, e2, _, w2⟩ := DataW.trod_int Tryz.underlying3 t2
  obtain ⟨ks, hks⟩ := open_intsv t3
  obtain ⟨d, e4, _, w4⟩ := DataW.trod_int Tryz.underlying3 t4
  simp at e1 e2 e4
  subst e1 e2 e4
  exact ⟨⟨cs, a, b, ks, d⟩, ⟨hcs, rfl, rfl, hks, rfl⟩, wf_I64 w1, wf_I64 w2, wf_I64 w4⟩
instance : Inhabited Claim := ⟨clNil⟩
set_option maxRecDepth 100000 in
theorem open_claimsv {H : Type} {enc : TypeId × Value → H} {W : World} {fuel : Nat} {v : Value} {x : DataW H × List MemPlace} (h : DataW.trod enc Tryz.prog W 0 (fun _ => true) true fuel 22 [v] = some x) :
    ∃ ts, Claims (fun _ => True) W v ts := by
  have hC : Tryz.prog.cellsOf 45 = 5 := by kernel_rfl
  rcases Deep.open_slice Tryz.underlying22 h with ⟨hcs, _⟩ | ⟨a, len, cap, m, n, D, Pl, hcs, _, hl, hm, hmm, _, hel⟩
  · simp at hcs
    subst hcs
    exact ⟨[], Claims.nil _ _⟩
  · simp at hcs hmm
    subst hcs hmm
    rw [hC] at hel
    have hel2 : ∀ i, i < len → ∃ q : Row5 × Claim, (W.cell? (a.add (i * 5)) = some q.1.1 ∧ W.cell? ((a.add (i * 5)).add 1) = some q.1.2.1 ∧ W.cell? ((a.add (i * 5)).add 2) = some q.1.2.2.1 ∧ W.cell? ((a.add (i * 5)).add 3) = some q.1.2.2.2.1 ∧ W.cell? ((a.add (i * 5)).add 4) = some q.1.2.2.2.2) ∧ ClaimV (fun _ => True) W q.1 q.2 := by
      intro i hi
      obtain ⟨cs, h1, h2⟩ := hel i (by omega)
      obtain ⟨_, hlen, hcell⟩ := World.cells?_some h1
      obtain ⟨v0, v1, v2, v3, v4, rfl⟩ := list5 hlen
      obtain ⟨c, hc⟩ := trod_claim h2
      have k0 := hcell 0 (by omega)
      have k1 := hcell 1 (by omega)
      have k2 := hcell 2 (by omega)
      have k3 := hcell 3 (by omega)
      have k4 := hcell 4 (by omega)
      rw [show (a.add (i * 5)).add 0 = a.add (i * 5) from by simp [Addr.add]] at k0
      exact ⟨((v0, v1, v2, v3, v4), c), ⟨k0, k1, k2, k3, k4⟩, hc⟩
    obtain ⟨b, off, spot⟩ := a
    by_cases h0 : len = 0
    · subst h0
      exact ⟨[], [], ⟨_, _, rfl, by simp, by simp⟩, rfl, by simp⟩
    have hsp : spot = none := by
      obtain ⟨_, k0, _⟩ := hel2 0 (by omega)
      simpa [Addr.add] using World.cell?_spot k0.1
    subst hsp
    simp only [add_off] at hel2
    obtain ⟨f, hf⟩ := Deep.choose_lt (α := Row5 × Claim) (n := len) (p := fun i q => (W.cell? ⟨b, off + i * 5, none⟩ = some q.1.1 ∧ W.cell? ⟨b, off + i * 5 + 1, none⟩ = some q.1.2.1 ∧ W.cell? ⟨b, off + i * 5 + 2, none⟩ = some q.1.2.2.1 ∧ W.cell? ⟨b, off + i * 5 + 3, none⟩ = some q.1.2.2.2.1 ∧ W.cell? ⟨b, off + i * 5 + 4, none⟩ = some q.1.2.2.2.2) ∧ ClaimV (fun _ => True) W q.1 q.2) hel2
    refine ⟨(List.range len).map fun i => (f i).2, (List.range len).map fun i => (f i).1, ⟨some ⟨b, off, none⟩, _, by simp; rfl, by simp; unfold maxLen at hm; omega, fun j u hu => ?_⟩, by simp, fun j u p hu hp => ?_⟩
    · by_cases hj : j < len
      · simp [hj] at hu
        subst hu
        obtain ⟨⟨g1, g2, g3, g4, g5⟩, _⟩ := hf j hj
        exact ⟨b, off, rfl, trivial, g1, g2, g3, g4, g5⟩
      · simp [hj] at hu
    · by_cases hj : j < len
      · simp [hj] at hu hp
        subst hu hp
        exact (hf j hj).2
      · simp [hj] at hu
set_option maxRecDepth 100000 in
/-- the argument of the statements: a trace -/
theorem open_trace {H : Type} {enc : TypeId × Value → H} {W : World} {v : Value} {d : DataW H} {p : List MemPlace} {base : Nat} (hv : Value.okWide Tryz.prog W .any base 24 v) (h : DataW.Trod enc Tryz.prog W 0 (fun _ => true) true 24 v d p) :
    ∃ (tv : Value) (ts : List Claim), v = .agg #[tv] ∧ Claims (fun _ => True) W tv ts := by
  have c1 : Tryz.prog.cellsOf 22 = 1 := by kernel_rfl
  obtain ⟨cs, rfl, hsz⟩ := okWide_struct Tryz.underlying24 hv
  obtain ⟨fuel, hf⟩ := h
  obtain ⟨y0, n, hx, hlen, h0⟩ := trod_struct1 Tryz.underlying24 hf
  have hsz : cs.size = 1 := hsz.trans (by kernel_rfl)
  obtain ⟨l⟩ := cs
  match l, hsz with
  | [c0], _ =>
    simp [Value.cells, c1] at h0
    obtain ⟨ts, hts⟩ := open_claimsv h0
    exact ⟨c0, ts, rfl, hts⟩
end Go.Proofs.YtljaegmmfjllkaaGreatDoor
