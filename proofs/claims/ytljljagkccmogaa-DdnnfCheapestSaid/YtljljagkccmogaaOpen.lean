/- From the statement's reading of the arguments to the predicates of the walks. -/
import Derived.Test.YtljljagkccmogaaChecked
import Derived.Test.YtljljagkccmogaaDd
import Derived.Deep.Slices
import Derived.Deep.Strs
import Derived.Lib.SmallJoins
namespace Go.Proofs.Ytljljagkccmogaa
open Go.ChangeShapes Go.WideShapes Go.ChangeAt Go.RowKit
set_option linter.unusedVariables false

theorem wf_I64 {n : Int} (h : (Lit.int .i64 n).wf = true) : I64 n := by
  simp [Lit.wf, IntKind.min, IntKind.max, IntKind.signed, IntKind.bits] at h
  unfold I64
  omega
theorem add_off {b off : Nat} {n : Nat} : (⟨b, off, none⟩ : Addr).add n = ⟨b, off + n, none⟩ := by
  unfold Addr.add; split <;> simp_all

theorem open_intsv {H : Type} {enc : TypeId × Value → H} {W : World} {fuel : Nat} {v : Value} {x : DataW H × List MemPlace} (h : DataW.trod enc Try.prog W 0 (fun _ => true) true fuel 35 [v] = some x) :
    ∃ xs, Ints (fun _ => True) W v xs := by
  rcases open_ints Try.underlying35 Try.underlying3 (by kernel_rfl) h with ⟨hcs, _⟩ | ⟨a, l, c, zs, hcs, _, hl, hm, hz, _, hcell, hwz⟩
  · simp at hcs
    subst hcs
    exact ⟨[], Ints.nil _ _⟩
  · simp at hcs hz
    subst hcs
    have hlz : (zs.take l).length = l := by simp; omega
    refine ⟨zs.take l, ⟨some a, c, by simp; omega, by simp; unfold maxLen at hm; omega, fun j u hu => ?_⟩, fun n hn => wf_I64 (hwz n (List.mem_of_mem_take hn))⟩
    rw [List.getElem?_map, List.getElem?_take] at hu
    by_cases hj : j < l
    · rw [if_pos hj] at hu
      have hjz : j < zs.length := by omega
      rw [List.getElem?_eq_getElem hjz] at hu
      simp at hu
      have hc := hcell j hjz
      obtain ⟨b, off, spot⟩ := a
      have hsp : spot = none := by
        have := World.cell?_spot (hcell 0 (by omega))
        simpa [Addr.add] using this
      subst hsp
      rw [add_off] at hc
      refine ⟨b, off, rfl, trivial, ?_⟩
      rw [hc, ← hu]
      simp [List.getD, List.getElem?_eq_getElem hjz]
    · rw [if_neg hj] at hu; simp at hu

theorem list3 {α : Type} {cs : List α} (h : cs.length = 3) : ∃ a b c, cs = [a, b, c] := by
  match cs, h with
  | [a, b, c], _ => exact ⟨a, b, c, rfl⟩

set_option maxRecDepth 100000 in
theorem open_partsv {H : Type} {enc : TypeId × Value → H} {W : World} {fuel : Nat} {v : Value} {x : DataW H × List MemPlace} (h : DataW.trod enc Try.prog W 0 (fun _ => true) true fuel 22 [v] = some x) :
    ∃ ps, Parts (fun _ => True) W v ps := by
  have hC : Try.prog.cellsOf 61 = 3 := by kernel_rfl
  have c1 : Try.prog.cellsOf 59 = 1 := by kernel_rfl
  have c2 : Try.prog.cellsOf 3 = 1 := by kernel_rfl
  have c3 : Try.prog.cellsOf 35 = 1 := by kernel_rfl
  rcases Deep.open_slice Try.underlying22 h with ⟨hcs, _⟩ | ⟨a, len, cap, m, n, D, Pl, hcs, _, hl, hm, hmm, _, hel⟩
  · simp at hcs
    subst hcs
    exact ⟨[], Parts.nil _ _⟩
  · simp at hcs hmm
    subst hcs hmm
    rw [hC] at hel
    have hel2 : ∀ i, i < len → ∃ (kd lt : Int) (kv : Value) (xs : List Int), W.cell? (a.add (i * 3)) = some (.int .i64 kd) ∧ W.cell? ((a.add (i * 3)).add 1) = some (.int .i64 lt) ∧ W.cell? ((a.add (i * 3)).add 2) = some kv ∧
        Ints (fun _ => True) W kv xs ∧ I64 kd ∧ I64 lt := by
      intro i hi
      obtain ⟨cs, h1, h2⟩ := hel i (by omega)
      obtain ⟨_, hlen, hcell⟩ := World.cells?_some h1
      obtain ⟨y0, y1, y2, q, _, _, t0, t1, t2⟩ := Deep.trod_struct3 Try.underlying61 h2
      obtain ⟨v0, v1, v2, rfl⟩ := list3 hlen
      · simp only [c1, c2, c3] at t0 t1 t2
        obtain ⟨kd, e0, _, w0⟩ := DataW.trod_int Try.underlying59 (by simpa using t0)
        obtain ⟨lt, e1, _, w1⟩ := DataW.trod_int Try.underlying3 (by simpa using t1)
        obtain ⟨xs, hxs⟩ := open_intsv (v := v2) (by simpa using t2)
        simp at e0 e1
        subst e0 e1
        have k0 := hcell 0 (by omega)
        have k1 := hcell 1 (by omega)
        have k2 := hcell 2 (by omega)
        rw [show (a.add (i * 3)).add 0 = a.add (i * 3) from by simp [Addr.add]] at k0
        exact ⟨kd, lt, v2, xs, k0, k1, k2, hxs, wf_I64 w0, wf_I64 w1⟩
    obtain ⟨b, off, spot⟩ := a
    by_cases h0 : len = 0
    · subst h0
      exact ⟨[], [], ⟨_, _, rfl, by simp, by simp⟩, rfl, by simp⟩
    have hsp : spot = none := by
      obtain ⟨_, _, _, _, k0, _⟩ := hel2 0 (by omega)
      simpa [Addr.add] using World.cell?_spot k0
    subst hsp
    simp only [add_off] at hel2
    obtain ⟨f, hf⟩ := Deep.choose_lt (α := Int × Int × Value × List Int) (n := len) (p := fun i q => W.cell? ⟨b, off + i * 3, none⟩ = some (.int .i64 q.1) ∧ W.cell? ⟨b, off + i * 3 + 1, none⟩ = some (.int .i64 q.2.1) ∧ W.cell? ⟨b, off + i * 3 + 2, none⟩ = some q.2.2.1 ∧
      Ints (fun _ => True) W q.2.2.1 q.2.2.2 ∧ I64 q.1 ∧ I64 q.2.1) (fun i hi => by
        obtain ⟨kd, lt, kv, xs, hh⟩ := hel2 i hi
        exact ⟨(kd, lt, kv, xs), hh⟩)
    refine ⟨(List.range len).map fun i => ⟨(f i).1, (f i).2.1, (f i).2.2.2⟩, (List.range len).map fun i => (.int .i64 (f i).1, .int .i64 (f i).2.1, (f i).2.2.1),
      ⟨some ⟨b, off, none⟩, _, by simp; rfl, by simp; unfold maxLen at hm; omega, fun j u hu => ?_⟩, by simp, fun j u p hu hp => ?_⟩
    · by_cases hj : j < len
      · simp [hj] at hu
        subst hu
        obtain ⟨g1, g2, g3, _⟩ := hf j hj
        exact ⟨b, off, rfl, trivial, g1, g2, g3⟩
      · simp [hj] at hu
    · by_cases hj : j < len
      · simp [hj] at hu hp
        subst hu hp
        obtain ⟨_, _, _, g4, g5, g6⟩ := hf j hj
        exact ⟨rfl, rfl, g4, g5, g6⟩
      · simp [hj] at hu

set_option maxRecDepth 100000 in
/-- the argument of the statements: a normal form -/
theorem open_dnnf {H : Type} {enc : TypeId × Value → H} {W : World} {v : Value} {d : DataW H} {p : List MemPlace} {base : Nat} (hv : Value.okWide Try.prog W .any base 24 v) (h : DataW.Trod enc Try.prog W 0 (fun _ => true) true 24 v d p) :
    ∃ (vars : Int) (pv : Value) (ps : List Part), v = .agg #[.int .i64 vars, pv] ∧ I64 vars ∧ Parts (fun _ => True) W pv ps := by
  obtain ⟨c0, c1, y0, y1, m, rfl, _, _, h0, h1⟩ := Joins.open_agg2 Try.underlying24 (by kernel_rfl) (by kernel_rfl) hv h
  obtain ⟨vars, e0, _, w0⟩ := DataW.trod_int Try.underlying3 h0
  simp at e0
  subst e0
  obtain ⟨ps, hps⟩ := open_partsv h1
  exact ⟨vars, c1, ps, rfl, wf_I64 w0, hps⟩

set_option maxRecDepth 100000 in
theorem open_boolsv {H : Type} {enc : TypeId × Value → H} {W : World} {fuel : Nat} {v : Value} {x : DataW H × List MemPlace} (h : DataW.trod enc Try.prog W 0 (fun _ => true) true fuel 29 [v] = some x) :
    ∃ xs, Bools (fun _ => True) W v xs := by
  rcases Deep.open_slice1 Try.underlying29 (by kernel_rfl) h with ⟨hcs, _⟩ | ⟨a, len, cap, m, n, V, D, Pl, hcs, _, hl, hm, hmm, _, hel⟩
  · simp at hcs
    subst hcs
    exact ⟨[], Bools.nil _ _⟩
  · simp at hcs hmm
    subst hcs hmm
    have hel2 : ∀ i, i < len → ∃ b : Bool, W.cell? (a.add i) = some (.bool b) := by
      intro i hi
      obtain ⟨h1, h2⟩ := hel i (by omega)
      obtain ⟨b, hb, _⟩ := DataW.trod_bool Try.underlying4 h2
      simp at hb
      exact ⟨b, by rw [h1, hb]⟩
    obtain ⟨b, off, spot⟩ := a
    by_cases h0 : len = 0
    · subst h0
      exact ⟨[], _, _, rfl, by simp, by simp⟩
    have hsp : spot = none := by
      obtain ⟨_, k0⟩ := hel2 0 (by omega)
      simpa [Addr.add] using World.cell?_spot k0
    subst hsp
    simp only [add_off] at hel2
    obtain ⟨f, hf⟩ := Deep.choose_lt (n := len) (p := fun i (q : Bool) => W.cell? ⟨b, off + i, none⟩ = some (.bool q)) hel2
    refine ⟨(List.range len).map f, some ⟨b, off, none⟩, _, by simp; rfl, by simp; unfold maxLen at hm; omega, fun j u hu => ?_⟩
    by_cases hj : j < len
    · simp [hj] at hu
      subst hu
      exact ⟨b, off, rfl, trivial, hf j hj⟩
    · simp [hj] at hu
end Go.Proofs.Ytljljagkccmogaa
