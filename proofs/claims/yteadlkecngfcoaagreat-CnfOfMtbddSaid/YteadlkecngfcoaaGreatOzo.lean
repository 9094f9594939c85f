/- From the statement's reading of a diagram with leaves and of the words to the predicates of the walks. -/
import Derived.Test.YteadlkecngfcoaaGreatRo
import Derived.Test.YteadlkecngfcoaaGreatQa
import Derived.Test.YteadlkecngfcoaaGreatOs
namespace Go.Proofs.YteadlkecngfcoaaGreat
open Go.ChangeShapes Go.WideShapes Go.ChangeAt Go.RowKit
set_option linter.unusedVariables false

theorem list3 {α : Type} {cs : List α} (h : cs.length = 3) : ∃ a b c, cs = [a, b, c] := by
  match cs, h with
  | [a, b, c], _ => exact ⟨a, b, c, rfl⟩

set_option maxRecDepth 100000 in
theorem open_forksv {H : Type} {enc : TypeId × Value → H} {W : World} {fuel : Nat} {v : Value} {x : DataW H × List MemPlace} (h : DataW.trod enc Tryz.prog W 0 (fun _ => true) true fuel 23 [v] = some x) :
    ∃ ns, Forks (fun _ => True) W v ns ∧ ∀ a n c, v = .slice a n c → n ≤ c := by
  have hC : Tryz.prog.cellsOf 49 = 3 := by kernel_rfl
  have c2 : Tryz.prog.cellsOf 3 = 1 := by kernel_rfl
  rcases Deep.open_slice Tryz.underlying23 h with ⟨hcs, _⟩ | ⟨a, len, cap, m, n, D, Pl, hcs, _, hl, hm, hmm, _, hel⟩
  · simp at hcs
    subst hcs
    exact ⟨[], ⟨⟨none, 0, by simp, by simp, by simp⟩, by simp⟩, fun a n c e => by cases e; exact Nat.le_refl _⟩
  · simp at hcs hmm
    subst hcs hmm
    rw [hC] at hel
    have hel2 : ∀ i, i < len → ∃ q : Fork, W.cell? (a.add (i * 3)) = some (.int .i64 q.1) ∧ W.cell? ((a.add (i * 3)).add 1) = some (.int .i64 q.2.1) ∧ W.cell? ((a.add (i * 3)).add 2) = some (.int .i64 q.2.2) ∧ ForkOk q := by
      intro i hi
      obtain ⟨cs, h1, h2⟩ := hel i (by omega)
      obtain ⟨_, hlen, hcell⟩ := World.cells?_some h1
      obtain ⟨y0, y1, y2, q, _, _, t0, t1, t2⟩ := Deep.trod_struct3 Tryz.underlying49 h2
      obtain ⟨v0, v1, v2, rfl⟩ := list3 hlen
      · simp only [c2] at t0 t1 t2
        obtain ⟨kd, e0, _, w0⟩ := DataW.trod_int Tryz.underlying3 (by simpa using t0)
        obtain ⟨lt, e1, _, w1⟩ := DataW.trod_int Tryz.underlying3 (by simpa using t1)
        obtain ⟨hg, e2, _, w2⟩ := DataW.trod_int Tryz.underlying3 (by simpa using t2)
        simp at e0 e1 e2
        subst e0 e1 e2
        have k0 := hcell 0 (by omega)
        have k1 := hcell 1 (by omega)
        have k2 := hcell 2 (by omega)
        rw [show (a.add (i * 3)).add 0 = a.add (i * 3) from by simp [Addr.add]] at k0
        exact ⟨(kd, lt, hg), k0, k1, k2, wf_I64 w0, wf_I64 w1, wf_I64 w2⟩
    obtain ⟨b, off, spot⟩ := a
    have hcp : ∀ a n c, Value.slice (some ⟨b, off, spot⟩) len m = .slice a n c → n ≤ c := fun a n c e => by cases e; exact hl
    by_cases h0 : len = 0
    · subst h0
      exact ⟨[], ⟨⟨_, _, rfl, by simp, by simp⟩, by simp⟩, hcp⟩
    have hsp : spot = none := by
      obtain ⟨_, k0, _⟩ := hel2 0 (by omega)
      simpa [Addr.add] using World.cell?_spot k0
    subst hsp
    simp only [add_off] at hel2
    obtain ⟨f, hf⟩ := Deep.choose_lt (α := Fork) (n := len) (p := fun i q => W.cell? ⟨b, off + i * 3, none⟩ = some (.int .i64 q.1) ∧ W.cell? ⟨b, off + i * 3 + 1, none⟩ = some (.int .i64 q.2.1) ∧ W.cell? ⟨b, off + i * 3 + 2, none⟩ = some (.int .i64 q.2.2) ∧ ForkOk q) hel2
    refine ⟨(List.range len).map f, ⟨⟨some ⟨b, off, none⟩, _, by simp; rfl, by simp; unfold maxLen at hm; omega, fun j u hu => ?_⟩, fun q hq => ?_⟩, hcp⟩
    · by_cases hj : j < len
      · simp [hj] at hu
        subst hu
        obtain ⟨g1, g2, g3, _⟩ := hf j hj
        exact ⟨b, off, rfl, trivial, g1, g2, g3⟩
      · simp [hj] at hu
    · obtain ⟨j, hj, rfl⟩ := List.mem_map.1 hq
      exact (hf j (List.mem_range.1 hj)).2.2.2

set_option maxRecDepth 100000 in
/-- the argument of the statements: a diagram -/
theorem open_bdd {H : Type} {enc : TypeId × Value → H} {W : World} {v : Value} {d : DataW H} {p : List MemPlace} {base : Nat} (hv : Value.okWide Tryz.prog W .any base 51 v) (h : DataW.Trod enc Tryz.prog W 0 (fun _ => true) true 51 v d p) :
    ∃ (vars root : Int) (nv : Value) (ns : List Fork), v = .agg #[.int .i64 vars, nv, .int .i64 root] ∧ I64 vars ∧ I64 root ∧ Forks (fun _ => True) W nv ns ∧ ∀ a n c, nv = .slice a n c → n ≤ c := by
  obtain ⟨c0, c1, c2, y0, y1, y2, m, rfl, _, _, h0, h1, h2⟩ := Joins.open_agg3 Tryz.underlying51 (by kernel_rfl) (by kernel_rfl) hv h
  obtain ⟨vars, e0, _, w0⟩ := DataW.trod_int Tryz.underlying3 h0
  obtain ⟨root, e1, _, w1⟩ := DataW.trod_int Tryz.underlying3 h2
  simp at e0 e1
  subst e0 e1
  obtain ⟨ns, hns, hc⟩ := open_forksv h1
  exact ⟨vars, root, c1, ns, rfl, wf_I64 w0, wf_I64 w1, hns, hc⟩

set_option maxRecDepth 100000 in
theorem open_wdsv {H : Type} {enc : TypeId × Value → H} {W : World} {fuel : Nat} {v : Value} {x : DataW H × List MemPlace} (h : DataW.trod enc Tryz.prog W 0 (fun _ => true) true fuel 26 [v] = some x) :
    ∃ cs, Wds (fun _ => True) W v cs := by
  rcases Deep.open_slice1 Tryz.underlying26 (by kernel_rfl) h with ⟨hcs, _⟩ | ⟨a, len, cap, m, n, V, D, Pl, hcs, _, hl, hm, hmm, _, hel⟩
  · simp at hcs
    subst hcs
    exact ⟨[], Rows1.nil _ _⟩
  · simp at hcs hmm
    subst hcs hmm
    have hel2 : ∀ i, i < len → ∃ q : Value × List Bool, W.cell? (a.add i) = some q.1 ∧ Bools (fun _ => True) W q.1 q.2 := by
      intro i hi
      obtain ⟨h1, h2⟩ := hel i (by omega)
      obtain ⟨xs, hxs⟩ := open_boolsv h2
      exact ⟨(_, xs), h1, hxs⟩
    obtain ⟨b, off, spot⟩ := a
    by_cases h0 : len = 0
    · subst h0
      exact ⟨[], [], ⟨_, _, rfl, by simp, by simp⟩, rfl, by simp⟩
    have hsp : spot = none := by
      obtain ⟨_, k0, _⟩ := hel2 0 (by omega)
      simpa [Addr.add] using World.cell?_spot k0
    subst hsp
    simp only [add_off] at hel2
    obtain ⟨f, hf⟩ := Deep.choose_lt (n := len) (p := fun i (q : Value × List Bool) => W.cell? ⟨b, off + i, none⟩ = some q.1 ∧ Bools (fun _ => True) W q.1 q.2) hel2
    refine ⟨(List.range len).map fun i => (f i).2, (List.range len).map fun i => (f i).1, ⟨some ⟨b, off, none⟩, _, by simp; rfl, by simp; unfold maxLen at hm; omega, fun j u hu => ?_⟩, by simp, fun j u p hu hp => ?_⟩
    · by_cases hj : j < len
      · simp [hj] at hu
        subst hu
        exact ⟨b, off, rfl, trivial, (hf j hj).1⟩
      · simp [hj] at hu
    · by_cases hj : j < len
      · simp [hj] at hu hp
        subst hu hp
        exact (hf j hj).2
      · simp [hj] at hu

set_option maxRecDepth 100000 in
/-- the argument of the statements: a diagram with leaves -/
theorem open_mtbdd {H : Type} {enc : TypeId × Value → H} {W : World} {v : Value} {d : DataW H} {p : List MemPlace} {base : Nat} (hv : Value.okWide Tryz.prog W .any base 25 v) (h : DataW.Trod enc Tryz.prog W 0 (fun _ => true) true 25 v d p) :
    ∃ (vars root : Int) (lv nv : Value) (lvs : List Int) (ns : List Fork), v = .agg #[.int .i64 vars, lv, nv, .int .i64 root] ∧ I64 vars ∧ I64 root ∧ Ints (fun _ => True) W lv lvs ∧ Forks (fun _ => True) W nv ns ∧ ∀ a n c, nv = .slice a n c → n ≤ c := by
  obtain ⟨c0, c1, c2, c3, y0, y1, y2, y3, m, rfl, _, _, h0, h1, h2, h3⟩ := Joins.open_agg4 Tryz.underlying25 (by kernel_rfl) (by kernel_rfl) hv h
  obtain ⟨vars, e0, _, w0⟩ := DataW.trod_int Tryz.underlying3 h0
  obtain ⟨root, e1, _, w1⟩ := DataW.trod_int Tryz.underlying3 h3
  simp at e0 e1
  subst e0 e1
  obtain ⟨lvs, hlv⟩ := open_intsv h1
  obtain ⟨ns, hns, hc⟩ := open_forksv h2
  exact ⟨vars, root, c1, c2, lvs, ns, rfl, wf_I64 w0, wf_I64 w1, hlv, hns, hc⟩
end Go.Proofs.YteadlkecngfcoaaGreat
