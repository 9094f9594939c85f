/- (Cnf seat) From the statement's reading of the arguments to the predicates of the walks. -/
import Derived.Test.YteadlkecngfcoaaGreatChecked
import Derived.Test.YteadlkecngfcoaaGreatSd
import Derived.Deep.Slices
import Derived.Deep.Strs
import Derived.Lib.SmallJoins
namespace Go.Proofs.YteadlkecngfcoaaGreat
open Go.ChangeShapes Go.WideShapes Go.ChangeAt Go.RowKit
set_option linter.unusedVariables false

theorem wf_I64 {n : Int} (h : (Lit.int .i64 n).wf = true) : I64 n := by
  simp [Lit.wf, IntKind.min, IntKind.max, IntKind.signed, IntKind.bits] at h
  unfold I64
  omega
theorem add_off {b off : Nat} {n : Nat} : (⟨b, off, none⟩ : Addr).add n = ⟨b, off + n, none⟩ := by
  unfold Addr.add; split <;> simp_all

theorem open_intsv {H : Type} {enc : TypeId × Value → H} {W : World} {fuel : Nat} {v : Value} {x : DataW H × List MemPlace} (h : DataW.trod enc Tryz.prog W 0 (fun _ => true) true fuel 22 [v] = some x) :
    ∃ xs, Ints (fun _ => True) W v xs := by
  rcases open_ints Tryz.underlying22 Tryz.underlying3 (by kernel_rfl) h with ⟨hcs, _⟩ | ⟨a, l, c, zs, hcs, _, hl, hm, hz, _, hcell, hwz⟩
  · simp at hcs
    subst hcs
    exact ⟨[], Ints.nil _ _⟩
  · simp at hcs hz
    subst hcs
    have hlz : (zs.take l).length = l := by simp; omega
    refine ⟨zs.take l, ⟨some a, c, by simp; omega, by simp; unfold maxLen at hm; omega, fun j u hu => ?_⟩, fun n hn => wf_I64 (hwz n (List.mem_of_mem_take hn))⟩
    rw [List.getElem?_map, List.getElem?_take] at hu
    by_cases hj : j < l
    · rw [if_pos hj] at hu
      have hjz : j < zs.length := by omega
      rw [List.getElem?_eq_getElem hjz] at hu
      simp at hu
      have hc := hcell j hjz
      obtain ⟨b, off, spot⟩ := a
      have hsp : spot = none := by
        have := World.cell?_spot (hcell 0 (by omega))
        simpa [Addr.add] using this
      subst hsp
      rw [add_off] at hc
      refine ⟨b, off, rfl, trivial, ?_⟩
      rw [hc, ← hu]
      simp [List.getD, List.getElem?_eq_getElem hjz]
    · rw [if_neg hj] at hu; simp at hu


set_option maxRecDepth 100000 in
theorem open_clssv {H : Type} {enc : TypeId × Value → H} {W : World} {fuel : Nat} {v : Value} {x : DataW H × List MemPlace} (h : DataW.trod enc Tryz.prog W 0 (fun _ => true) true fuel 29 [v] = some x) :
    ∃ cs, Clss (fun _ => True) W v cs := by
  rcases Deep.open_slice1 Tryz.underlying29 (by kernel_rfl) h with ⟨hcs, _⟩ | ⟨a, len, cap, m, n, V, D, Pl, hcs, _, hl, hm, hmm, _, hel⟩
  · simp at hcs
    subst hcs
    exact ⟨[], Rows1.nil _ _⟩
  · simp at hcs hmm
    subst hcs hmm
    have hel2 : ∀ i, i < len → ∃ q : Value × List Int, W.cell? (a.add i) = some q.1 ∧ Ints (fun _ => True) W q.1 q.2 := by
      intro i hi
      obtain ⟨h1, h2⟩ := hel i (by omega)
      obtain ⟨xs, hxs⟩ := open_intsv h2
      exact ⟨(_, xs), h1, hxs⟩
    obtain ⟨b, off, spot⟩ := a
    by_cases h0 : len = 0
    · subst h0
      exact ⟨[], [], ⟨_, _, rfl, by simp, by simp⟩, rfl, by simp⟩
    have hsp : spot = none := by
      obtain ⟨_, k0, _⟩ := hel2 0 (by omega)
      simpa [Addr.add] using World.cell?_spot k0
    subst hsp
    simp only [add_off] at hel2
    obtain ⟨f, hf⟩ := Deep.choose_lt (n := len) (p := fun i (q : Value × List Int) => W.cell? ⟨b, off + i, none⟩ = some q.1 ∧ Ints (fun _ => True) W q.1 q.2) hel2
    refine ⟨(List.range len).map fun i => (f i).2, (List.range len).map fun i => (f i).1, ⟨some ⟨b, off, none⟩, _, by simp; rfl, by simp; unfold maxLen at hm; omega, fun j u hu => ?_⟩, by simp, fun j u p hu hp => ?_⟩
    · by_cases hj : j < len
      · simp [hj] at hu
        subst hu
        exact ⟨b, off, rfl, trivial, (hf j hj).1⟩
      · simp [hj] at hu
    · by_cases hj : j < len
      · simp [hj] at hu hp
        subst hu hp
        exact (hf j hj).2
      · simp [hj] at hu

set_option maxRecDepth 100000 in
/-- the argument of the statements: a formula -/
theorem open_cnf {H : Type} {enc : TypeId × Value → H} {W : World} {v : Value} {d : DataW H} {p : List MemPlace} {base : Nat} (hv : Value.okWide Tryz.prog W .any base 31 v) (h : DataW.Trod enc Tryz.prog W 0 (fun _ => true) true 31 v d p) :
    ∃ (vars keep : Int) (cv : Value) (cs : List (List Int)), v = .agg #[.int .i64 vars, .int .i64 keep, cv] ∧ I64 vars ∧ I64 keep ∧ Clss (fun _ => True) W cv cs := by
  obtain ⟨c0, c1, c2, y0, y1, y2, m, rfl, _, _, h0, h1, h2⟩ := Joins.open_agg3 Tryz.underlying31 (by kernel_rfl) (by kernel_rfl) hv h
  obtain ⟨vars, e0, _, w0⟩ := DataW.trod_int Tryz.underlying3 h0
  obtain ⟨keep, e1, _, w1⟩ := DataW.trod_int Tryz.underlying3 h1
  simp at e0 e1
  subst e0 e1
  obtain ⟨cs, hcs⟩ := open_clssv h2
  exact ⟨vars, keep, c2, cs, rfl, wf_I64 w0, wf_I64 w1, hcs⟩

set_option maxRecDepth 100000 in
theorem open_boolsv {H : Type} {enc : TypeId × Value → H} {W : World} {fuel : Nat} {v : Value} {x : DataW H × List MemPlace} (h : DataW.trod enc Tryz.prog W 0 (fun _ => true) true fuel 28 [v] = some x) :
    ∃ xs, Bools (fun _ => True) W v xs := by
  rcases Deep.open_slice1 Tryz.underlying28 (by kernel_rfl) h with ⟨hcs, _⟩ | ⟨a, len, cap, m, n, V, D, Pl, hcs, _, hl, hm, hmm, _, hel⟩
  · simp at hcs
    subst hcs
    exact ⟨[], Bools.nil _ _⟩
  · simp at hcs hmm
    subst hcs hmm
    have hel2 : ∀ i, i < len → ∃ b : Bool, W.cell? (a.add i) = some (.bool b) := by
      intro i hi
      obtain ⟨h1, h2⟩ := hel i (by omega)
      obtain ⟨b, hb, _⟩ := DataW.trod_bool Tryz.underlying4 h2
      simp at hb
      exact ⟨b, by rw [h1, hb]⟩
    obtain ⟨b, off, spot⟩ := a
    by_cases h0 : len = 0
    · subst h0
      exact ⟨[], _, _, rfl, by simp, by simp⟩
    have hsp : spot = none := by
      obtain ⟨_, k0⟩ := hel2 0 (by omega)
      simpa [Addr.add] using World.cell?_spot k0
    subst hsp
    simp only [add_off] at hel2
    obtain ⟨f, hf⟩ := Deep.choose_lt (n := len) (p := fun i (q : Bool) => W.cell? ⟨b, off + i, none⟩ = some (.bool q)) hel2
    refine ⟨(List.range len).map f, some ⟨b, off, none⟩, _, by simp; rfl, by simp; unfold maxLen at hm; omega, fun j u hu => ?_⟩
    by_cases hj : j < len
    · simp [hj] at hu
      subst hu
      exact ⟨b, off, rfl, trivial, hf j hj⟩
    · simp [hj] at hu
end Go.Proofs.YteadlkecngfcoaaGreat
