/- Diagrams: the data as plain Lean, readings, a fork as a map's key; walk: bdd.level. No condition but that the reference is one. -/
import Derived.Test.YteadlkecngfcoaaGreatQ9
import Derived.Maps.OwnSet
import Derived.DeepKeys4
namespace Go.Proofs.YteadlkecngfcoaaGreat
open Go.ChangeShapes Go.WideShapes Go.ChangeAt Go.RowKit
set_option linter.unusedVariables false

/-- variable, low, high -/
abbrev Fork := Int × Int × Int
def forkC (f : Fork) : Value × Value × Value := (.int .i64 f.1, .int .i64 f.2.1, .int .i64 f.2.2)
def forkA (f : Fork) : Value := .agg #[.int .i64 f.1, .int .i64 f.2.1, .int .i64 f.2.2]
def ForkOk (f : Fork) : Prop := I64 f.1 ∧ I64 f.2.1 ∧ I64 f.2.2
/-- a slice of forks -/
def Forks (F : Nat → Prop) (w : World) (v : Value) (ns : List Fork) : Prop := Sl3 F w v (ns.map forkC) ∧ ∀ n ∈ ns, ForkOk n
section forks
variable {F G : Nat → Prop} {w w' : World} {v : Value} {ns : List Fork}
theorem Forks.mono (h : Forks F w v ns) (hg : ∀ b, F b → G b) : Forks G w v ns := ⟨h.1.mono hg, h.2⟩
theorem Forks.move (h : Forks F w v ns) (hm : ∀ b, F b → b < w.heap.size → w'.heap[b]? = w.heap[b]?) : Forks F w' v ns := ⟨h.1.move hm, h.2⟩
theorem Forks.below (h : Forks F w v ns) (hb : Below w.heap.size w w') : Forks F w' v ns := ⟨h.1.below hb, h.2⟩
theorem Forks.form (h : Forks F w v ns) : ∃ a n c, v = .slice a n c ∧ Hid (n = ns.length) ∧ n ≤ 9223372036854775807 := by
  obtain ⟨a, c, h1, h2⟩ := h.1.form
  rw [List.length_map] at h1 h2
  exact ⟨a, _, c, h1, rfl, h2⟩
theorem Forks.at {a : Option Addr} {n c k : Nat} {f : Fork} (h : Forks F w (.slice a n c) ns) (hf : ns[k]? = some f) : ∃ b off, a = some ⟨b, off, none⟩ ∧ F b ∧ b < w.heap.size ∧
    w.cell? ⟨b, off + k * 3, none⟩ = some (.int .i64 f.1) ∧ w.cell? ⟨b, off + k * 3 + 1, none⟩ = some (.int .i64 f.2.1) ∧ w.cell? ⟨b, off + k * 3 + 2, none⟩ = some (.int .i64 f.2.2) ∧ ForkOk f := by
  obtain ⟨b, off, h1, h2, h3, h4, h5, h6⟩ := h.1.at (k := k) (u := forkC f) (by rw [List.getElem?_map, hf]; rfl)
  exact ⟨b, off, h1, h2, h3, h4, h5, h6, h.2 f (List.mem_of_getElem? hf)⟩
end forks

/-- the level of a reference -/
def lvlM (vars : Int) (ns : List Fork) (ref : Int) : Int := if ref < 2 then vars else match ns[(ref - 2).toNat]? with | some f => f.1 | none => 0
def boxB (vars root : Int) (nv : Value) : Obj := .cells #[.int .i64 vars, nv, .int .i64 root] 51
set_option maxHeartbeats 1000000 in
theorem level_any (F : Nat → Prop) (vars root ref : Int) (nv : Value) (ns : List Fork) (w : World) (hx : Forks F w nv ns) (hr : ref < 2 + ns.length) (hi : I64 ref) :
    Calls Tryz.prog 74 #[.agg #[.int .i64 vars, nv, .int .i64 root], .int .i64 ref] w fun e w' => e = .returned (.int .i64 (lvlM vars ns ref)) ∧ w' = w.alloc (boxB vars root nv) := by
  obtain ⟨a, n, c, rfl, HN, hn⟩ := hx.form
  obtain ⟨h1, h2⟩ := hi
  by_cases h : ref < 2
  · have HF : Hid (lvlM vars ns ref = vars) := Lib.hid (by rw [lvlM, if_pos h])
    have hd : decide (ref < 2) = true := decide_eq_true h
    unfold boxB
    go_enter Tryz.func74, Tryz.ntmps74
    go_wp2
    go_ret
    exact ⟨by rw [HF.out]; rfl, rfl⟩
  · obtain ⟨k, hk⟩ : ∃ k : Nat, (ref - 2).toNat = k := ⟨_, rfl⟩
    have hkr : ref = k + 2 := by omega
    obtain ⟨f, hf⟩ : ∃ f, ns[k]? = some f := ⟨_, List.getElem?_eq_getElem (by omega)⟩
    have HF : Hid (lvlM vars ns ref = f.1) := Lib.hid (by rw [lvlM, if_neg h, hk, hf])
    have hd : decide (ref < 2) = false := decide_eq_false h
    obtain ⟨b, off, rfl, _, hb, c0, c1, c2, _⟩ := hx.at hf
    have hw : IntKind.i64.wrap (ref - 2) = (k : Int) := by rw [IntWalk.i64_in _ ⟨by omega, by omega⟩]; omega
    have hw0 : wrap64 (ref - 2) = (k : Int) := by rw [IntWalk.wrap64_in _ ⟨by omega, by omega⟩]; omega
    have hkn : k < n := by have := HN.out; omega
    have hk0 : (0 : Int) ≤ k := by omega
    have hk1 : (k : Int) < n := by omega
    have HX := Lib.hid hf
    clear hf hx h hk hkr
    unfold boxB
    go_enter Tryz.func74, Tryz.ntmps74
    go_wp2
    go_ret
    exact ⟨by rw [HF.out]; rfl, rfl⟩

/-! ### a fork as a map's key -/
theorem fork_law : Maps.Keyed Tryz.prog 49 := Maps.Keyed.of_law (deep_law_laid (m := 2) (by kernel_rfl) (by omega) (of_decide_eq_true (by kernel_rfl)) (by kernel_rfl) (by kernel_rfl))
def forkL (f : Fork) : Lit := .string (keyBytes [.int .i64 f.1, .int .i64 f.2.1, .int .i64 f.2.2])
theorem keyOf_fork {f : Fork} (h : ForkOk f) : keyOf Tryz.prog 49 (forkA f) = some (forkL f) := by
  have h1 := I64_wf h.1
  have h2 := I64_wf h.2.1
  have h3 := I64_wf h.2.2
  have hu := Tryz.underlying49
  have hi := Tryz.underlying3
  have hk : Tryz.prog.keyType 49 = true := by kernel_rfl
  have hf : (forkA f).formed Tryz.prog 49 = true := by
    have : Tryz.prog.cellsOf 49 = 3 := by kernel_rfl
    simp [forkA, Value.formed, hu, this]
  have hc : Tryz.prog.cellsOf 3 = 1 := by kernel_rfl
  obtain ⟨m, hm⟩ : ∃ m, Tryz.prog.types.size = m + 1 := ⟨_, (by kernel_rfl : Tryz.prog.types.size = Tryz.prog.types.size - 1 + 1)⟩
  unfold keyOf
  simp only [hu, hk, hf, hm, Bool.and_self, if_true]
  unfold Program.keyLits
  simp [hu, forkA, Value.cells, hc, Program.keyLits, hi, h1, h2, h3, forkL, show Tryz.prog.cellsOf 49 = 3 by kernel_rfl]
end Go.Proofs.YteadlkecngfcoaaGreat
