/- Walk: cnf.OfBdd. No condition. -/
import Derived.Test.YteadlkecngfcoaaGreatQg
import Derived.Test.YteadlkecngfcoaaGreatQy
namespace Go.Proofs.YteadlkecngfcoaaGreat
open Go.ChangeShapes Go.WideShapes Go.ChangeAt Go.RowKit
set_option linter.unusedVariables false

/-- the literal of a reference -/
def nameM (vars ref : Int) : Int := if ref = 0 then -20001 else if ref = 1 then 20001 else vars + ref - 1
def node4 (a x lo hi : Int) : List (List Int) := addM [-a, -x, hi] ++ (addM [-a, x, lo] ++ (addM [-hi, -x, a] ++ addM [-lo, x, a]))
def nodesC (vars : Int) : List Fork → Nat → List (List Int)
  | [], _ => []
  | f :: r, i => node4 (vars + i + 1) (f.1 + 1) (nameM vars f.2.1) (nameM vars f.2.2) ++ nodesC vars r (i + 1)
/-- OfBdd's clauses -/
def bddC (vars root : Int) (ns : List Fork) : List (List Int) := nodesC vars ns 0 ++ addM [nameM vars root]
def ofBddM (vars root : Int) (ns : List Fork) : Int := if bddM vars root ns ≠ 0 then bddM vars root ns else makeM (vars + ns.length) vars (bddC vars root ns)
def OfPost (W : World) (vars root : Int) (ns : List Fork) (e : Ending) (w' : World) : Prop :=
  ∃ v, e = .returned (.tuple #[v, .int .i64 (ofBddM vars root ns)]) ∧ Below W.heap.size W w' ∧ (ofBddM vars root ns ≠ 0 → v = .agg #[.int .i64 0, .int .i64 0, .slice none 0 0]) ∧
    (ofBddM vars root ns = 0 → ∃ cv, v = .agg #[.int .i64 (vars + ns.length), .int .i64 vars, cv] ∧ Clss (fun b => W.heap.size ≤ b) w' cv (canM (bddC vars root ns)))
theorem addM_len (l : List Int) : (addM l).length ≤ 1 := by
  unfold addM
  split <;> simp
theorem addM_each {l c : List Int} (h : c ∈ addM l) : c.length ≤ l.length := by
  unfold addM at h
  split at h
  · cases h
  · rename_i d hd
    rw [List.mem_singleton] at h
    subst h
    have := addGo_len _ _ _ hd
    simpa using this
theorem node4_len (a x lo hi : Int) : (node4 a x lo hi).length ≤ 4 := by
  have h1 := addM_len [-a, -x, hi]
  have h2 := addM_len [-a, x, lo]
  have h3 := addM_len [-hi, -x, a]
  have h4 := addM_len [-lo, x, a]
  unfold node4
  simp only [List.length_append]
  omega
theorem node4_each {a x lo hi : Int} {c : List Int} (h : c ∈ node4 a x lo hi) : c.length ≤ 3 := by
  unfold node4 at h
  simp only [List.mem_append] at h
  rcases h with h | h | h | h <;> exact addM_each h
theorem nodesC_len (vars : Int) : ∀ (ns : List Fork) (i : Nat), (nodesC vars ns i).length ≤ 4 * ns.length
  | [], _ => by simp [nodesC]
  | f :: r, i => by
    have h1 := node4_len (vars + i + 1) (f.1 + 1) (nameM vars f.2.1) (nameM vars f.2.2)
    have h2 := nodesC_len vars r (i + 1)
    rw [nodesC, List.length_append, List.length_cons]
    omega
theorem nodesC_each (vars : Int) : ∀ (ns : List Fork) (i : Nat) (c : List Int), c ∈ nodesC vars ns i → c.length ≤ 3
  | [], _, c, h => by cases h
  | f :: r, i, c, h => by
    rw [nodesC] at h
    rcases List.mem_append.1 h with h | h
    · exact node4_each h
    · exact nodesC_each vars r (i + 1) c h
theorem bddC_len (vars root : Int) (ns : List Fork) : (bddC vars root ns).length ≤ 4 * ns.length + 1 := by
  have := nodesC_len vars ns 0
  have := addM_len [nameM vars root]
  unfold bddC
  rw [List.length_append]
  omega
theorem bddC_each (vars root : Int) (ns : List Fork) : ∀ c ∈ bddC vars root ns, c.length ≤ 16777216 := fun c h => by
  unfold bddC at h
  rcases List.mem_append.1 h with h | h
  · exact Nat.le_trans (nodesC_each vars ns 0 c h) (by decide)
  · exact Nat.le_trans (addM_each h) (by simp)
theorem name_any (bb : Nat) (vars ref : Int) (w : World) (hc : w.cell? ⟨bb, 0, none⟩ = some (.int .i64 vars)) (hv : 0 ≤ vars ∧ vars ≤ 40) (hr : 0 ≤ ref ∧ ref ≤ 100000) :
    Calls Tryz.prog 36 #[.int .i64 ref, .pointer (some ⟨bb, 0, none⟩)] w fun e w' => e = .returned (.int .i64 (nameM vars ref)) ∧ w' = w := by
  by_cases h0 : ref = 0
  · have HF : Hid (nameM vars ref = -20001) := Lib.hid (by rw [nameM, if_pos h0])
    have hd : (ref == 0) = true := by simp [h0]
    clear h0
    go_enter Tryz.func36, Tryz.ntmps36
    go_wp2
    go_ret
    exact ⟨by rw [HF.out]; rfl, rfl⟩
  have hd : (ref == 0) = false := by simp [h0]
  by_cases h1 : ref = 1
  · have HF : Hid (nameM vars ref = 20001) := Lib.hid (by rw [nameM, if_neg h0, if_pos h1])
    have hd1 : (ref == 1) = true := by simp [h1]
    clear h0 h1
    go_enter Tryz.func36, Tryz.ntmps36
    go_wp2
    go_ret
    exact ⟨by rw [HF.out]; rfl, rfl⟩
  have hd1 : (ref == 1) = false := by simp [h1]
  have HF : Hid (nameM vars ref = vars + ref - 1) := Lib.hid (by rw [nameM, if_neg h0, if_neg h1])
  have hw1 : IntKind.i64.wrap (vars + ref) = vars + ref := IntWalk.i64_in _ ⟨by omega, by omega⟩
  have hw2 : IntKind.i64.wrap (vars + ref - 1) = vars + ref - 1 := IntWalk.i64_in _ ⟨by omega, by omega⟩
  clear h0 h1
  go_enter Tryz.func36, Tryz.ntmps36
  go_wp2
  go_ret
  exact ⟨by rw [HF.out]; rfl, rfl⟩
theorem nameM_range {vars ref : Int} (hv : 0 ≤ vars ∧ vars ≤ 40) (hr : 0 ≤ ref ∧ ref ≤ 100000) : -200000 ≤ nameM vars ref ∧ nameM vars ref ≤ 200000 := by
  unfold nameM
  split
  · omega
  split <;> omega
end Go.Proofs.YteadlkecngfcoaaGreat
