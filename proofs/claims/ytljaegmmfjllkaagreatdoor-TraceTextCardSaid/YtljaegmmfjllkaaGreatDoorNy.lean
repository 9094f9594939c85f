/- (Trace text seat) How long the text of a small trace is, as plain Lean. -/
import Derived.Test.YtljaegmmfjllkaaGreatDoorNw
import Derived.Test.YtljaegmmfjllkaaGreatDoorNx
namespace Go.Proofs.YtljaegmmfjllkaaGreatDoor
open Go.RowKit Go.Lib
set_option linter.unusedVariables false
set_option linter.unusedSimpArgs false

/-- every number of a claim fits a word -/
def NumC (c : Claim) : Prop := ∀ n ∈ lineM c, I64 n
theorem flat_sz : ∀ cs : List (List Int), (flatM cs).length = szK cs
  | [] => rfl
  | c :: r => by
    rw [flatM, List.length_append, List.length_cons, flat_sz r, szK]
    omega
theorem line_sz (c : Claim) : (lineM c).length = 5 + c.kids.length + szK c.cls := by
  unfold lineM
  simp only [List.length_cons, List.length_append, flat_sz]
  omega
theorem line_le (l : List Int) : (lineT l).length ≤ (tailT l).length := by
  cases l with
  | nil => simp [lineT, tailT]
  | cons n r => simp [lineT, tailT]
theorem clms_len : ∀ {ts : List Claim}, (∀ c ∈ ts, NumC c) → (clmsT ts).length ≤ (5 * ts.length + szT ts) * 21 + ts.length
  | [], _ => by simp [clmsT]
  | c :: r, h => by
    have h1 := clms_len fun d hd => h d (List.mem_cons_of_mem _ hd)
    have h2 := tail_bound (h c (List.mem_cons_self ..))
    have h3 := line_le (lineM c)
    have h4 := line_sz c
    rw [clmsT, clmT, List.length_append, List.length_append, List.length_cons, List.length_cons, List.length_nil, szT]
    omega
theorem trc_len {ts : List Claim} (h : ∀ c ∈ ts, NumC c) (hl : ts.length ≤ 120) (hs : szT ts ≤ 3000) : (trcT ts).length ≤ 80000 := by
  have h1 := clms_len h
  have h2 := itoa_all20 (n := (ts.length : Int)) (by omega) (by omega)
  unfold trcT
  rw [List.length_append, List.length_append, List.length_cons]
  have h3 : wTrc.length = 6 := rfl
  omega
/-- a literal 0 somewhere -/
def zeroB (ts : List Claim) : Bool := ts.any fun c => c.cls.any fun x => x.contains 0
theorem zero_no {ts : List Claim} (h : zeroB ts = false) : ∀ c ∈ ts, ∀ x ∈ c.cls, ∀ n ∈ x, n ≠ 0 := by
  intro c hc x hx n hn e
  subst e
  have h1 := List.any_eq_false.1 h c hc
  have h2 : (c.cls.any fun x => x.contains 0) = true := List.any_eq_true.2 ⟨x, hx, by simpa using hn⟩
  exact h1 h2
end Go.Proofs.YtljaegmmfjllkaaGreatDoor
