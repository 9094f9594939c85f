/- (Trace text seat) The text of a trace, and what a reader of it has still to read, as plain Lean. -/
import Derived.Test.YtljaegmmfjllkaaGreatDoorNv
import Derived.Test.YtljaegmmfjllkaaGreatDoorVa
namespace Go.Proofs.YtljaegmmfjllkaaGreatDoor
open Go.RowKit Go.Lib
set_option linter.unusedVariables false
set_option linter.unusedSimpArgs false

def wTrc : Bts := [116, 114, 97, 99, 101, 32]
/-- the clauses of a claim as one list of numbers, each closed by 0 -/
def flatM : List (List Int) → List Int
  | [] => []
  | c :: r => c ++ 0 :: flatM r
def lineM (c : Claim) : List Int := c.rule :: c.lit :: c.count :: (c.kids.length : Int) :: (c.kids ++ (c.cls.length : Int) :: flatM c.cls)
def tailT : List Int → Bts
  | [] => []
  | n :: r => 32 :: (itoa n ++ tailT r)
def lineT : List Int → Bts
  | [] => []
  | n :: r => itoa n ++ tailT r
def clmT (c : Claim) : Bts := lineT (lineM c) ++ [10]
def clmsT : List Claim → Bts
  | [] => []
  | c :: r => clmT c ++ clmsT r
def trcT (ts : List Claim) : Bts := wTrc ++ (itoa ts.length ++ 10 :: clmsT ts)
/-- what a reader has still to read: the numbers of a line, then m -/
def restT : List Int → Bts → Bts
  | [], m => m
  | n :: r, m => itoa n ++ (tailT r ++ 10 :: m)
theorem rest_step (n : Int) (r : List Int) (m : Bts) : ∃ s : UInt8, (s = 32 ∨ s = 10) ∧ restT (n :: r) m = itoa n ++ s :: restT r m := by
  cases r with
  | nil => exact ⟨10, .inr rfl, rfl⟩
  | cons k r => exact ⟨32, .inl rfl, by simp [restT, tailT]⟩
theorem flat_app : ∀ (cs ds : List (List Int)), flatM (cs ++ ds) = flatM cs ++ flatM ds
  | [], ds => rfl
  | c :: r, ds => by rw [List.cons_append, flatM, flatM, flat_app r ds]; simp
theorem tail_app : ∀ (l m : List Int), tailT (l ++ m) = tailT l ++ tailT m
  | [], m => rfl
  | n :: r, m => by rw [List.cons_append, tailT, tailT, tail_app r m]; simp
theorem clms_app : ∀ (cs ds : List Claim), clmsT (cs ++ ds) = clmsT cs ++ clmsT ds
  | [], ds => rfl
  | c :: r, ds => by rw [List.cons_append, clmsT, clmsT, clms_app r ds]; simp
theorem clms_rest (c : Claim) (ts : List Claim) : clmsT (c :: ts) = restT (lineM c) (clmsT ts) := by
  rw [clmsT, clmT, lineM, lineT, restT]
  simp
theorem trc_rest (ts : List Claim) : trcT ts = wTrc ++ restT [(ts.length : Int)] (clmsT ts) := rfl
/-! ### how long -/
theorem tail_bound : ∀ {l : List Int}, (∀ n ∈ l, I64 n) → (tailT l).length ≤ l.length * 21
  | [], _ => by simp [tailT]
  | n :: r, h => by
    have h1 := tail_bound fun x hx => h x (List.mem_cons_of_mem _ hx)
    have h2 := h n (List.mem_cons_self ..)
    have h3 := itoa_all20 h2.1 h2.2
    rw [tailT, List.length_cons, List.length_append, List.length_cons, Nat.succ_mul]
    omega
theorem flat_len : ∀ cs : List (List Int), (flatM cs).length = cs.length + (cs.map List.length).sum
  | [] => rfl
  | c :: r => by
    rw [flatM, List.length_append, List.length_cons, flat_len r, List.length_cons, List.map_cons, List.sum_cons]
    omega
theorem line_len (c : Claim) : (lineM c).length = 5 + c.kids.length + c.cls.length + (c.cls.map List.length).sum := by
  unfold lineM
  simp only [List.length_cons, List.length_append, flat_len]
  omega
end Go.Proofs.YtljaegmmfjllkaaGreatDoor
