/-
  No cell of these rows narrows 'for every input' (looked for: loops, veiled, ifaces, maps, wideKeys, modest, calm, conditions, laid).
  DERIVED. THE GIVEN ROWS OF THIS SEAT. 7 by the template 'for every input the law returns true; each argument reads behind the call as it read before'; 0 by the template 'total and deterministic' (their statements: YtjjbpfbbfjdhdaaTotals.lean).
  GIVEN WITH THE SEED: the statements are not yours to turn. If you find one false, say at which input.
  Laid BY PROGRAM, IN A SANDBOX (cutbox-rows.mjs): the forced cells as the released guide's own fill.sh prints them over the translation 57babac8d1782223… (all of the seat's roots in one cut). By AI agents, Wed Nov 11 2026. No macro, syntax, notation, axiom, sorry.
-/
import Derived.Test.YtjjbpfbbfjdhdaaChecked
import GoSem.Claim
import GoSem.ClaimJoined
import GoSem.ClaimMapViews
import Derived.JoinedTies
import Derived.KernelRfl
namespace Go.Proofs.Ytjjbpfbbfjdhdaa
/- THE CELL 'sum', in the pinned program and in every row, IS THE sha256 OF THE DUMP (.gsa) THAT YtjjbpfbbfjdhdaaProg.lean LOADS. Nothing in Lean hashes anything: it is a label: what it is worth is what the hold of that sum in a sandbox is worth. -/
noncomputable def Try.pinned : Pinned := { name := "ytjjbpfbbfjdhdaa", sum := "57babac8d1782223fe0c2e6c0feb8d08d295cd080967cbc53c5d75f2c0bea0ed", checked := Try.checked }
namespace Rows
def none {H : Type} : Left H := { results := [], args := [] }

/-- 'keyholelaw30.CnfMake': WHATEVER THE INPUT: true; the input reads as it did. -/
def cnfMakeSpec : ChangeSpec := { name := "cnfMake", fn := fun _ => fun
  | [d1, d2, d3] => { results := [.lit (.bool true)], args := [d1, d2, d3] }
  | _ => none }
def cnfMakeRow : OpenClaim := { program := "ytjjbpfbbfjdhdaa", sum := "57babac8d1782223fe0c2e6c0feb8d08d295cd080967cbc53c5d75f2c0bea0ed", func := "keyhole/keyholelaw30.CnfMake", spec := "cnfMake", unfollowed := true, recurses := true, plainKeys := false, apart := false }
def CnfMakeSaid : Prop := cnfMakeRow.holds Try.pinned (OpenSpec.ofChange cnfMakeSpec)

/-- ITS FALSE NEIGHBOUR: 'it returns false'. Refute it at one input. -/
def cnfMakeWrong : ChangeSpec := { name := "cnfMake", fn := fun _ => fun
  | [d1, d2, d3] => { results := [.lit (.bool false)], args := [d1, d2, d3] }
  | _ => none }
def CnfMakeWrongFalsely : Prop := cnfMakeRow.holds Try.pinned (OpenSpec.ofChange cnfMakeWrong)

/-- 'keyholelaw30.CnfModels': WHATEVER THE INPUT: true; the input reads as it did. -/
def cnfModelsSpec : ChangeSpec := { name := "cnfModels", fn := fun _ => fun
  | [d] => { results := [.lit (.bool true)], args := [d] }
  | _ => none }
def cnfModelsRow : OpenClaim := { program := "ytjjbpfbbfjdhdaa", sum := "57babac8d1782223fe0c2e6c0feb8d08d295cd080967cbc53c5d75f2c0bea0ed", func := "keyhole/keyholelaw30.CnfModels", spec := "cnfModels", unfollowed := true, recurses := true, plainKeys := false, apart := false }
def CnfModelsSaid : Prop := cnfModelsRow.holds Try.pinned (OpenSpec.ofChange cnfModelsSpec)

/-- ITS FALSE NEIGHBOUR: 'it returns false'. Refute it at one input. -/
def cnfModelsWrong : ChangeSpec := { name := "cnfModels", fn := fun _ => fun
  | [d] => { results := [.lit (.bool false)], args := [d] }
  | _ => none }
def CnfModelsWrongFalsely : Prop := cnfModelsRow.holds Try.pinned (OpenSpec.ofChange cnfModelsWrong)

/-- 'keyholelaw30.CnfOfBdd': WHATEVER THE INPUT: true; the input reads as it did. -/
def cnfOfBddSpec : ChangeSpec := { name := "cnfOfBdd", fn := fun _ => fun
  | [d] => { results := [.lit (.bool true)], args := [d] }
  | _ => none }
def cnfOfBddRow : OpenClaim := { program := "ytjjbpfbbfjdhdaa", sum := "57babac8d1782223fe0c2e6c0feb8d08d295cd080967cbc53c5d75f2c0bea0ed", func := "keyhole/keyholelaw30.CnfOfBdd", spec := "cnfOfBdd", unfollowed := true, recurses := true, plainKeys := false, apart := false }
def CnfOfBddSaid : Prop := cnfOfBddRow.holds Try.pinned (OpenSpec.ofChange cnfOfBddSpec)

/-- ITS FALSE NEIGHBOUR: 'it returns false'. Refute it at one input. -/
def cnfOfBddWrong : ChangeSpec := { name := "cnfOfBdd", fn := fun _ => fun
  | [d] => { results := [.lit (.bool false)], args := [d] }
  | _ => none }
def CnfOfBddWrongFalsely : Prop := cnfOfBddRow.holds Try.pinned (OpenSpec.ofChange cnfOfBddWrong)

/-- 'keyholelaw30.CnfCheck': WHATEVER THE INPUT: true; the input reads as it did. -/
def cnfCheckSpec : ChangeSpec := { name := "cnfCheck", fn := fun _ => fun
  | [d] => { results := [.lit (.bool true)], args := [d] }
  | _ => none }
def cnfCheckRow : OpenClaim := { program := "ytjjbpfbbfjdhdaa", sum := "57babac8d1782223fe0c2e6c0feb8d08d295cd080967cbc53c5d75f2c0bea0ed", func := "keyhole/keyholelaw30.CnfCheck", spec := "cnfCheck", unfollowed := true, recurses := true, plainKeys := false, apart := false }
def CnfCheckSaid : Prop := cnfCheckRow.holds Try.pinned (OpenSpec.ofChange cnfCheckSpec)

/-- ITS FALSE NEIGHBOUR: 'it returns false'. Refute it at one input. -/
def cnfCheckWrong : ChangeSpec := { name := "cnfCheck", fn := fun _ => fun
  | [d] => { results := [.lit (.bool false)], args := [d] }
  | _ => none }
def CnfCheckWrongFalsely : Prop := cnfCheckRow.holds Try.pinned (OpenSpec.ofChange cnfCheckWrong)

/-- 'keyholelaw30.CnfEval': WHATEVER THE INPUT: true; the input reads as it did. -/
def cnfEvalSpec : ChangeSpec := { name := "cnfEval", fn := fun _ => fun
  | [d1, d2] => { results := [.lit (.bool true)], args := [d1, d2] }
  | _ => none }
def cnfEvalRow : OpenClaim := { program := "ytjjbpfbbfjdhdaa", sum := "57babac8d1782223fe0c2e6c0feb8d08d295cd080967cbc53c5d75f2c0bea0ed", func := "keyhole/keyholelaw30.CnfEval", spec := "cnfEval", unfollowed := true, recurses := true, plainKeys := false, apart := false }
def CnfEvalSaid : Prop := cnfEvalRow.holds Try.pinned (OpenSpec.ofChange cnfEvalSpec)

/-- ITS FALSE NEIGHBOUR: 'it returns false'. Refute it at one input. -/
def cnfEvalWrong : ChangeSpec := { name := "cnfEval", fn := fun _ => fun
  | [d1, d2] => { results := [.lit (.bool false)], args := [d1, d2] }
  | _ => none }
def CnfEvalWrongFalsely : Prop := cnfEvalRow.holds Try.pinned (OpenSpec.ofChange cnfEvalWrong)

/-- 'keyholelaw30.CnfResidual': WHATEVER THE INPUT: true; the input reads as it did. -/
def cnfResidualSpec : ChangeSpec := { name := "cnfResidual", fn := fun _ => fun
  | [d1, d2] => { results := [.lit (.bool true)], args := [d1, d2] }
  | _ => none }
def cnfResidualRow : OpenClaim := { program := "ytjjbpfbbfjdhdaa", sum := "57babac8d1782223fe0c2e6c0feb8d08d295cd080967cbc53c5d75f2c0bea0ed", func := "keyhole/keyholelaw30.CnfResidual", spec := "cnfResidual", unfollowed := true, recurses := true, plainKeys := false, apart := false }
def CnfResidualSaid : Prop := cnfResidualRow.holds Try.pinned (OpenSpec.ofChange cnfResidualSpec)

/-- ITS FALSE NEIGHBOUR: 'it returns false'. Refute it at one input. -/
def cnfResidualWrong : ChangeSpec := { name := "cnfResidual", fn := fun _ => fun
  | [d1, d2] => { results := [.lit (.bool false)], args := [d1, d2] }
  | _ => none }
def CnfResidualWrongFalsely : Prop := cnfResidualRow.holds Try.pinned (OpenSpec.ofChange cnfResidualWrong)

/-- 'keyholelaw30.CnfSplits': WHATEVER THE INPUT: true; the input reads as it did. -/
def cnfSplitsSpec : ChangeSpec := { name := "cnfSplits", fn := fun _ => fun
  | [d1, d2] => { results := [.lit (.bool true)], args := [d1, d2] }
  | _ => none }
def cnfSplitsRow : OpenClaim := { program := "ytjjbpfbbfjdhdaa", sum := "57babac8d1782223fe0c2e6c0feb8d08d295cd080967cbc53c5d75f2c0bea0ed", func := "keyhole/keyholelaw30.CnfSplits", spec := "cnfSplits", unfollowed := true, recurses := true, plainKeys := false, apart := false }
def CnfSplitsSaid : Prop := cnfSplitsRow.holds Try.pinned (OpenSpec.ofChange cnfSplitsSpec)

/-- ITS FALSE NEIGHBOUR: 'it returns false'. Refute it at one input. -/
def cnfSplitsWrong : ChangeSpec := { name := "cnfSplits", fn := fun _ => fun
  | [d1, d2] => { results := [.lit (.bool false)], args := [d1, d2] }
  | _ => none }
def CnfSplitsWrongFalsely : Prop := cnfSplitsRow.holds Try.pinned (OpenSpec.ofChange cnfSplitsWrong)

/- THE SECOND FORM. 'bulk': how many values and letters a reading holds, each counted each time it is reached (what is shared counts as often as it is met; a slice's spare places count too). A statement '..UptoSaid' is the law's where the arguments, and the package variables that the reading takes, are together of bulk at most 1048576: NARROWER than '..Said'. Prove '..Said' where nothing that the law and all that it calls make is longer than what came in: it says more and counts as full. Else prove '..UptoSaid'. A law counts once. -/
mutual
def uptoBulk {H : Type} : DataW H → Nat
  | .lit (.string bytes) => bytes.length + 1
  | .lit _ => 1
  | .nil => 1
  | .ptr d => uptoBulk d + 1
  | .slice elems spare => uptoBulkAll elems + uptoBulkAll spare + 1
  | .agg parts => uptoBulkAll parts + 1
  | .iface _ d => uptoBulk d + 1
  | .map entries => uptoBulkEntries entries + 1
  | .held _ => 1
def uptoBulkAll {H : Type} : List (DataW H) → Nat
  | [] => 0
  | d :: r => uptoBulk d + uptoBulkAll r
def uptoBulkEntries {H : Type} : List (Lit × DataW H) → Nat
  | [] => 0
  | x :: r => uptoBulkEntry x + uptoBulkEntries r
def uptoBulkEntry {H : Type} : Lit × DataW H → Nat
  | (.string bytes, d) => bytes.length + uptoBulk d + 1
  | (_, d) => uptoBulk d + 1
 end
def uptoSmall : (H : Type) → List (DataW H) → Bool := fun _ ds => decide (uptoBulkAll ds ≤ 1048576)
def OpenSpec.upto (s : _root_.Go.ChangeSpec) : _root_.Go.OpenSpec := { _root_.Go.OpenSpec.ofChange s with cond := some uptoSmall }

/-- 'keyholelaw30.CnfMake', WHERE WHAT IT READS IS OF BULK AT MOST 1048576: true; the input reads as it did. -/
def cnfMakeUptoRow : OpenClaim := { program := "ytjjbpfbbfjdhdaa", sum := "57babac8d1782223fe0c2e6c0feb8d08d295cd080967cbc53c5d75f2c0bea0ed", func := "keyhole/keyholelaw30.CnfMake", spec := "cnfMake", unfollowed := true, recurses := true, plainKeys := false, apart := false, narrowed := true }
def CnfMakeUptoSaid : Prop := cnfMakeUptoRow.holds Try.pinned (OpenSpec.upto cnfMakeSpec)

/-- 'keyholelaw30.CnfModels', WHERE WHAT IT READS IS OF BULK AT MOST 1048576: true; the input reads as it did. -/
def cnfModelsUptoRow : OpenClaim := { program := "ytjjbpfbbfjdhdaa", sum := "57babac8d1782223fe0c2e6c0feb8d08d295cd080967cbc53c5d75f2c0bea0ed", func := "keyhole/keyholelaw30.CnfModels", spec := "cnfModels", unfollowed := true, recurses := true, plainKeys := false, apart := false, narrowed := true }
def CnfModelsUptoSaid : Prop := cnfModelsUptoRow.holds Try.pinned (OpenSpec.upto cnfModelsSpec)

/-- 'keyholelaw30.CnfOfBdd', WHERE WHAT IT READS IS OF BULK AT MOST 1048576: true; the input reads as it did. -/
def cnfOfBddUptoRow : OpenClaim := { program := "ytjjbpfbbfjdhdaa", sum := "57babac8d1782223fe0c2e6c0feb8d08d295cd080967cbc53c5d75f2c0bea0ed", func := "keyhole/keyholelaw30.CnfOfBdd", spec := "cnfOfBdd", unfollowed := true, recurses := true, plainKeys := false, apart := false, narrowed := true }
def CnfOfBddUptoSaid : Prop := cnfOfBddUptoRow.holds Try.pinned (OpenSpec.upto cnfOfBddSpec)

/-- 'keyholelaw30.CnfCheck', WHERE WHAT IT READS IS OF BULK AT MOST 1048576: true; the input reads as it did. -/
def cnfCheckUptoRow : OpenClaim := { program := "ytjjbpfbbfjdhdaa", sum := "57babac8d1782223fe0c2e6c0feb8d08d295cd080967cbc53c5d75f2c0bea0ed", func := "keyhole/keyholelaw30.CnfCheck", spec := "cnfCheck", unfollowed := true, recurses := true, plainKeys := false, apart := false, narrowed := true }
def CnfCheckUptoSaid : Prop := cnfCheckUptoRow.holds Try.pinned (OpenSpec.upto cnfCheckSpec)

/-- 'keyholelaw30.CnfEval', WHERE WHAT IT READS IS OF BULK AT MOST 1048576: true; the input reads as it did. -/
def cnfEvalUptoRow : OpenClaim := { program := "ytjjbpfbbfjdhdaa", sum := "57babac8d1782223fe0c2e6c0feb8d08d295cd080967cbc53c5d75f2c0bea0ed", func := "keyhole/keyholelaw30.CnfEval", spec := "cnfEval", unfollowed := true, recurses := true, plainKeys := false, apart := false, narrowed := true }
def CnfEvalUptoSaid : Prop := cnfEvalUptoRow.holds Try.pinned (OpenSpec.upto cnfEvalSpec)

/-- 'keyholelaw30.CnfResidual', WHERE WHAT IT READS IS OF BULK AT MOST 1048576: true; the input reads as it did. -/
def cnfResidualUptoRow : OpenClaim := { program := "ytjjbpfbbfjdhdaa", sum := "57babac8d1782223fe0c2e6c0feb8d08d295cd080967cbc53c5d75f2c0bea0ed", func := "keyhole/keyholelaw30.CnfResidual", spec := "cnfResidual", unfollowed := true, recurses := true, plainKeys := false, apart := false, narrowed := true }
def CnfResidualUptoSaid : Prop := cnfResidualUptoRow.holds Try.pinned (OpenSpec.upto cnfResidualSpec)

/-- 'keyholelaw30.CnfSplits', WHERE WHAT IT READS IS OF BULK AT MOST 1048576: true; the input reads as it did. -/
def cnfSplitsUptoRow : OpenClaim := { program := "ytjjbpfbbfjdhdaa", sum := "57babac8d1782223fe0c2e6c0feb8d08d295cd080967cbc53c5d75f2c0bea0ed", func := "keyhole/keyholelaw30.CnfSplits", spec := "cnfSplits", unfollowed := true, recurses := true, plainKeys := false, apart := false, narrowed := true }
def CnfSplitsUptoSaid : Prop := cnfSplitsUptoRow.holds Try.pinned (OpenSpec.upto cnfSplitsSpec)

end Rows
end Go.Proofs.Ytjjbpfbbfjdhdaa
