/-
  No cell of these rows narrows 'for every input' (looked for: loops, veiled, ifaces, maps, wideKeys, modest, calm, conditions, laid).
  DERIVED. THE GIVEN ROWS OF THIS SEAT. 7 by the template 'for every input the law returns true; each argument reads behind the call as it read before'; 0 by the template 'total and deterministic' (their statements: YtljljagkccmogaaTotals.lean).
  GIVEN WITH THE SEED: the statements are not yours to turn. If you find one false, say at which input.
  Laid BY PROGRAM, IN A SANDBOX (cutbox-rows.mjs): the forced cells as the released guide's own fill.sh prints them over the translation 4b7b9080fbe3fd5f… (all of the seat's roots in one cut). By AI agents, Wed Nov 11 2026. No macro, syntax, notation, axiom, sorry.
-/
import Derived.Test.YtljljagkccmogaaChecked
import GoSem.Claim
import GoSem.ClaimJoined
import GoSem.ClaimMapViews
import Derived.JoinedTies
import Derived.KernelRfl
namespace Go.Proofs.Ytljljagkccmogaa
/- THE CELL 'sum', in the pinned program and in every row, IS THE sha256 OF THE DUMP (.gsa) THAT YtljljagkccmogaaProg.lean LOADS. Nothing in Lean hashes anything: it is a label: what it is worth is what the hold of that sum in a sandbox is worth. -/
noncomputable def Try.pinned : Pinned := { name := "ytljljagkccmogaa", sum := "4b7b9080fbe3fd5fe18a7f4a1bcf11e5dc63d4480ceee1b0f87ab6aaf5ecdf6c", checked := Try.checked }
namespace Rows
def none {H : Type} : Left H := { results := [], args := [] }

/-- 'keyholelaw33.DdnnfChecks': WHATEVER THE INPUT: true; the input reads as it did. -/
def ddnnfChecksSpec : ChangeSpec := { name := "ddnnfChecks", fn := fun _ => fun
  | [d] => { results := [.lit (.bool true)], args := [d] }
  | _ => none }
def ddnnfChecksRow : OpenClaim := { program := "ytljljagkccmogaa", sum := "4b7b9080fbe3fd5fe18a7f4a1bcf11e5dc63d4480ceee1b0f87ab6aaf5ecdf6c", func := "keyhole/keyholelaw33.DdnnfChecks", spec := "ddnnfChecks", plainKeys := false, apart := false }
def DdnnfChecksSaid : Prop := ddnnfChecksRow.holds Try.pinned (OpenSpec.ofChange ddnnfChecksSpec)

/-- ITS FALSE NEIGHBOUR: 'it returns false'. Refute it at one input. -/
def ddnnfChecksWrong : ChangeSpec := { name := "ddnnfChecks", fn := fun _ => fun
  | [d] => { results := [.lit (.bool false)], args := [d] }
  | _ => none }
def DdnnfChecksWrongFalsely : Prop := ddnnfChecksRow.holds Try.pinned (OpenSpec.ofChange ddnnfChecksWrong)

/-- 'keyholelaw33.DdnnfEvals': WHATEVER THE INPUT: true; the input reads as it did. -/
def ddnnfEvalsSpec : ChangeSpec := { name := "ddnnfEvals", fn := fun _ => fun
  | [d1, d2] => { results := [.lit (.bool true)], args := [d1, d2] }
  | _ => none }
def ddnnfEvalsRow : OpenClaim := { program := "ytljljagkccmogaa", sum := "4b7b9080fbe3fd5fe18a7f4a1bcf11e5dc63d4480ceee1b0f87ab6aaf5ecdf6c", func := "keyhole/keyholelaw33.DdnnfEvals", spec := "ddnnfEvals", plainKeys := false, apart := false }
def DdnnfEvalsSaid : Prop := ddnnfEvalsRow.holds Try.pinned (OpenSpec.ofChange ddnnfEvalsSpec)

/-- ITS FALSE NEIGHBOUR: 'it returns false'. Refute it at one input. -/
def ddnnfEvalsWrong : ChangeSpec := { name := "ddnnfEvals", fn := fun _ => fun
  | [d1, d2] => { results := [.lit (.bool false)], args := [d1, d2] }
  | _ => none }
def DdnnfEvalsWrongFalsely : Prop := ddnnfEvalsRow.holds Try.pinned (OpenSpec.ofChange ddnnfEvalsWrong)

/-- 'keyholelaw33.DdnnfCounts': WHATEVER THE INPUT: true; the input reads as it did. -/
def ddnnfCountsSpec : ChangeSpec := { name := "ddnnfCounts", fn := fun _ => fun
  | [d] => { results := [.lit (.bool true)], args := [d] }
  | _ => none }
def ddnnfCountsRow : OpenClaim := { program := "ytljljagkccmogaa", sum := "4b7b9080fbe3fd5fe18a7f4a1bcf11e5dc63d4480ceee1b0f87ab6aaf5ecdf6c", func := "keyhole/keyholelaw33.DdnnfCounts", spec := "ddnnfCounts", plainKeys := false, apart := false }
def DdnnfCountsSaid : Prop := ddnnfCountsRow.holds Try.pinned (OpenSpec.ofChange ddnnfCountsSpec)

/-- ITS FALSE NEIGHBOUR: 'it returns false'. Refute it at one input. -/
def ddnnfCountsWrong : ChangeSpec := { name := "ddnnfCounts", fn := fun _ => fun
  | [d] => { results := [.lit (.bool false)], args := [d] }
  | _ => none }
def DdnnfCountsWrongFalsely : Prop := ddnnfCountsRow.holds Try.pinned (OpenSpec.ofChange ddnnfCountsWrong)

/-- 'keyholelaw33.DdnnfConditions': WHATEVER THE INPUT: true; the input reads as it did. -/
def ddnnfConditionsSpec : ChangeSpec := { name := "ddnnfConditions", fn := fun _ => fun
  | [d1, d2] => { results := [.lit (.bool true)], args := [d1, d2] }
  | _ => none }
def ddnnfConditionsRow : OpenClaim := { program := "ytljljagkccmogaa", sum := "4b7b9080fbe3fd5fe18a7f4a1bcf11e5dc63d4480ceee1b0f87ab6aaf5ecdf6c", func := "keyhole/keyholelaw33.DdnnfConditions", spec := "ddnnfConditions", plainKeys := false, apart := false }
def DdnnfConditionsSaid : Prop := ddnnfConditionsRow.holds Try.pinned (OpenSpec.ofChange ddnnfConditionsSpec)

/-- ITS FALSE NEIGHBOUR: 'it returns false'. Refute it at one input. -/
def ddnnfConditionsWrong : ChangeSpec := { name := "ddnnfConditions", fn := fun _ => fun
  | [d1, d2] => { results := [.lit (.bool false)], args := [d1, d2] }
  | _ => none }
def DdnnfConditionsWrongFalsely : Prop := ddnnfConditionsRow.holds Try.pinned (OpenSpec.ofChange ddnnfConditionsWrong)

/-- 'keyholelaw33.DdnnfModels': WHATEVER THE INPUT: true; the input reads as it did. -/
def ddnnfModelsSpec : ChangeSpec := { name := "ddnnfModels", fn := fun _ => fun
  | [d1, d2] => { results := [.lit (.bool true)], args := [d1, d2] }
  | _ => none }
def ddnnfModelsRow : OpenClaim := { program := "ytljljagkccmogaa", sum := "4b7b9080fbe3fd5fe18a7f4a1bcf11e5dc63d4480ceee1b0f87ab6aaf5ecdf6c", func := "keyhole/keyholelaw33.DdnnfModels", spec := "ddnnfModels", plainKeys := false, apart := false }
def DdnnfModelsSaid : Prop := ddnnfModelsRow.holds Try.pinned (OpenSpec.ofChange ddnnfModelsSpec)

/-- ITS FALSE NEIGHBOUR: 'it returns false'. Refute it at one input. -/
def ddnnfModelsWrong : ChangeSpec := { name := "ddnnfModels", fn := fun _ => fun
  | [d1, d2] => { results := [.lit (.bool false)], args := [d1, d2] }
  | _ => none }
def DdnnfModelsWrongFalsely : Prop := ddnnfModelsRow.holds Try.pinned (OpenSpec.ofChange ddnnfModelsWrong)

/-- 'keyholelaw33.DdnnfDiagrams': WHATEVER THE INPUT: true; the input reads as it did. -/
def ddnnfDiagramsSpec : ChangeSpec := { name := "ddnnfDiagrams", fn := fun _ => fun
  | [d1, d2] => { results := [.lit (.bool true)], args := [d1, d2] }
  | _ => none }
def ddnnfDiagramsRow : OpenClaim := { program := "ytljljagkccmogaa", sum := "4b7b9080fbe3fd5fe18a7f4a1bcf11e5dc63d4480ceee1b0f87ab6aaf5ecdf6c", func := "keyhole/keyholelaw33.DdnnfDiagrams", spec := "ddnnfDiagrams", unfollowed := true, recurses := true, plainKeys := false, apart := false }
def DdnnfDiagramsSaid : Prop := ddnnfDiagramsRow.holds Try.pinned (OpenSpec.ofChange ddnnfDiagramsSpec)

/-- ITS FALSE NEIGHBOUR: 'it returns false'. Refute it at one input. -/
def ddnnfDiagramsWrong : ChangeSpec := { name := "ddnnfDiagrams", fn := fun _ => fun
  | [d1, d2] => { results := [.lit (.bool false)], args := [d1, d2] }
  | _ => none }
def DdnnfDiagramsWrongFalsely : Prop := ddnnfDiagramsRow.holds Try.pinned (OpenSpec.ofChange ddnnfDiagramsWrong)

/-- 'keyholelaw33.DdnnfCheapest': WHATEVER THE INPUT: true; the input reads as it did. -/
def ddnnfCheapestSpec : ChangeSpec := { name := "ddnnfCheapest", fn := fun _ => fun
  | [d1, d2, d3] => { results := [.lit (.bool true)], args := [d1, d2, d3] }
  | _ => none }
def ddnnfCheapestRow : OpenClaim := { program := "ytljljagkccmogaa", sum := "4b7b9080fbe3fd5fe18a7f4a1bcf11e5dc63d4480ceee1b0f87ab6aaf5ecdf6c", func := "keyhole/keyholelaw33.DdnnfCheapest", spec := "ddnnfCheapest", unfollowed := true, recurses := true, plainKeys := false, apart := false }
def DdnnfCheapestSaid : Prop := ddnnfCheapestRow.holds Try.pinned (OpenSpec.ofChange ddnnfCheapestSpec)

/-- ITS FALSE NEIGHBOUR: 'it returns false'. Refute it at one input. -/
def ddnnfCheapestWrong : ChangeSpec := { name := "ddnnfCheapest", fn := fun _ => fun
  | [d1, d2, d3] => { results := [.lit (.bool false)], args := [d1, d2, d3] }
  | _ => none }
def DdnnfCheapestWrongFalsely : Prop := ddnnfCheapestRow.holds Try.pinned (OpenSpec.ofChange ddnnfCheapestWrong)

/- THE SECOND FORM. 'bulk': how many values and letters a reading holds, each counted each time it is reached (what is shared counts as often as it is met; a slice's spare places count too). A statement '..UptoSaid' is the law's where the arguments, and the package variables that the reading takes, are together of bulk at most 1048576: NARROWER than '..Said'. Prove '..Said' where nothing that the law and all that it calls make is longer than what came in: it says more and counts as full. Else prove '..UptoSaid'. A law counts once. -/
mutual
def uptoBulk {H : Type} : DataW H → Nat
  | .lit (.string bytes) => bytes.length + 1
  | .lit _ => 1
  | .nil => 1
  | .ptr d => uptoBulk d + 1
  | .slice elems spare => uptoBulkAll elems + uptoBulkAll spare + 1
  | .agg parts => uptoBulkAll parts + 1
  | .iface _ d => uptoBulk d + 1
  | .map entries => uptoBulkEntries entries + 1
  | .held _ => 1
def uptoBulkAll {H : Type} : List (DataW H) → Nat
  | [] => 0
  | d :: r => uptoBulk d + uptoBulkAll r
def uptoBulkEntries {H : Type} : List (Lit × DataW H) → Nat
  | [] => 0
  | x :: r => uptoBulkEntry x + uptoBulkEntries r
def uptoBulkEntry {H : Type} : Lit × DataW H → Nat
  | (.string bytes, d) => bytes.length + uptoBulk d + 1
  | (_, d) => uptoBulk d + 1
 end
def uptoSmall : (H : Type) → List (DataW H) → Bool := fun _ ds => decide (uptoBulkAll ds ≤ 1048576)
def OpenSpec.upto (s : _root_.Go.ChangeSpec) : _root_.Go.OpenSpec := { _root_.Go.OpenSpec.ofChange s with cond := some uptoSmall }

/-- 'keyholelaw33.DdnnfChecks', WHERE WHAT IT READS IS OF BULK AT MOST 1048576: true; the input reads as it did. -/
def ddnnfChecksUptoRow : OpenClaim := { program := "ytljljagkccmogaa", sum := "4b7b9080fbe3fd5fe18a7f4a1bcf11e5dc63d4480ceee1b0f87ab6aaf5ecdf6c", func := "keyhole/keyholelaw33.DdnnfChecks", spec := "ddnnfChecks", plainKeys := false, apart := false, narrowed := true }
def DdnnfChecksUptoSaid : Prop := ddnnfChecksUptoRow.holds Try.pinned (OpenSpec.upto ddnnfChecksSpec)

/-- 'keyholelaw33.DdnnfEvals', WHERE WHAT IT READS IS OF BULK AT MOST 1048576: true; the input reads as it did. -/
def ddnnfEvalsUptoRow : OpenClaim := { program := "ytljljagkccmogaa", sum := "4b7b9080fbe3fd5fe18a7f4a1bcf11e5dc63d4480ceee1b0f87ab6aaf5ecdf6c", func := "keyhole/keyholelaw33.DdnnfEvals", spec := "ddnnfEvals", plainKeys := false, apart := false, narrowed := true }
def DdnnfEvalsUptoSaid : Prop := ddnnfEvalsUptoRow.holds Try.pinned (OpenSpec.upto ddnnfEvalsSpec)

/-- 'keyholelaw33.DdnnfCounts', WHERE WHAT IT READS IS OF BULK AT MOST 1048576: true; the input reads as it did. -/
def ddnnfCountsUptoRow : OpenClaim := { program := "ytljljagkccmogaa", sum := "4b7b9080fbe3fd5fe18a7f4a1bcf11e5dc63d4480ceee1b0f87ab6aaf5ecdf6c", func := "keyhole/keyholelaw33.DdnnfCounts", spec := "ddnnfCounts", plainKeys := false, apart := false, narrowed := true }
def DdnnfCountsUptoSaid : Prop := ddnnfCountsUptoRow.holds Try.pinned (OpenSpec.upto ddnnfCountsSpec)

/-- 'keyholelaw33.DdnnfConditions', WHERE WHAT IT READS IS OF BULK AT MOST 1048576: true; the input reads as it did. -/
def ddnnfConditionsUptoRow : OpenClaim := { program := "ytljljagkccmogaa", sum := "4b7b9080fbe3fd5fe18a7f4a1bcf11e5dc63d4480ceee1b0f87ab6aaf5ecdf6c", func := "keyhole/keyholelaw33.DdnnfConditions", spec := "ddnnfConditions", plainKeys := false, apart := false, narrowed := true }
def DdnnfConditionsUptoSaid : Prop := ddnnfConditionsUptoRow.holds Try.pinned (OpenSpec.upto ddnnfConditionsSpec)

/-- 'keyholelaw33.DdnnfModels', WHERE WHAT IT READS IS OF BULK AT MOST 1048576: true; the input reads as it did. -/
def ddnnfModelsUptoRow : OpenClaim := { program := "ytljljagkccmogaa", sum := "4b7b9080fbe3fd5fe18a7f4a1bcf11e5dc63d4480ceee1b0f87ab6aaf5ecdf6c", func := "keyhole/keyholelaw33.DdnnfModels", spec := "ddnnfModels", plainKeys := false, apart := false, narrowed := true }
def DdnnfModelsUptoSaid : Prop := ddnnfModelsUptoRow.holds Try.pinned (OpenSpec.upto ddnnfModelsSpec)

/-- 'keyholelaw33.DdnnfDiagrams', WHERE WHAT IT READS IS OF BULK AT MOST 1048576: true; the input reads as it did. -/
def ddnnfDiagramsUptoRow : OpenClaim := { program := "ytljljagkccmogaa", sum := "4b7b9080fbe3fd5fe18a7f4a1bcf11e5dc63d4480ceee1b0f87ab6aaf5ecdf6c", func := "keyhole/keyholelaw33.DdnnfDiagrams", spec := "ddnnfDiagrams", unfollowed := true, recurses := true, plainKeys := false, apart := false, narrowed := true }
def DdnnfDiagramsUptoSaid : Prop := ddnnfDiagramsUptoRow.holds Try.pinned (OpenSpec.upto ddnnfDiagramsSpec)

/-- 'keyholelaw33.DdnnfCheapest', WHERE WHAT IT READS IS OF BULK AT MOST 1048576: true; the input reads as it did. -/
def ddnnfCheapestUptoRow : OpenClaim := { program := "ytljljagkccmogaa", sum := "4b7b9080fbe3fd5fe18a7f4a1bcf11e5dc63d4480ceee1b0f87ab6aaf5ecdf6c", func := "keyhole/keyholelaw33.DdnnfCheapest", spec := "ddnnfCheapest", unfollowed := true, recurses := true, plainKeys := false, apart := false, narrowed := true }
def DdnnfCheapestUptoSaid : Prop := ddnnfCheapestUptoRow.holds Try.pinned (OpenSpec.upto ddnnfCheapestSpec)

end Rows
end Go.Proofs.Ytljljagkccmogaa
