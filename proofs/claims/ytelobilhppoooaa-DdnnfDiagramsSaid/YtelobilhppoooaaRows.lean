/-
  No cell of these rows narrows 'for every input' (looked for: loops, veiled, ifaces, maps, wideKeys, modest, calm, conditions, laid).
  DERIVED. THE GIVEN ROWS OF THIS SEAT. 2 by the template 'for every input the law returns true; each argument reads behind the call as it read before'; 0 by the template 'total and deterministic' (their statements: YtelobilhppoooaaTotals.lean).
  GIVEN WITH THE SEED: the statements are not yours to turn. If you find one false, say at which input.
  Laid BY PROGRAM, IN A SANDBOX (cutbox-rows.mjs): the forced cells as the released guide's own fill.sh prints them over the translation 6af6388510d939bb… (all of the seat's roots in one cut). By AI agents, Wed Nov 11 2026. No macro, syntax, notation, axiom, sorry.
-/
import Derived.Test.YtelobilhppoooaaChecked
import GoSem.Claim
import GoSem.ClaimJoined
import GoSem.ClaimMapViews
import Derived.JoinedTies
import Derived.KernelRfl
namespace Go.Proofs.Ytelobilhppoooaa
/- THE CELL 'sum', in the pinned program and in every row, IS THE sha256 OF THE DUMP (.gsa) THAT YtelobilhppoooaaProg.lean LOADS. Nothing in Lean hashes anything: it is a label: what it is worth is what the hold of that sum in a sandbox is worth. -/
noncomputable def Try.pinned : Pinned := { name := "ytelobilhppoooaa", sum := "6af6388510d939bbae3b380934d7175d984a0443a42fe4c9097d88be814764c4", checked := Try.checked }
namespace Rows
def none {H : Type} : Left H := { results := [], args := [] }

/-- 'keyholelaw30.CnfOfBdd': WHATEVER THE INPUT: true; the input reads as it did. -/
def cnfOfBddSpec : ChangeSpec := { name := "cnfOfBdd", fn := fun _ => fun
  | [d] => { results := [.lit (.bool true)], args := [d] }
  | _ => none }
def cnfOfBddRow : OpenClaim := { program := "ytelobilhppoooaa", sum := "6af6388510d939bbae3b380934d7175d984a0443a42fe4c9097d88be814764c4", func := "keyhole/keyholelaw30.CnfOfBdd", spec := "cnfOfBdd", unfollowed := true, recurses := true, plainKeys := false, apart := false }
def CnfOfBddSaid : Prop := cnfOfBddRow.holds Try.pinned (OpenSpec.ofChange cnfOfBddSpec)

/-- ITS FALSE NEIGHBOUR: 'it returns false'. Refute it at one input. -/
def cnfOfBddWrong : ChangeSpec := { name := "cnfOfBdd", fn := fun _ => fun
  | [d] => { results := [.lit (.bool false)], args := [d] }
  | _ => none }
def CnfOfBddWrongFalsely : Prop := cnfOfBddRow.holds Try.pinned (OpenSpec.ofChange cnfOfBddWrong)

/-- 'keyholelaw33.DdnnfDiagrams': WHATEVER THE INPUT: true; the input reads as it did. -/
def ddnnfDiagramsSpec : ChangeSpec := { name := "ddnnfDiagrams", fn := fun _ => fun
  | [d1, d2] => { results := [.lit (.bool true)], args := [d1, d2] }
  | _ => none }
def ddnnfDiagramsRow : OpenClaim := { program := "ytelobilhppoooaa", sum := "6af6388510d939bbae3b380934d7175d984a0443a42fe4c9097d88be814764c4", func := "keyhole/keyholelaw33.DdnnfDiagrams", spec := "ddnnfDiagrams", unfollowed := true, recurses := true, plainKeys := false, apart := false }
def DdnnfDiagramsSaid : Prop := ddnnfDiagramsRow.holds Try.pinned (OpenSpec.ofChange ddnnfDiagramsSpec)

/-- ITS FALSE NEIGHBOUR: 'it returns false'. Refute it at one input. -/
def ddnnfDiagramsWrong : ChangeSpec := { name := "ddnnfDiagrams", fn := fun _ => fun
  | [d1, d2] => { results := [.lit (.bool false)], args := [d1, d2] }
  | _ => none }
def DdnnfDiagramsWrongFalsely : Prop := ddnnfDiagramsRow.holds Try.pinned (OpenSpec.ofChange ddnnfDiagramsWrong)

/- THE SECOND FORM. 'bulk': how many values and letters a reading holds, each counted each time it is reached (what is shared counts as often as it is met; a slice's spare places count too). A statement '..UptoSaid' is the law's where the arguments, and the package variables that the reading takes, are together of bulk at most 1048576: NARROWER than '..Said'. Prove '..Said' where nothing that the law and all that it calls make is longer than what came in: it says more and counts as full. Else prove '..UptoSaid'. A law counts once. -/
mutual
def uptoBulk {H : Type} : DataW H → Nat
  | .lit (.string bytes) => bytes.length + 1
  | .lit _ => 1
  | .nil => 1
  | .ptr d => uptoBulk d + 1
  | .slice elems spare => uptoBulkAll elems + uptoBulkAll spare + 1
  | .agg parts => uptoBulkAll parts + 1
  | .iface _ d => uptoBulk d + 1
  | .map entries => uptoBulkEntries entries + 1
  | .held _ => 1
def uptoBulkAll {H : Type} : List (DataW H) → Nat
  | [] => 0
  | d :: r => uptoBulk d + uptoBulkAll r
def uptoBulkEntries {H : Type} : List (Lit × DataW H) → Nat
  | [] => 0
  | x :: r => uptoBulkEntry x + uptoBulkEntries r
def uptoBulkEntry {H : Type} : Lit × DataW H → Nat
  | (.string bytes, d) => bytes.length + uptoBulk d + 1
  | (_, d) => uptoBulk d + 1
 end
def uptoSmall : (H : Type) → List (DataW H) → Bool := fun _ ds => decide (uptoBulkAll ds ≤ 1048576)
def OpenSpec.upto (s : _root_.Go.ChangeSpec) : _root_.Go.OpenSpec := { _root_.Go.OpenSpec.ofChange s with cond := some uptoSmall }

/-- 'keyholelaw30.CnfOfBdd', WHERE WHAT IT READS IS OF BULK AT MOST 1048576: true; the input reads as it did. -/
def cnfOfBddUptoRow : OpenClaim := { program := "ytelobilhppoooaa", sum := "6af6388510d939bbae3b380934d7175d984a0443a42fe4c9097d88be814764c4", func := "keyhole/keyholelaw30.CnfOfBdd", spec := "cnfOfBdd", unfollowed := true, recurses := true, plainKeys := false, apart := false, narrowed := true }
def CnfOfBddUptoSaid : Prop := cnfOfBddUptoRow.holds Try.pinned (OpenSpec.upto cnfOfBddSpec)

/-- 'keyholelaw33.DdnnfDiagrams', WHERE WHAT IT READS IS OF BULK AT MOST 1048576: true; the input reads as it did. -/
def ddnnfDiagramsUptoRow : OpenClaim := { program := "ytelobilhppoooaa", sum := "6af6388510d939bbae3b380934d7175d984a0443a42fe4c9097d88be814764c4", func := "keyhole/keyholelaw33.DdnnfDiagrams", spec := "ddnnfDiagrams", unfollowed := true, recurses := true, plainKeys := false, apart := false, narrowed := true }
def DdnnfDiagramsUptoSaid : Prop := ddnnfDiagramsUptoRow.holds Try.pinned (OpenSpec.upto ddnnfDiagramsSpec)

end Rows
end Go.Proofs.Ytelobilhppoooaa
