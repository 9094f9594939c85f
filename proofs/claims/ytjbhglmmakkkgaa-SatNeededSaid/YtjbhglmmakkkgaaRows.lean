/-
  No cell of these rows narrows 'for every input' (looked for: loops, veiled, ifaces, maps, wideKeys, modest, calm, conditions, laid).
  DERIVED. THE GIVEN ROWS OF THIS SEAT. 9 by the template 'for every input the law returns true; each argument reads behind the call as it read before'; 0 by the template 'total and deterministic' (their statements: YtjbhglmmakkkgaaTotals.lean).
  GIVEN WITH THE SEED: the statements are not yours to turn. If you find one false, say at which input.
  Laid BY PROGRAM, IN A SANDBOX (cutbox-rows.mjs): the forced cells as the released guide's own fill.sh prints them over the translation 1bd7d046aef2c15b… (all of the seat's roots in one cut). By AI agents, Wed Nov 11 2026. No macro, syntax, notation, axiom, sorry.
-/
import Derived.Test.YtjbhglmmakkkgaaChecked
import GoSem.Claim
import GoSem.ClaimJoined
import GoSem.ClaimMapViews
import Derived.JoinedTies
import Derived.KernelRfl
namespace Go.Proofs.Ytjbhglmmakkkgaa
/- THE CELL 'sum', in the pinned program and in every row, IS THE sha256 OF THE DUMP (.gsa) THAT YtjbhglmmakkkgaaProg.lean LOADS. Nothing in Lean hashes anything: it is a label: what it is worth is what the hold of that sum in a sandbox is worth. -/
noncomputable def Try.pinned : Pinned := { name := "ytjbhglmmakkkgaa", sum := "1bd7d046aef2c15b3affa74f10d77e4a01fc82b61ee912fdd2349c01c5557aee", checked := Try.checked }
namespace Rows
def none {H : Type} : Left H := { results := [], args := [] }

/-- 'keyholelaw31.SatPropagates': WHATEVER THE INPUT: true; the input reads as it did. -/
def satPropagatesSpec : ChangeSpec := { name := "satPropagates", fn := fun _ => fun
  | [d1, d2] => { results := [.lit (.bool true)], args := [d1, d2] }
  | _ => none }
def satPropagatesRow : OpenClaim := { program := "ytjbhglmmakkkgaa", sum := "1bd7d046aef2c15b3affa74f10d77e4a01fc82b61ee912fdd2349c01c5557aee", func := "keyhole/keyholelaw31.SatPropagates", spec := "satPropagates", unfollowed := true, recurses := true, apart := false }
def SatPropagatesSaid : Prop := satPropagatesRow.holds Try.pinned (OpenSpec.ofChange satPropagatesSpec)

/-- ITS FALSE NEIGHBOUR: 'it returns false'. Refute it at one input. -/
def satPropagatesWrong : ChangeSpec := { name := "satPropagates", fn := fun _ => fun
  | [d1, d2] => { results := [.lit (.bool false)], args := [d1, d2] }
  | _ => none }
def SatPropagatesWrongFalsely : Prop := satPropagatesRow.holds Try.pinned (OpenSpec.ofChange satPropagatesWrong)

/-- 'keyholelaw31.SatSolves': WHATEVER THE INPUT: true; the input reads as it did. -/
def satSolvesSpec : ChangeSpec := { name := "satSolves", fn := fun _ => fun
  | [d] => { results := [.lit (.bool true)], args := [d] }
  | _ => none }
def satSolvesRow : OpenClaim := { program := "ytjbhglmmakkkgaa", sum := "1bd7d046aef2c15b3affa74f10d77e4a01fc82b61ee912fdd2349c01c5557aee", func := "keyhole/keyholelaw31.SatSolves", spec := "satSolves", unfollowed := true, recurses := true, apart := false }
def SatSolvesSaid : Prop := satSolvesRow.holds Try.pinned (OpenSpec.ofChange satSolvesSpec)

/-- ITS FALSE NEIGHBOUR: 'it returns false'. Refute it at one input. -/
def satSolvesWrong : ChangeSpec := { name := "satSolves", fn := fun _ => fun
  | [d] => { results := [.lit (.bool false)], args := [d] }
  | _ => none }
def SatSolvesWrongFalsely : Prop := satSolvesRow.holds Try.pinned (OpenSpec.ofChange satSolvesWrong)

/-- 'keyholelaw31.SatBackbones': WHATEVER THE INPUT: true; the input reads as it did. -/
def satBackbonesSpec : ChangeSpec := { name := "satBackbones", fn := fun _ => fun
  | [d] => { results := [.lit (.bool true)], args := [d] }
  | _ => none }
def satBackbonesRow : OpenClaim := { program := "ytjbhglmmakkkgaa", sum := "1bd7d046aef2c15b3affa74f10d77e4a01fc82b61ee912fdd2349c01c5557aee", func := "keyhole/keyholelaw31.SatBackbones", spec := "satBackbones", unfollowed := true, recurses := true, apart := false }
def SatBackbonesSaid : Prop := satBackbonesRow.holds Try.pinned (OpenSpec.ofChange satBackbonesSpec)

/-- ITS FALSE NEIGHBOUR: 'it returns false'. Refute it at one input. -/
def satBackbonesWrong : ChangeSpec := { name := "satBackbones", fn := fun _ => fun
  | [d] => { results := [.lit (.bool false)], args := [d] }
  | _ => none }
def SatBackbonesWrongFalsely : Prop := satBackbonesRow.holds Try.pinned (OpenSpec.ofChange satBackbonesWrong)

/-- 'keyholelaw31.SatFollows': WHATEVER THE INPUT: true; the input reads as it did. -/
def satFollowsSpec : ChangeSpec := { name := "satFollows", fn := fun _ => fun
  | [d1, d2, d3] => { results := [.lit (.bool true)], args := [d1, d2, d3] }
  | _ => none }
def satFollowsRow : OpenClaim := { program := "ytjbhglmmakkkgaa", sum := "1bd7d046aef2c15b3affa74f10d77e4a01fc82b61ee912fdd2349c01c5557aee", func := "keyhole/keyholelaw31.SatFollows", spec := "satFollows", unfollowed := true, recurses := true, apart := false }
def SatFollowsSaid : Prop := satFollowsRow.holds Try.pinned (OpenSpec.ofChange satFollowsSpec)

/-- ITS FALSE NEIGHBOUR: 'it returns false'. Refute it at one input. -/
def satFollowsWrong : ChangeSpec := { name := "satFollows", fn := fun _ => fun
  | [d1, d2, d3] => { results := [.lit (.bool false)], args := [d1, d2, d3] }
  | _ => none }
def SatFollowsWrongFalsely : Prop := satFollowsRow.holds Try.pinned (OpenSpec.ofChange satFollowsWrong)

/-- 'keyholelaw31.SatCores': WHATEVER THE INPUT: true; the input reads as it did. -/
def satCoresSpec : ChangeSpec := { name := "satCores", fn := fun _ => fun
  | [d] => { results := [.lit (.bool true)], args := [d] }
  | _ => none }
def satCoresRow : OpenClaim := { program := "ytjbhglmmakkkgaa", sum := "1bd7d046aef2c15b3affa74f10d77e4a01fc82b61ee912fdd2349c01c5557aee", func := "keyhole/keyholelaw31.SatCores", spec := "satCores", unfollowed := true, recurses := true, apart := false }
def SatCoresSaid : Prop := satCoresRow.holds Try.pinned (OpenSpec.ofChange satCoresSpec)

/-- ITS FALSE NEIGHBOUR: 'it returns false'. Refute it at one input. -/
def satCoresWrong : ChangeSpec := { name := "satCores", fn := fun _ => fun
  | [d] => { results := [.lit (.bool false)], args := [d] }
  | _ => none }
def SatCoresWrongFalsely : Prop := satCoresRow.holds Try.pinned (OpenSpec.ofChange satCoresWrong)

/-- 'keyholelaw31.SatNeeded': WHATEVER THE INPUT: true; the input reads as it did. -/
def satNeededSpec : ChangeSpec := { name := "satNeeded", fn := fun _ => fun
  | [d1, d2] => { results := [.lit (.bool true)], args := [d1, d2] }
  | _ => none }
def satNeededRow : OpenClaim := { program := "ytjbhglmmakkkgaa", sum := "1bd7d046aef2c15b3affa74f10d77e4a01fc82b61ee912fdd2349c01c5557aee", func := "keyhole/keyholelaw31.SatNeeded", spec := "satNeeded", unfollowed := true, recurses := true, apart := false }
def SatNeededSaid : Prop := satNeededRow.holds Try.pinned (OpenSpec.ofChange satNeededSpec)

/-- ITS FALSE NEIGHBOUR: 'it returns false'. Refute it at one input. -/
def satNeededWrong : ChangeSpec := { name := "satNeeded", fn := fun _ => fun
  | [d1, d2] => { results := [.lit (.bool false)], args := [d1, d2] }
  | _ => none }
def SatNeededWrongFalsely : Prop := satNeededRow.holds Try.pinned (OpenSpec.ofChange satNeededWrong)

/-- 'keyholelaw31.SatChecks': WHATEVER THE INPUT: true; the input reads as it did. -/
def satChecksSpec : ChangeSpec := { name := "satChecks", fn := fun _ => fun
  | [d1, d2] => { results := [.lit (.bool true)], args := [d1, d2] }
  | _ => none }
def satChecksRow : OpenClaim := { program := "ytjbhglmmakkkgaa", sum := "1bd7d046aef2c15b3affa74f10d77e4a01fc82b61ee912fdd2349c01c5557aee", func := "keyhole/keyholelaw31.SatChecks", spec := "satChecks", unfollowed := true, recurses := true, apart := false }
def SatChecksSaid : Prop := satChecksRow.holds Try.pinned (OpenSpec.ofChange satChecksSpec)

/-- ITS FALSE NEIGHBOUR: 'it returns false'. Refute it at one input. -/
def satChecksWrong : ChangeSpec := { name := "satChecks", fn := fun _ => fun
  | [d1, d2] => { results := [.lit (.bool false)], args := [d1, d2] }
  | _ => none }
def SatChecksWrongFalsely : Prop := satChecksRow.holds Try.pinned (OpenSpec.ofChange satChecksWrong)

/-- 'keyholelaw31.SatSound': WHATEVER THE INPUT: true; the input reads as it did. -/
def satSoundSpec : ChangeSpec := { name := "satSound", fn := fun _ => fun
  | [d1, d2, d3] => { results := [.lit (.bool true)], args := [d1, d2, d3] }
  | _ => none }
def satSoundRow : OpenClaim := { program := "ytjbhglmmakkkgaa", sum := "1bd7d046aef2c15b3affa74f10d77e4a01fc82b61ee912fdd2349c01c5557aee", func := "keyhole/keyholelaw31.SatSound", spec := "satSound", unfollowed := true, recurses := true, apart := false }
def SatSoundSaid : Prop := satSoundRow.holds Try.pinned (OpenSpec.ofChange satSoundSpec)

/-- ITS FALSE NEIGHBOUR: 'it returns false'. Refute it at one input. -/
def satSoundWrong : ChangeSpec := { name := "satSound", fn := fun _ => fun
  | [d1, d2, d3] => { results := [.lit (.bool false)], args := [d1, d2, d3] }
  | _ => none }
def SatSoundWrongFalsely : Prop := satSoundRow.holds Try.pinned (OpenSpec.ofChange satSoundWrong)

/-- 'keyholelaw31.SatRefutes': WHATEVER THE INPUT: true; the input reads as it did. -/
def satRefutesSpec : ChangeSpec := { name := "satRefutes", fn := fun _ => fun
  | [d] => { results := [.lit (.bool true)], args := [d] }
  | _ => none }
def satRefutesRow : OpenClaim := { program := "ytjbhglmmakkkgaa", sum := "1bd7d046aef2c15b3affa74f10d77e4a01fc82b61ee912fdd2349c01c5557aee", func := "keyhole/keyholelaw31.SatRefutes", spec := "satRefutes", unfollowed := true, recurses := true, apart := false }
def SatRefutesSaid : Prop := satRefutesRow.holds Try.pinned (OpenSpec.ofChange satRefutesSpec)

/-- ITS FALSE NEIGHBOUR: 'it returns false'. Refute it at one input. -/
def satRefutesWrong : ChangeSpec := { name := "satRefutes", fn := fun _ => fun
  | [d] => { results := [.lit (.bool false)], args := [d] }
  | _ => none }
def SatRefutesWrongFalsely : Prop := satRefutesRow.holds Try.pinned (OpenSpec.ofChange satRefutesWrong)

/- THE SECOND FORM. 'bulk': how many values and letters a reading holds, each counted each time it is reached (what is shared counts as often as it is met; a slice's spare places count too). A statement '..UptoSaid' is the law's where the arguments, and the package variables that the reading takes, are together of bulk at most 1048576: NARROWER than '..Said'. Prove '..Said' where nothing that the law and all that it calls make is longer than what came in: it says more and counts as full. Else prove '..UptoSaid'. A law counts once. -/
mutual
def uptoBulk {H : Type} : DataW H → Nat
  | .lit (.string bytes) => bytes.length + 1
  | .lit _ => 1
  | .nil => 1
  | .ptr d => uptoBulk d + 1
  | .slice elems spare => uptoBulkAll elems + uptoBulkAll spare + 1
  | .agg parts => uptoBulkAll parts + 1
  | .iface _ d => uptoBulk d + 1
  | .map entries => uptoBulkEntries entries + 1
  | .held _ => 1
def uptoBulkAll {H : Type} : List (DataW H) → Nat
  | [] => 0
  | d :: r => uptoBulk d + uptoBulkAll r
def uptoBulkEntries {H : Type} : List (Lit × DataW H) → Nat
  | [] => 0
  | x :: r => uptoBulkEntry x + uptoBulkEntries r
def uptoBulkEntry {H : Type} : Lit × DataW H → Nat
  | (.string bytes, d) => bytes.length + uptoBulk d + 1
  | (_, d) => uptoBulk d + 1
 end
def uptoSmall : (H : Type) → List (DataW H) → Bool := fun _ ds => decide (uptoBulkAll ds ≤ 1048576)
def OpenSpec.upto (s : _root_.Go.ChangeSpec) : _root_.Go.OpenSpec := { _root_.Go.OpenSpec.ofChange s with cond := some uptoSmall }

/-- 'keyholelaw31.SatPropagates', WHERE WHAT IT READS IS OF BULK AT MOST 1048576: true; the input reads as it did. -/
def satPropagatesUptoRow : OpenClaim := { program := "ytjbhglmmakkkgaa", sum := "1bd7d046aef2c15b3affa74f10d77e4a01fc82b61ee912fdd2349c01c5557aee", func := "keyhole/keyholelaw31.SatPropagates", spec := "satPropagates", unfollowed := true, recurses := true, apart := false, narrowed := true }
def SatPropagatesUptoSaid : Prop := satPropagatesUptoRow.holds Try.pinned (OpenSpec.upto satPropagatesSpec)

/-- 'keyholelaw31.SatSolves', WHERE WHAT IT READS IS OF BULK AT MOST 1048576: true; the input reads as it did. -/
def satSolvesUptoRow : OpenClaim := { program := "ytjbhglmmakkkgaa", sum := "1bd7d046aef2c15b3affa74f10d77e4a01fc82b61ee912fdd2349c01c5557aee", func := "keyhole/keyholelaw31.SatSolves", spec := "satSolves", unfollowed := true, recurses := true, apart := false, narrowed := true }
def SatSolvesUptoSaid : Prop := satSolvesUptoRow.holds Try.pinned (OpenSpec.upto satSolvesSpec)

/-- 'keyholelaw31.SatBackbones', WHERE WHAT IT READS IS OF BULK AT MOST 1048576: true; the input reads as it did. -/
def satBackbonesUptoRow : OpenClaim := { program := "ytjbhglmmakkkgaa", sum := "1bd7d046aef2c15b3affa74f10d77e4a01fc82b61ee912fdd2349c01c5557aee", func := "keyhole/keyholelaw31.SatBackbones", spec := "satBackbones", unfollowed := true, recurses := true, apart := false, narrowed := true }
def SatBackbonesUptoSaid : Prop := satBackbonesUptoRow.holds Try.pinned (OpenSpec.upto satBackbonesSpec)

/-- 'keyholelaw31.SatFollows', WHERE WHAT IT READS IS OF BULK AT MOST 1048576: true; the input reads as it did. -/
def satFollowsUptoRow : OpenClaim := { program := "ytjbhglmmakkkgaa", sum := "1bd7d046aef2c15b3affa74f10d77e4a01fc82b61ee912fdd2349c01c5557aee", func := "keyhole/keyholelaw31.SatFollows", spec := "satFollows", unfollowed := true, recurses := true, apart := false, narrowed := true }
def SatFollowsUptoSaid : Prop := satFollowsUptoRow.holds Try.pinned (OpenSpec.upto satFollowsSpec)

/-- 'keyholelaw31.SatCores', WHERE WHAT IT READS IS OF BULK AT MOST 1048576: true; the input reads as it did. -/
def satCoresUptoRow : OpenClaim := { program := "ytjbhglmmakkkgaa", sum := "1bd7d046aef2c15b3affa74f10d77e4a01fc82b61ee912fdd2349c01c5557aee", func := "keyhole/keyholelaw31.SatCores", spec := "satCores", unfollowed := true, recurses := true, apart := false, narrowed := true }
def SatCoresUptoSaid : Prop := satCoresUptoRow.holds Try.pinned (OpenSpec.upto satCoresSpec)

/-- 'keyholelaw31.SatNeeded', WHERE WHAT IT READS IS OF BULK AT MOST 1048576: true; the input reads as it did. -/
def satNeededUptoRow : OpenClaim := { program := "ytjbhglmmakkkgaa", sum := "1bd7d046aef2c15b3affa74f10d77e4a01fc82b61ee912fdd2349c01c5557aee", func := "keyhole/keyholelaw31.SatNeeded", spec := "satNeeded", unfollowed := true, recurses := true, apart := false, narrowed := true }
def SatNeededUptoSaid : Prop := satNeededUptoRow.holds Try.pinned (OpenSpec.upto satNeededSpec)

/-- 'keyholelaw31.SatChecks', WHERE WHAT IT READS IS OF BULK AT MOST 1048576: true; the input reads as it did. -/
def satChecksUptoRow : OpenClaim := { program := "ytjbhglmmakkkgaa", sum := "1bd7d046aef2c15b3affa74f10d77e4a01fc82b61ee912fdd2349c01c5557aee", func := "keyhole/keyholelaw31.SatChecks", spec := "satChecks", unfollowed := true, recurses := true, apart := false, narrowed := true }
def SatChecksUptoSaid : Prop := satChecksUptoRow.holds Try.pinned (OpenSpec.upto satChecksSpec)

/-- 'keyholelaw31.SatSound', WHERE WHAT IT READS IS OF BULK AT MOST 1048576: true; the input reads as it did. -/
def satSoundUptoRow : OpenClaim := { program := "ytjbhglmmakkkgaa", sum := "1bd7d046aef2c15b3affa74f10d77e4a01fc82b61ee912fdd2349c01c5557aee", func := "keyhole/keyholelaw31.SatSound", spec := "satSound", unfollowed := true, recurses := true, apart := false, narrowed := true }
def SatSoundUptoSaid : Prop := satSoundUptoRow.holds Try.pinned (OpenSpec.upto satSoundSpec)

/-- 'keyholelaw31.SatRefutes', WHERE WHAT IT READS IS OF BULK AT MOST 1048576: true; the input reads as it did. -/
def satRefutesUptoRow : OpenClaim := { program := "ytjbhglmmakkkgaa", sum := "1bd7d046aef2c15b3affa74f10d77e4a01fc82b61ee912fdd2349c01c5557aee", func := "keyhole/keyholelaw31.SatRefutes", spec := "satRefutes", unfollowed := true, recurses := true, apart := false, narrowed := true }
def SatRefutesUptoSaid : Prop := satRefutesUptoRow.holds Try.pinned (OpenSpec.upto satRefutesSpec)

end Rows
end Go.Proofs.Ytjbhglmmakkkgaa
