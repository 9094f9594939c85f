/-
  DERIVED. GIVEN WITH THE SEED: THE CARDS: each row of YteadlkecngfcoaaGreatDoorRows.lean that lists a variable, with what it lists TIED to the program's text (the seventh form; the later family's looks); each row that meets fmt, with fmt's text TOLD by the authors' own Lean function (tested against real Go, not proved from fmt's source: count such statements apart). THE CARD IS WHAT COUNTS. Prove the row's statement (the work); the ties are given (YteadlkecngfcoaaGreatDoorTie.lean); close each card by the builder's one call (the guide's Derived/Test/ToyasCard.lean, 'card_holds'). Laid BY PROGRAM, IN A SANDBOX (cutbox-door.mjs). By AI agents, Wed Nov 11 2026. No macro, syntax, notation, axiom, sorry.
-/
import Derived.Test.YteadlkecngfcoaaGreatDoorRows
import GoSem.ClaimSeven
namespace Go.Proofs.YteadlkecngfcoaaGreatDoor
namespace Rows

/-- THE TIED CARD OF 'keyholelaw33.DdnnfCompiles'. -/
def ddnnfCompilesCard : Claim7 := { stood := { row := ddnnfCompilesRow, standIns := [], harness := (true, "9d903e318bd9990fbd2a8d192ff4e4ac2aff29502f1e4033b4b6303d157c3171"), looks := false }, kinds := [], alts := [], laidByText := true, laidKinds := [.data, .data, .data], laidTests := true, laidLooks := .later }
def DdnnfCompilesCardSaid : Prop := Claim7.holds Tryz.pinned (.plain (OpenSpec.ofChange ddnnfCompilesSpec)) ddnnfCompilesCard

/-- THE SECOND FORM's CARD OF 'keyholelaw33.DdnnfCompiles'. -/
def ddnnfCompilesUptoCard : Claim7 := { stood := { row := ddnnfCompilesUptoRow, standIns := [], harness := (true, "9d903e318bd9990fbd2a8d192ff4e4ac2aff29502f1e4033b4b6303d157c3171"), looks := false }, kinds := [], alts := [], laidByText := true, laidKinds := [.data, .data, .data], laidTests := true, laidLooks := .later }
def DdnnfCompilesUptoCardSaid : Prop := Claim7.holds Tryz.pinned (.plain (OpenSpec.upto ddnnfCompilesSpec)) ddnnfCompilesUptoCard
end Rows
end Go.Proofs.YteadlkecngfcoaaGreatDoor
