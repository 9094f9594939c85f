/-
  DERIVED. GIVEN WITH THE SEED: THE CARDS: each row of YthkpobipndifoaaGreatDoorRows.lean that lists a variable, with what it lists TIED to the program's text (the seventh form; the later family's looks); each row that meets fmt, with fmt's text TOLD by the authors' own Lean function (tested against real Go, not proved from fmt's source: count such statements apart). THE CARD IS WHAT COUNTS. Prove the row's statement (the work); the ties are given (YthkpobipndifoaaGreatDoorTie.lean); close each card by the builder's one call (the guide's Derived/Test/ToyasCard.lean, 'card_holds'). Laid BY PROGRAM, IN A SANDBOX (cutbox-door.mjs). By AI agents, Wed Nov 11 2026. No macro, syntax, notation, axiom, sorry.
-/
import Derived.Test.YthkpobipndifoaaGreatDoorRows
import GoSem.ClaimSeven
namespace Go.Proofs.YthkpobipndifoaaGreatDoor
namespace Rows

/-- THE TIED CARD OF 'keyholelaw30.CnfParse'. -/
def cnfParseCard : Claim7 := { stood := { row := cnfParseRow, standIns := [], harness := (true, "e9ae7b09bb820bf491b383f019cfd005a29f966d11cc2ce43658e54c579ee340"), looks := true }, kinds := [], alts := [], laidByText := true, laidKinds := [.data, .data, .data, .sentinel, .sentinel], laidTests := true, laidLooks := .later }
def CnfParseCardSaid : Prop := Claim7.holds Tryz.pinned (.plain (OpenSpec.ofChange cnfParseSpec)) cnfParseCard

/-- THE TIED CARD OF 'keyholelaw30.CnfText'. -/
def cnfTextCard : Claim7 := { stood := { row := cnfTextRow, standIns := [], harness := (true, "e9ae7b09bb820bf491b383f019cfd005a29f966d11cc2ce43658e54c579ee340"), looks := true }, kinds := [], alts := [], laidByText := true, laidKinds := [.data, .data, .data, .sentinel, .sentinel], laidTests := true, laidLooks := .later }
def CnfTextCardSaid : Prop := Claim7.holds Tryz.pinned (.plain (OpenSpec.ofChange cnfTextSpec)) cnfTextCard

/-- THE SECOND FORM's CARD OF 'keyholelaw30.CnfParse'. -/
def cnfParseUptoCard : Claim7 := { stood := { row := cnfParseUptoRow, standIns := [], harness := (true, "e9ae7b09bb820bf491b383f019cfd005a29f966d11cc2ce43658e54c579ee340"), looks := true }, kinds := [], alts := [], laidByText := true, laidKinds := [.data, .data, .data, .sentinel, .sentinel], laidTests := true, laidLooks := .later }
def CnfParseUptoCardSaid : Prop := Claim7.holds Tryz.pinned (.plain (OpenSpec.upto cnfParseSpec)) cnfParseUptoCard

/-- THE SECOND FORM's CARD OF 'keyholelaw30.CnfText'. -/
def cnfTextUptoCard : Claim7 := { stood := { row := cnfTextUptoRow, standIns := [], harness := (true, "e9ae7b09bb820bf491b383f019cfd005a29f966d11cc2ce43658e54c579ee340"), looks := true }, kinds := [], alts := [], laidByText := true, laidKinds := [.data, .data, .data, .sentinel, .sentinel], laidTests := true, laidLooks := .later }
def CnfTextUptoCardSaid : Prop := Claim7.holds Tryz.pinned (.plain (OpenSpec.upto cnfTextSpec)) cnfTextUptoCard
end Rows
end Go.Proofs.YthkpobipndifoaaGreatDoor
