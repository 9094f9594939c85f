/-
  DERIVED. GIVEN WITH THE SEED: THE CARDS: each row of YtljaegmmfjllkaaGreatDoorRows.lean that lists a variable, with what it lists TIED to the program's text (the seventh form; the later family's looks); each row that meets fmt, with fmt's text TOLD by the authors' own Lean function (tested against real Go, not proved from fmt's source: count such statements apart). THE CARD IS WHAT COUNTS. Prove the row's statement (the work); the ties are given (YtljaegmmfjllkaaGreatDoorTie.lean); close each card by the builder's one call (the guide's Derived/Test/ToyasCard.lean, 'card_holds'). Laid BY PROGRAM, IN A SANDBOX (cutbox-door.mjs). By AI agents, Wed Nov 11 2026. No macro, syntax, notation, axiom, sorry.
-/
import Derived.Test.YtljaegmmfjllkaaGreatDoorRows
import GoSem.ClaimSeven
namespace Go.Proofs.YtljaegmmfjllkaaGreatDoor
namespace Rows

/-- THE TIED CARD OF 'keyholelaw34.TraceText'. -/
def traceTextCard : Claim7 := { stood := { row := traceTextRow, standIns := [], harness := (true, "8c7fb2460d6e2659a9db521eb3a70f4ca81d5dfc58d8e2769ae4760a5dddaab4"), looks := true }, kinds := [], alts := [], laidByText := true, laidKinds := [.data, .data, .data, .sentinel, .sentinel], laidTests := true, laidLooks := .later }
def TraceTextCardSaid : Prop := Claim7.holds Tryz.pinned (.plain (OpenSpec.ofChange traceTextSpec)) traceTextCard

/-- THE TIED CARD OF 'keyholelaw34.TraceParse'. -/
def traceParseCard : Claim7 := { stood := { row := traceParseRow, standIns := [], harness := (true, "8c7fb2460d6e2659a9db521eb3a70f4ca81d5dfc58d8e2769ae4760a5dddaab4"), looks := true }, kinds := [], alts := [], laidByText := true, laidKinds := [.data, .data, .data, .sentinel, .sentinel], laidTests := true, laidLooks := .later }
def TraceParseCardSaid : Prop := Claim7.holds Tryz.pinned (.plain (OpenSpec.ofChange traceParseSpec)) traceParseCard

/-- THE SECOND FORM's CARD OF 'keyholelaw34.TraceText'. -/
def traceTextUptoCard : Claim7 := { stood := { row := traceTextUptoRow, standIns := [], harness := (true, "8c7fb2460d6e2659a9db521eb3a70f4ca81d5dfc58d8e2769ae4760a5dddaab4"), looks := true }, kinds := [], alts := [], laidByText := true, laidKinds := [.data, .data, .data, .sentinel, .sentinel], laidTests := true, laidLooks := .later }
def TraceTextUptoCardSaid : Prop := Claim7.holds Tryz.pinned (.plain (OpenSpec.upto traceTextSpec)) traceTextUptoCard

/-- THE SECOND FORM's CARD OF 'keyholelaw34.TraceParse'. -/
def traceParseUptoCard : Claim7 := { stood := { row := traceParseUptoRow, standIns := [], harness := (true, "8c7fb2460d6e2659a9db521eb3a70f4ca81d5dfc58d8e2769ae4760a5dddaab4"), looks := true }, kinds := [], alts := [], laidByText := true, laidKinds := [.data, .data, .data, .sentinel, .sentinel], laidTests := true, laidLooks := .later }
def TraceParseUptoCardSaid : Prop := Claim7.holds Tryz.pinned (.plain (OpenSpec.upto traceParseSpec)) traceParseUptoCard
end Rows
end Go.Proofs.YtljaegmmfjllkaaGreatDoor
