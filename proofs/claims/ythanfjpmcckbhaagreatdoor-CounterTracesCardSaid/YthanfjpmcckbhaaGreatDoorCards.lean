/-
  DERIVED. GIVEN WITH THE SEED: THE CARDS: each row of YthanfjpmcckbhaaGreatDoorRows.lean that lists a variable, with what it lists TIED to the program's text (the seventh form; the later family's looks); each row that meets fmt, with fmt's text TOLD by the authors' own Lean function (tested against real Go, not proved from fmt's source: count such statements apart). THE CARD IS WHAT COUNTS. Prove the row's statement (the work); the ties are given (YthanfjpmcckbhaaGreatDoorTie.lean); close each card by the builder's one call (the guide's Derived/Test/ToyasCard.lean, 'card_holds'). Laid BY PROGRAM, IN A SANDBOX (cutbox-door.mjs). By AI agents, Wed Nov 11 2026. No macro, syntax, notation, axiom, sorry.
-/
import Derived.Test.YthanfjpmcckbhaaGreatDoorRows
import GoSem.ClaimSeven
namespace Go.Proofs.YthanfjpmcckbhaaGreatDoor
namespace Rows

/-- THE TIED CARD OF 'keyholelaw32.CounterCounts'. -/
def counterCountsCard : Claim7 := { stood := { row := counterCountsRow, standIns := [], harness := (true, "c22f66dfe7c8ae6eab3477afff4f9c11aeb98792d80be54c5f7e6e0e3091a48e"), looks := false }, kinds := [], alts := [], laidByText := true, laidKinds := [.data, .data, .data], laidTests := true, laidLooks := .later }
def CounterCountsCardSaid : Prop := Claim7.holds Tryz.pinned (.plain (OpenSpec.ofChange counterCountsSpec)) counterCountsCard

/-- THE TIED CARD OF 'keyholelaw32.CounterWith'. -/
def counterWithCard : Claim7 := { stood := { row := counterWithRow, standIns := [], harness := (true, "c22f66dfe7c8ae6eab3477afff4f9c11aeb98792d80be54c5f7e6e0e3091a48e"), looks := false }, kinds := [], alts := [], laidByText := true, laidKinds := [.data, .data, .data], laidTests := true, laidLooks := .later }
def CounterWithCardSaid : Prop := Claim7.holds Tryz.pinned (.plain (OpenSpec.ofChange counterWithSpec)) counterWithCard

/-- THE TIED CARD OF 'keyholelaw32.CounterFrequencies'. -/
def counterFrequenciesCard : Claim7 := { stood := { row := counterFrequenciesRow, standIns := [], harness := (true, "c22f66dfe7c8ae6eab3477afff4f9c11aeb98792d80be54c5f7e6e0e3091a48e"), looks := false }, kinds := [], alts := [], laidByText := true, laidKinds := [.data, .data, .data], laidTests := true, laidLooks := .later }
def CounterFrequenciesCardSaid : Prop := Claim7.holds Tryz.pinned (.plain (OpenSpec.ofChange counterFrequenciesSpec)) counterFrequenciesCard

/-- THE TIED CARD OF 'keyholelaw32.CounterComponents'. -/
def counterComponentsCard : Claim7 := { stood := { row := counterComponentsRow, standIns := [], harness := (true, "c22f66dfe7c8ae6eab3477afff4f9c11aeb98792d80be54c5f7e6e0e3091a48e"), looks := false }, kinds := [], alts := [], laidByText := true, laidKinds := [.data, .data, .data], laidTests := true, laidLooks := .later }
def CounterComponentsCardSaid : Prop := Claim7.holds Tryz.pinned (.plain (OpenSpec.ofChange counterComponentsSpec)) counterComponentsCard

/-- THE TIED CARD OF 'keyholelaw32.CounterSplits'. -/
def counterSplitsCard : Claim7 := { stood := { row := counterSplitsRow, standIns := [], harness := (true, "c22f66dfe7c8ae6eab3477afff4f9c11aeb98792d80be54c5f7e6e0e3091a48e"), looks := false }, kinds := [], alts := [], laidByText := true, laidKinds := [.data, .data, .data], laidTests := true, laidLooks := .later }
def CounterSplitsCardSaid : Prop := Claim7.holds Tryz.pinned (.plain (OpenSpec.ofChange counterSplitsSpec)) counterSplitsCard

/-- THE TIED CARD OF 'keyholelaw32.CounterKeeps'. -/
def counterKeepsCard : Claim7 := { stood := { row := counterKeepsRow, standIns := [], harness := (true, "c22f66dfe7c8ae6eab3477afff4f9c11aeb98792d80be54c5f7e6e0e3091a48e"), looks := false }, kinds := [], alts := [], laidByText := true, laidKinds := [.data, .data, .data], laidTests := true, laidLooks := .later }
def CounterKeepsCardSaid : Prop := Claim7.holds Tryz.pinned (.plain (OpenSpec.ofChange counterKeepsSpec)) counterKeepsCard

/-- THE TIED CARD OF 'keyholelaw32.CounterProducts'. -/
def counterProductsCard : Claim7 := { stood := { row := counterProductsRow, standIns := [], harness := (true, "c22f66dfe7c8ae6eab3477afff4f9c11aeb98792d80be54c5f7e6e0e3091a48e"), looks := false }, kinds := [], alts := [], laidByText := true, laidKinds := [.data, .data, .data], laidTests := true, laidLooks := .later }
def CounterProductsCardSaid : Prop := Claim7.holds Tryz.pinned (.plain (OpenSpec.ofChange counterProductsSpec)) counterProductsCard

/-- THE TIED CARD OF 'keyholelaw32.CounterTraces'. -/
def counterTracesCard : Claim7 := { stood := { row := counterTracesRow, standIns := [], harness := (true, "c22f66dfe7c8ae6eab3477afff4f9c11aeb98792d80be54c5f7e6e0e3091a48e"), looks := false }, kinds := [], alts := [], laidByText := true, laidKinds := [.data, .data, .data], laidTests := true, laidLooks := .later }
def CounterTracesCardSaid : Prop := Claim7.holds Tryz.pinned (.plain (OpenSpec.ofChange counterTracesSpec)) counterTracesCard

/-- THE SECOND FORM's CARD OF 'keyholelaw32.CounterCounts'. -/
def counterCountsUptoCard : Claim7 := { stood := { row := counterCountsUptoRow, standIns := [], harness := (true, "c22f66dfe7c8ae6eab3477afff4f9c11aeb98792d80be54c5f7e6e0e3091a48e"), looks := false }, kinds := [], alts := [], laidByText := true, laidKinds := [.data, .data, .data], laidTests := true, laidLooks := .later }
def CounterCountsUptoCardSaid : Prop := Claim7.holds Tryz.pinned (.plain (OpenSpec.upto counterCountsSpec)) counterCountsUptoCard

/-- THE SECOND FORM's CARD OF 'keyholelaw32.CounterWith'. -/
def counterWithUptoCard : Claim7 := { stood := { row := counterWithUptoRow, standIns := [], harness := (true, "c22f66dfe7c8ae6eab3477afff4f9c11aeb98792d80be54c5f7e6e0e3091a48e"), looks := false }, kinds := [], alts := [], laidByText := true, laidKinds := [.data, .data, .data], laidTests := true, laidLooks := .later }
def CounterWithUptoCardSaid : Prop := Claim7.holds Tryz.pinned (.plain (OpenSpec.upto counterWithSpec)) counterWithUptoCard

/-- THE SECOND FORM's CARD OF 'keyholelaw32.CounterFrequencies'. -/
def counterFrequenciesUptoCard : Claim7 := { stood := { row := counterFrequenciesUptoRow, standIns := [], harness := (true, "c22f66dfe7c8ae6eab3477afff4f9c11aeb98792d80be54c5f7e6e0e3091a48e"), looks := false }, kinds := [], alts := [], laidByText := true, laidKinds := [.data, .data, .data], laidTests := true, laidLooks := .later }
def CounterFrequenciesUptoCardSaid : Prop := Claim7.holds Tryz.pinned (.plain (OpenSpec.upto counterFrequenciesSpec)) counterFrequenciesUptoCard

/-- THE SECOND FORM's CARD OF 'keyholelaw32.CounterComponents'. -/
def counterComponentsUptoCard : Claim7 := { stood := { row := counterComponentsUptoRow, standIns := [], harness := (true, "c22f66dfe7c8ae6eab3477afff4f9c11aeb98792d80be54c5f7e6e0e3091a48e"), looks := false }, kinds := [], alts := [], laidByText := true, laidKinds := [.data, .data, .data], laidTests := true, laidLooks := .later }
def CounterComponentsUptoCardSaid : Prop := Claim7.holds Tryz.pinned (.plain (OpenSpec.upto counterComponentsSpec)) counterComponentsUptoCard

/-- THE SECOND FORM's CARD OF 'keyholelaw32.CounterSplits'. -/
def counterSplitsUptoCard : Claim7 := { stood := { row := counterSplitsUptoRow, standIns := [], harness := (true, "c22f66dfe7c8ae6eab3477afff4f9c11aeb98792d80be54c5f7e6e0e3091a48e"), looks := false }, kinds := [], alts := [], laidByText := true, laidKinds := [.data, .data, .data], laidTests := true, laidLooks := .later }
def CounterSplitsUptoCardSaid : Prop := Claim7.holds Tryz.pinned (.plain (OpenSpec.upto counterSplitsSpec)) counterSplitsUptoCard

/-- THE SECOND FORM's CARD OF 'keyholelaw32.CounterKeeps'. -/
def counterKeepsUptoCard : Claim7 := { stood := { row := counterKeepsUptoRow, standIns := [], harness := (true, "c22f66dfe7c8ae6eab3477afff4f9c11aeb98792d80be54c5f7e6e0e3091a48e"), looks := false }, kinds := [], alts := [], laidByText := true, laidKinds := [.data, .data, .data], laidTests := true, laidLooks := .later }
def CounterKeepsUptoCardSaid : Prop := Claim7.holds Tryz.pinned (.plain (OpenSpec.upto counterKeepsSpec)) counterKeepsUptoCard

/-- THE SECOND FORM's CARD OF 'keyholelaw32.CounterProducts'. -/
def counterProductsUptoCard : Claim7 := { stood := { row := counterProductsUptoRow, standIns := [], harness := (true, "c22f66dfe7c8ae6eab3477afff4f9c11aeb98792d80be54c5f7e6e0e3091a48e"), looks := false }, kinds := [], alts := [], laidByText := true, laidKinds := [.data, .data, .data], laidTests := true, laidLooks := .later }
def CounterProductsUptoCardSaid : Prop := Claim7.holds Tryz.pinned (.plain (OpenSpec.upto counterProductsSpec)) counterProductsUptoCard

/-- THE SECOND FORM's CARD OF 'keyholelaw32.CounterTraces'. -/
def counterTracesUptoCard : Claim7 := { stood := { row := counterTracesUptoRow, standIns := [], harness := (true, "c22f66dfe7c8ae6eab3477afff4f9c11aeb98792d80be54c5f7e6e0e3091a48e"), looks := false }, kinds := [], alts := [], laidByText := true, laidKinds := [.data, .data, .data], laidTests := true, laidLooks := .later }
def CounterTracesUptoCardSaid : Prop := Claim7.holds Tryz.pinned (.plain (OpenSpec.upto counterTracesSpec)) counterTracesUptoCard
end Rows
end Go.Proofs.YthanfjpmcckbhaaGreatDoor
