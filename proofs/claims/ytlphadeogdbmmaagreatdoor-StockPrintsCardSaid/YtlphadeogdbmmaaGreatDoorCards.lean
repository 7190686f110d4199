/-
  DERIVED. GIVEN WITH THE SEED: THE CARDS: each row of YtlphadeogdbmmaaGreatDoorRows.lean that lists a variable, with what it lists TIED to the program's text (the seventh form; the later family's looks); each row that meets fmt, with fmt's text TOLD by the authors' own Lean function (tested against real Go, not proved from fmt's source: count such statements apart). THE CARD IS WHAT COUNTS. Prove the row's statement (the work); the ties are given (YtlphadeogdbmmaaGreatDoorTie.lean); close each card by the builder's one call (the guide's Derived/Test/ToyasCard.lean, 'card_holds'). Laid BY PROGRAM, IN A SANDBOX (cutbox-door.mjs). By AI agents, Wed Nov 11 2026. No macro, syntax, notation, axiom, sorry.
-/
import Derived.Test.YtlphadeogdbmmaaGreatDoorRows
import GoSem.ClaimSeven
namespace Go.Proofs.YtlphadeogdbmmaaGreatDoor
namespace Rows

/-- THE TIED CARD OF 'offcutlaw10.StockParses'. -/
def stockParsesCard : Claim7 := { stood := { row := stockParsesRow, standIns := [], harness := (true, "6dd7eda9aeb5c442b461ad314c4ea0a7c88e2597670096686301600dda3c4b88"), looks := true }, kinds := [], alts := [], laidByText := true, laidKinds := [.data, .data, .data, .data, .sentinel, .sentinel, .listed, .data, .pinned], laidTests := true, laidLooks := .later }
def StockParsesCardSaid : Prop := Claim7.holds Tryz.pinned (.plain (OpenSpec.ofChange stockParsesSpec)) stockParsesCard

/-- THE TIED CARD OF 'offcutlaw10.StockPrints'. -/
def stockPrintsCard : Claim7 := { stood := { row := stockPrintsRow, standIns := [], harness := (true, "6dd7eda9aeb5c442b461ad314c4ea0a7c88e2597670096686301600dda3c4b88"), looks := true }, kinds := [], alts := [], laidByText := true, laidKinds := [.data, .data, .data, .data, .sentinel, .sentinel, .listed, .data, .pinned], laidTests := true, laidLooks := .later }
def StockPrintsCardSaid : Prop := Claim7.holds Tryz.pinned (.plain (OpenSpec.ofChange stockPrintsSpec)) stockPrintsCard

/-- THE SECOND FORM's CARD OF 'offcutlaw10.StockParses'. -/
def stockParsesUptoCard : Claim7 := { stood := { row := stockParsesUptoRow, standIns := [], harness := (true, "6dd7eda9aeb5c442b461ad314c4ea0a7c88e2597670096686301600dda3c4b88"), looks := true }, kinds := [], alts := [], laidByText := true, laidKinds := [.data, .data, .data, .data, .sentinel, .sentinel, .listed, .data, .pinned], laidTests := true, laidLooks := .later }
def StockParsesUptoCardSaid : Prop := Claim7.holds Tryz.pinned (.plain (OpenSpec.upto stockParsesSpec)) stockParsesUptoCard

/-- THE SECOND FORM's CARD OF 'offcutlaw10.StockPrints'. -/
def stockPrintsUptoCard : Claim7 := { stood := { row := stockPrintsUptoRow, standIns := [], harness := (true, "6dd7eda9aeb5c442b461ad314c4ea0a7c88e2597670096686301600dda3c4b88"), looks := true }, kinds := [], alts := [], laidByText := true, laidKinds := [.data, .data, .data, .data, .sentinel, .sentinel, .listed, .data, .pinned], laidTests := true, laidLooks := .later }
def StockPrintsUptoCardSaid : Prop := Claim7.holds Tryz.pinned (.plain (OpenSpec.upto stockPrintsSpec)) stockPrintsUptoCard
end Rows
end Go.Proofs.YtlphadeogdbmmaaGreatDoor
