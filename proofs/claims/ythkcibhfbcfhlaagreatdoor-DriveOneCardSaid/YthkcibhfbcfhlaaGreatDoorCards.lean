/-
  DERIVED. GIVEN WITH THE SEED: THE CARDS: each row of YthkcibhfbcfhlaaGreatDoorRows.lean that lists a variable, with what it lists TIED to the program's text (the seventh form; the later family's looks); each row that meets fmt, with fmt's text TOLD by the authors' own Lean function (tested against real Go, not proved from fmt's source: count such statements apart). THE CARD IS WHAT COUNTS. Prove the row's statement (the work); the ties are given (YthkcibhfbcfhlaaGreatDoorTie.lean); close each card by the builder's one call (the guide's Derived/Test/ToyasCard.lean, 'card_holds'). Laid BY PROGRAM, IN A SANDBOX (cutbox-door.mjs). By AI agents, Wed Nov 11 2026. No macro, syntax, notation, axiom, sorry.
-/
import Derived.Test.YthkcibhfbcfhlaaGreatDoorRows
import GoSem.ClaimSeven
namespace Go.Proofs.YthkcibhfbcfhlaaGreatDoor
namespace Rows

/-- THE TIED CARD OF 'offcutlaw21.DriveChecks'. -/
def driveChecksCard : Claim7 := { stood := { row := driveChecksRow, standIns := [], harness := (true, "50c761371372dc72b8f244be25386dec469299b3fefdb10708f9ef0aef38384c"), looks := false }, kinds := [], alts := [], laidByText := true, laidKinds := [.data, .data, .data, .data, .listed, .data, .pinned], laidTests := true, laidLooks := .later }
def DriveChecksCardSaid : Prop := Claim7.holds Tryz.pinned (.plain (OpenSpec.ofChange driveChecksSpec)) driveChecksCard

/-- THE TIED CARD OF 'offcutlaw21.DriveOne'. -/
def driveOneCard : Claim7 := { stood := { row := driveOneRow, standIns := [], harness := (true, "50c761371372dc72b8f244be25386dec469299b3fefdb10708f9ef0aef38384c"), looks := false }, kinds := [], alts := [], laidByText := true, laidKinds := [.data, .data, .data, .data, .listed, .data, .pinned], laidTests := true, laidLooks := .later }
def DriveOneCardSaid : Prop := Claim7.holds Tryz.pinned (.plain (OpenSpec.ofChange driveOneSpec)) driveOneCard

/-- THE SECOND FORM's CARD OF 'offcutlaw21.DriveChecks'. -/
def driveChecksUptoCard : Claim7 := { stood := { row := driveChecksUptoRow, standIns := [], harness := (true, "50c761371372dc72b8f244be25386dec469299b3fefdb10708f9ef0aef38384c"), looks := false }, kinds := [], alts := [], laidByText := true, laidKinds := [.data, .data, .data, .data, .listed, .data, .pinned], laidTests := true, laidLooks := .later }
def DriveChecksUptoCardSaid : Prop := Claim7.holds Tryz.pinned (.plain (OpenSpec.upto driveChecksSpec)) driveChecksUptoCard

/-- THE SECOND FORM's CARD OF 'offcutlaw21.DriveOne'. -/
def driveOneUptoCard : Claim7 := { stood := { row := driveOneUptoRow, standIns := [], harness := (true, "50c761371372dc72b8f244be25386dec469299b3fefdb10708f9ef0aef38384c"), looks := false }, kinds := [], alts := [], laidByText := true, laidKinds := [.data, .data, .data, .data, .listed, .data, .pinned], laidTests := true, laidLooks := .later }
def DriveOneUptoCardSaid : Prop := Claim7.holds Tryz.pinned (.plain (OpenSpec.upto driveOneSpec)) driveOneUptoCard
end Rows
end Go.Proofs.YthkcibhfbcfhlaaGreatDoor
