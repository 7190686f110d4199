/-
  DERIVED. GIVEN WITH THE SEED: THE CARDS: each row of YtdbfgnpobfbfmaaDoorRows.lean that lists a variable, with what it lists TIED to the program's text (the seventh form; the later family's looks); each row that meets fmt, with fmt's text TOLD by the authors' own Lean function (tested against real Go, not proved from fmt's source: count such statements apart). THE CARD IS WHAT COUNTS. Prove the row's statement (the work); the ties are given (YtdbfgnpobfbfmaaDoorTie.lean); close each card by the builder's one call (the guide's Derived/Test/ToyasCard.lean, 'card_holds'). Laid BY PROGRAM, IN A SANDBOX (cutbox-door.mjs). By AI agents, Wed Nov 11 2026. No macro, syntax, notation, axiom, sorry.
-/
import Derived.Test.YtdbfgnpobfbfmaaDoorRows
import GoSem.ClaimSeven
namespace Go.Proofs.YtdbfgnpobfbfmaaDoor
namespace Rows

/-- THE TIED CARD OF 'offcutlaw07.LinesNumbers'. -/
def linesNumbersCard : Claim7 := { stood := { row := linesNumbersRow, standIns := [], harness := (true, "e5ab35009846dacecbb128698276e2522a76fae9c59a660c3201beba10d7f0be"), looks := false }, kinds := [], alts := [], laidByText := true, laidKinds := [.data, .listed, .data, .pinned], laidTests := true, laidLooks := .later }
def LinesNumbersCardSaid : Prop := Claim7.holds Tryd.pinned (.plain (OpenSpec.ofChange linesNumbersSpec)) linesNumbersCard

/-- THE SECOND FORM's CARD OF 'offcutlaw07.LinesNumbers'. -/
def linesNumbersUptoCard : Claim7 := { stood := { row := linesNumbersUptoRow, standIns := [], harness := (true, "e5ab35009846dacecbb128698276e2522a76fae9c59a660c3201beba10d7f0be"), looks := false }, kinds := [], alts := [], laidByText := true, laidKinds := [.data, .listed, .data, .pinned], laidTests := true, laidLooks := .later }
def LinesNumbersUptoCardSaid : Prop := Claim7.holds Tryd.pinned (.plain (OpenSpec.upto linesNumbersSpec)) linesNumbersUptoCard
end Rows
end Go.Proofs.YtdbfgnpobfbfmaaDoor
