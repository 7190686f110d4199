/-
  DERIVED. GIVEN WITH THE SEED: THE CARDS: each row of YtojdnnogpffhpaaGreatDoorRows.lean that lists a variable, with what it lists TIED to the program's text (the seventh form; the later family's looks); each row that meets fmt, with fmt's text TOLD by the authors' own Lean function (tested against real Go, not proved from fmt's source: count such statements apart). THE CARD IS WHAT COUNTS. Prove the row's statement (the work); the ties are given (YtojdnnogpffhpaaGreatDoorTie.lean); close each card by the builder's one call (the guide's Derived/Test/ToyasCard.lean, 'card_holds'). Laid BY PROGRAM, IN A SANDBOX (cutbox-door.mjs). By AI agents, Wed Nov 11 2026. No macro, syntax, notation, axiom, sorry.
-/
import Derived.Test.YtojdnnogpffhpaaGreatDoorRows
import GoSem.ClaimSeven
namespace Go.Proofs.YtojdnnogpffhpaaGreatDoor
namespace Rows

/-- THE TIED CARD OF 'offcutlaw09.NotesParses'. -/
def notesParsesCard : Claim7 := { stood := { row := notesParsesRow, standIns := [], harness := (true, "f491eca3a422bacd202dce2dd588e70491ca56012a5f83e2b0f198b84c88752d"), looks := false }, kinds := [], alts := [], laidByText := true, laidKinds := [.data, .listed, .data, .pinned], laidTests := true, laidLooks := .later }
def NotesParsesCardSaid : Prop := Claim7.holds Tryz.pinned (.plain (OpenSpec.ofChange notesParsesSpec)) notesParsesCard

/-- THE TIED CARD OF 'offcutlaw09.NotesOrder'. -/
def notesOrderCard : Claim7 := { stood := { row := notesOrderRow, standIns := [], harness := (true, "f491eca3a422bacd202dce2dd588e70491ca56012a5f83e2b0f198b84c88752d"), looks := false }, kinds := [], alts := [], laidByText := true, laidKinds := [.data, .listed, .data, .pinned], laidTests := true, laidLooks := .later }
def NotesOrderCardSaid : Prop := Claim7.holds Tryz.pinned (.plain (OpenSpec.ofChange notesOrderSpec)) notesOrderCard

/-- THE TIED CARD OF 'offcutlaw09.NotesSame'. -/
def notesSameCard : Claim7 := { stood := { row := notesSameRow, standIns := [], harness := (true, "f491eca3a422bacd202dce2dd588e70491ca56012a5f83e2b0f198b84c88752d"), looks := false }, kinds := [], alts := [], laidByText := true, laidKinds := [.data, .listed, .data, .pinned], laidTests := true, laidLooks := .later }
def NotesSameCardSaid : Prop := Claim7.holds Tryz.pinned (.plain (OpenSpec.ofChange notesSameSpec)) notesSameCard

/-- THE TIED CARD OF 'offcutlaw09.NotesHomes'. -/
def notesHomesCard : Claim7 := { stood := { row := notesHomesRow, standIns := [], harness := (true, "f491eca3a422bacd202dce2dd588e70491ca56012a5f83e2b0f198b84c88752d"), looks := false }, kinds := [], alts := [], laidByText := true, laidKinds := [.data, .listed, .data, .pinned], laidTests := true, laidLooks := .later }
def NotesHomesCardSaid : Prop := Claim7.holds Tryz.pinned (.plain (OpenSpec.ofChange notesHomesSpec)) notesHomesCard

/-- THE TIED CARD OF 'offcutlaw09.NotesPrints'. -/
def notesPrintsCard : Claim7 := { stood := { row := notesPrintsRow, standIns := [], harness := (true, "f491eca3a422bacd202dce2dd588e70491ca56012a5f83e2b0f198b84c88752d"), looks := false }, kinds := [], alts := [], laidByText := true, laidKinds := [.data, .listed, .data, .pinned], laidTests := true, laidLooks := .later }
def NotesPrintsCardSaid : Prop := Claim7.holds Tryz.pinned (.plain (OpenSpec.ofChange notesPrintsSpec)) notesPrintsCard

/-- THE SECOND FORM's CARD OF 'offcutlaw09.NotesParses'. -/
def notesParsesUptoCard : Claim7 := { stood := { row := notesParsesUptoRow, standIns := [], harness := (true, "f491eca3a422bacd202dce2dd588e70491ca56012a5f83e2b0f198b84c88752d"), looks := false }, kinds := [], alts := [], laidByText := true, laidKinds := [.data, .listed, .data, .pinned], laidTests := true, laidLooks := .later }
def NotesParsesUptoCardSaid : Prop := Claim7.holds Tryz.pinned (.plain (OpenSpec.upto notesParsesSpec)) notesParsesUptoCard

/-- THE SECOND FORM's CARD OF 'offcutlaw09.NotesOrder'. -/
def notesOrderUptoCard : Claim7 := { stood := { row := notesOrderUptoRow, standIns := [], harness := (true, "f491eca3a422bacd202dce2dd588e70491ca56012a5f83e2b0f198b84c88752d"), looks := false }, kinds := [], alts := [], laidByText := true, laidKinds := [.data, .listed, .data, .pinned], laidTests := true, laidLooks := .later }
def NotesOrderUptoCardSaid : Prop := Claim7.holds Tryz.pinned (.plain (OpenSpec.upto notesOrderSpec)) notesOrderUptoCard

/-- THE SECOND FORM's CARD OF 'offcutlaw09.NotesSame'. -/
def notesSameUptoCard : Claim7 := { stood := { row := notesSameUptoRow, standIns := [], harness := (true, "f491eca3a422bacd202dce2dd588e70491ca56012a5f83e2b0f198b84c88752d"), looks := false }, kinds := [], alts := [], laidByText := true, laidKinds := [.data, .listed, .data, .pinned], laidTests := true, laidLooks := .later }
def NotesSameUptoCardSaid : Prop := Claim7.holds Tryz.pinned (.plain (OpenSpec.upto notesSameSpec)) notesSameUptoCard

/-- THE SECOND FORM's CARD OF 'offcutlaw09.NotesHomes'. -/
def notesHomesUptoCard : Claim7 := { stood := { row := notesHomesUptoRow, standIns := [], harness := (true, "f491eca3a422bacd202dce2dd588e70491ca56012a5f83e2b0f198b84c88752d"), looks := false }, kinds := [], alts := [], laidByText := true, laidKinds := [.data, .listed, .data, .pinned], laidTests := true, laidLooks := .later }
def NotesHomesUptoCardSaid : Prop := Claim7.holds Tryz.pinned (.plain (OpenSpec.upto notesHomesSpec)) notesHomesUptoCard

/-- THE SECOND FORM's CARD OF 'offcutlaw09.NotesPrints'. -/
def notesPrintsUptoCard : Claim7 := { stood := { row := notesPrintsUptoRow, standIns := [], harness := (true, "f491eca3a422bacd202dce2dd588e70491ca56012a5f83e2b0f198b84c88752d"), looks := false }, kinds := [], alts := [], laidByText := true, laidKinds := [.data, .listed, .data, .pinned], laidTests := true, laidLooks := .later }
def NotesPrintsUptoCardSaid : Prop := Claim7.holds Tryz.pinned (.plain (OpenSpec.upto notesPrintsSpec)) notesPrintsUptoCard
end Rows
end Go.Proofs.YtojdnnogpffhpaaGreatDoor
