/-
  DERIVED. GIVEN WITH THE SEED: THE CARDS: each row of YtibeobmcanaedaaDoorRows.lean that lists a variable, with what it lists TIED to the program's text (the seventh form; the later family's looks); each row that meets fmt, with fmt's text TOLD by the authors' own Lean function (tested against real Go, not proved from fmt's source: count such statements apart). THE CARD IS WHAT COUNTS. Prove the row's statement (the work); the ties are given (YtibeobmcanaedaaDoorTie.lean); close each card by the builder's one call (the guide's Derived/Test/ToyasCard.lean, 'card_holds'). Laid BY PROGRAM, IN A SANDBOX (cutbox-door.mjs). By AI agents, Wed Nov 11 2026. No macro, syntax, notation, axiom, sorry.
-/
import Derived.Test.YtibeobmcanaedaaDoorRows
import GoSem.ClaimSeven
namespace Go.Proofs.YtibeobmcanaedaaDoor
namespace Rows

/-- THE TIED CARD OF 'offcutlaw07.LinesAll'. -/
def linesAllCard : Claim7 := { stood := { row := linesAllRow, standIns := [], harness := (true, "7243d5c4caf527a8df613c7e2ad770b96fccab705f6a8b71a87314ed50512368"), looks := false }, kinds := [], alts := [], laidByText := true, laidKinds := [.data, .listed, .data, .pinned], laidTests := true, laidLooks := .later }
def LinesAllCardSaid : Prop := Claim7.holds Tryd.pinned (.plain (OpenSpec.ofChange linesAllSpec)) linesAllCard

/-- THE TIED CARD OF 'offcutlaw07.LinesNames'. -/
def linesNamesCard : Claim7 := { stood := { row := linesNamesRow, standIns := [], harness := (true, "7243d5c4caf527a8df613c7e2ad770b96fccab705f6a8b71a87314ed50512368"), looks := false }, kinds := [], alts := [], laidByText := true, laidKinds := [.data, .listed, .data, .pinned], laidTests := true, laidLooks := .later }
def LinesNamesCardSaid : Prop := Claim7.holds Tryd.pinned (.plain (OpenSpec.ofChange linesNamesSpec)) linesNamesCard

/-- THE TIED CARD OF 'offcutlaw07.LinesCount'. -/
def linesCountCard : Claim7 := { stood := { row := linesCountRow, standIns := [], harness := (true, "7243d5c4caf527a8df613c7e2ad770b96fccab705f6a8b71a87314ed50512368"), looks := false }, kinds := [], alts := [], laidByText := true, laidKinds := [.data, .listed, .data, .pinned], laidTests := true, laidLooks := .later }
def LinesCountCardSaid : Prop := Claim7.holds Tryd.pinned (.plain (OpenSpec.ofChange linesCountSpec)) linesCountCard

/-- THE TIED CARD OF 'offcutlaw07.LinesNumbers'. -/
def linesNumbersCard : Claim7 := { stood := { row := linesNumbersRow, standIns := [], harness := (true, "7243d5c4caf527a8df613c7e2ad770b96fccab705f6a8b71a87314ed50512368"), looks := false }, kinds := [], alts := [], laidByText := true, laidKinds := [.data, .listed, .data, .pinned], laidTests := true, laidLooks := .later }
def LinesNumbersCardSaid : Prop := Claim7.holds Tryd.pinned (.plain (OpenSpec.ofChange linesNumbersSpec)) linesNumbersCard

/-- THE TIED CARD OF 'offcutlaw07.LinesJoins'. -/
def linesJoinsCard : Claim7 := { stood := { row := linesJoinsRow, standIns := [], harness := (true, "7243d5c4caf527a8df613c7e2ad770b96fccab705f6a8b71a87314ed50512368"), looks := false }, kinds := [], alts := [], laidByText := true, laidKinds := [.data, .listed, .data, .pinned], laidTests := true, laidLooks := .later }
def LinesJoinsCardSaid : Prop := Claim7.holds Tryd.pinned (.plain (OpenSpec.ofChange linesJoinsSpec)) linesJoinsCard

/-- THE TIED CARD OF 'offcutlaw07.LinesBlank'. -/
def linesBlankCard : Claim7 := { stood := { row := linesBlankRow, standIns := [], harness := (true, "7243d5c4caf527a8df613c7e2ad770b96fccab705f6a8b71a87314ed50512368"), looks := false }, kinds := [], alts := [], laidByText := true, laidKinds := [.data, .listed, .data, .pinned], laidTests := true, laidLooks := .later }
def LinesBlankCardSaid : Prop := Claim7.holds Tryd.pinned (.plain (OpenSpec.ofChange linesBlankSpec)) linesBlankCard

/-- THE SECOND FORM's CARD OF 'offcutlaw07.LinesAll'. -/
def linesAllUptoCard : Claim7 := { stood := { row := linesAllUptoRow, standIns := [], harness := (true, "7243d5c4caf527a8df613c7e2ad770b96fccab705f6a8b71a87314ed50512368"), looks := false }, kinds := [], alts := [], laidByText := true, laidKinds := [.data, .listed, .data, .pinned], laidTests := true, laidLooks := .later }
def LinesAllUptoCardSaid : Prop := Claim7.holds Tryd.pinned (.plain (OpenSpec.upto linesAllSpec)) linesAllUptoCard

/-- THE SECOND FORM's CARD OF 'offcutlaw07.LinesNames'. -/
def linesNamesUptoCard : Claim7 := { stood := { row := linesNamesUptoRow, standIns := [], harness := (true, "7243d5c4caf527a8df613c7e2ad770b96fccab705f6a8b71a87314ed50512368"), looks := false }, kinds := [], alts := [], laidByText := true, laidKinds := [.data, .listed, .data, .pinned], laidTests := true, laidLooks := .later }
def LinesNamesUptoCardSaid : Prop := Claim7.holds Tryd.pinned (.plain (OpenSpec.upto linesNamesSpec)) linesNamesUptoCard

/-- THE SECOND FORM's CARD OF 'offcutlaw07.LinesCount'. -/
def linesCountUptoCard : Claim7 := { stood := { row := linesCountUptoRow, standIns := [], harness := (true, "7243d5c4caf527a8df613c7e2ad770b96fccab705f6a8b71a87314ed50512368"), looks := false }, kinds := [], alts := [], laidByText := true, laidKinds := [.data, .listed, .data, .pinned], laidTests := true, laidLooks := .later }
def LinesCountUptoCardSaid : Prop := Claim7.holds Tryd.pinned (.plain (OpenSpec.upto linesCountSpec)) linesCountUptoCard

/-- THE SECOND FORM's CARD OF 'offcutlaw07.LinesNumbers'. -/
def linesNumbersUptoCard : Claim7 := { stood := { row := linesNumbersUptoRow, standIns := [], harness := (true, "7243d5c4caf527a8df613c7e2ad770b96fccab705f6a8b71a87314ed50512368"), looks := false }, kinds := [], alts := [], laidByText := true, laidKinds := [.data, .listed, .data, .pinned], laidTests := true, laidLooks := .later }
def LinesNumbersUptoCardSaid : Prop := Claim7.holds Tryd.pinned (.plain (OpenSpec.upto linesNumbersSpec)) linesNumbersUptoCard

/-- THE SECOND FORM's CARD OF 'offcutlaw07.LinesJoins'. -/
def linesJoinsUptoCard : Claim7 := { stood := { row := linesJoinsUptoRow, standIns := [], harness := (true, "7243d5c4caf527a8df613c7e2ad770b96fccab705f6a8b71a87314ed50512368"), looks := false }, kinds := [], alts := [], laidByText := true, laidKinds := [.data, .listed, .data, .pinned], laidTests := true, laidLooks := .later }
def LinesJoinsUptoCardSaid : Prop := Claim7.holds Tryd.pinned (.plain (OpenSpec.upto linesJoinsSpec)) linesJoinsUptoCard

/-- THE SECOND FORM's CARD OF 'offcutlaw07.LinesBlank'. -/
def linesBlankUptoCard : Claim7 := { stood := { row := linesBlankUptoRow, standIns := [], harness := (true, "7243d5c4caf527a8df613c7e2ad770b96fccab705f6a8b71a87314ed50512368"), looks := false }, kinds := [], alts := [], laidByText := true, laidKinds := [.data, .listed, .data, .pinned], laidTests := true, laidLooks := .later }
def LinesBlankUptoCardSaid : Prop := Claim7.holds Tryd.pinned (.plain (OpenSpec.upto linesBlankSpec)) linesBlankUptoCard
end Rows
end Go.Proofs.YtibeobmcanaedaaDoor
