/-
  DERIVED. GIVEN WITH THE SEED: THE CARDS: each row of YtdbfgnpobfbfmaaGreatDoorRows.lean that lists a variable, with what it lists TIED to the program's text (the seventh form; the later family's looks); each row that meets fmt, with fmt's text TOLD by the authors' own Lean function (tested against real Go, not proved from fmt's source: count such statements apart). THE CARD IS WHAT COUNTS. Prove the row's statement (the work); the ties are given (YtdbfgnpobfbfmaaGreatDoorTie.lean); close each card by the builder's one call (the guide's Derived/Test/ToyasCard.lean, 'card_holds'). Laid BY PROGRAM, IN A SANDBOX (cutbox-door.mjs). By AI agents, Wed Nov 11 2026. No macro, syntax, notation, axiom, sorry.
-/
import Derived.Test.YtdbfgnpobfbfmaaGreatDoorRows
import GoSem.ClaimSeven
namespace Go.Proofs.YtdbfgnpobfbfmaaGreatDoor
namespace Rows

/-- THE TIED CARD OF 'offcutlaw13.ProofChecks'. -/
def proofChecksCard : Claim7 := { stood := { row := proofChecksRow, standIns := [], harness := (true, "11a561109ee27b2f367dcb34dbb14f958c7d4565e703e600b4f788ba0ce01f22"), looks := false }, kinds := [], alts := [], laidByText := true, laidKinds := [.data, .listed, .data, .pinned], laidTests := true, laidLooks := .later }
def ProofChecksCardSaid : Prop := Claim7.holds Tryz.pinned (.plain (OpenSpec.ofChange proofChecksSpec)) proofChecksCard

/-- THE TIED CARD OF 'offcutlaw13.ProofOne'. -/
def proofOneCard : Claim7 := { stood := { row := proofOneRow, standIns := [], harness := (true, "11a561109ee27b2f367dcb34dbb14f958c7d4565e703e600b4f788ba0ce01f22"), looks := false }, kinds := [], alts := [], laidByText := true, laidKinds := [.data, .listed, .data, .pinned], laidTests := true, laidLooks := .later }
def ProofOneCardSaid : Prop := Claim7.holds Tryz.pinned (.plain (OpenSpec.ofChange proofOneSpec)) proofOneCard

/-- THE TIED CARD OF 'offcutlaw13.ProofScales'. -/
def proofScalesCard : Claim7 := { stood := { row := proofScalesRow, standIns := [], harness := (true, "11a561109ee27b2f367dcb34dbb14f958c7d4565e703e600b4f788ba0ce01f22"), looks := false }, kinds := [], alts := [], laidByText := true, laidKinds := [.data, .listed, .data, .pinned], laidTests := true, laidLooks := .later }
def ProofScalesCardSaid : Prop := Claim7.holds Tryz.pinned (.plain (OpenSpec.ofChange proofScalesSpec)) proofScalesCard

/-- THE TIED CARD OF 'offcutlaw13.ProofPrints'. -/
def proofPrintsCard : Claim7 := { stood := { row := proofPrintsRow, standIns := [], harness := (true, "11a561109ee27b2f367dcb34dbb14f958c7d4565e703e600b4f788ba0ce01f22"), looks := false }, kinds := [], alts := [], laidByText := true, laidKinds := [.data, .listed, .data, .pinned], laidTests := true, laidLooks := .later }
def ProofPrintsCardSaid : Prop := Claim7.holds Tryz.pinned (.plain (OpenSpec.ofChange proofPrintsSpec)) proofPrintsCard

/-- THE TIED CARD OF 'offcutlaw13.ProofParses'. -/
def proofParsesCard : Claim7 := { stood := { row := proofParsesRow, standIns := [], harness := (true, "11a561109ee27b2f367dcb34dbb14f958c7d4565e703e600b4f788ba0ce01f22"), looks := false }, kinds := [], alts := [], laidByText := true, laidKinds := [.data, .listed, .data, .pinned], laidTests := true, laidLooks := .later }
def ProofParsesCardSaid : Prop := Claim7.holds Tryz.pinned (.plain (OpenSpec.ofChange proofParsesSpec)) proofParsesCard

/-- THE TIED CARD OF 'offcutlaw08.ModelAgain'. -/
def modelAgainCard : Claim7 := { stood := { row := modelAgainRow, standIns := [], harness := (true, "11a561109ee27b2f367dcb34dbb14f958c7d4565e703e600b4f788ba0ce01f22"), looks := false }, kinds := [], alts := [], laidByText := true, laidKinds := [.data, .listed, .data, .pinned], laidTests := true, laidLooks := .later }
def ModelAgainCardSaid : Prop := Claim7.holds Tryz.pinned (.plain (OpenSpec.ofChange modelAgainSpec)) modelAgainCard

/-- THE TIED CARD OF 'offcutlaw08.ModelParses'. -/
def modelParsesCard : Claim7 := { stood := { row := modelParsesRow, standIns := [], harness := (true, "11a561109ee27b2f367dcb34dbb14f958c7d4565e703e600b4f788ba0ce01f22"), looks := false }, kinds := [], alts := [], laidByText := true, laidKinds := [.data, .listed, .data, .pinned], laidTests := true, laidLooks := .later }
def ModelParsesCardSaid : Prop := Claim7.holds Tryz.pinned (.plain (OpenSpec.ofChange modelParsesSpec)) modelParsesCard

/-- THE TIED CARD OF 'offcutlaw08.ModelPrints'. -/
def modelPrintsCard : Claim7 := { stood := { row := modelPrintsRow, standIns := [], harness := (true, "11a561109ee27b2f367dcb34dbb14f958c7d4565e703e600b4f788ba0ce01f22"), looks := false }, kinds := [], alts := [], laidByText := true, laidKinds := [.data, .listed, .data, .pinned], laidTests := true, laidLooks := .later }
def ModelPrintsCardSaid : Prop := Claim7.holds Tryz.pinned (.plain (OpenSpec.ofChange modelPrintsSpec)) modelPrintsCard

/-- THE TIED CARD OF 'offcutlaw08.ModelSame'. -/
def modelSameCard : Claim7 := { stood := { row := modelSameRow, standIns := [], harness := (true, "11a561109ee27b2f367dcb34dbb14f958c7d4565e703e600b4f788ba0ce01f22"), looks := false }, kinds := [], alts := [], laidByText := true, laidKinds := [.data, .listed, .data, .pinned], laidTests := true, laidLooks := .later }
def ModelSameCardSaid : Prop := Claim7.holds Tryz.pinned (.plain (OpenSpec.ofChange modelSameSpec)) modelSameCard

/-- THE SECOND FORM's CARD OF 'offcutlaw13.ProofChecks'. -/
def proofChecksUptoCard : Claim7 := { stood := { row := proofChecksUptoRow, standIns := [], harness := (true, "11a561109ee27b2f367dcb34dbb14f958c7d4565e703e600b4f788ba0ce01f22"), looks := false }, kinds := [], alts := [], laidByText := true, laidKinds := [.data, .listed, .data, .pinned], laidTests := true, laidLooks := .later }
def ProofChecksUptoCardSaid : Prop := Claim7.holds Tryz.pinned (.plain (OpenSpec.upto proofChecksSpec)) proofChecksUptoCard

/-- THE SECOND FORM's CARD OF 'offcutlaw13.ProofOne'. -/
def proofOneUptoCard : Claim7 := { stood := { row := proofOneUptoRow, standIns := [], harness := (true, "11a561109ee27b2f367dcb34dbb14f958c7d4565e703e600b4f788ba0ce01f22"), looks := false }, kinds := [], alts := [], laidByText := true, laidKinds := [.data, .listed, .data, .pinned], laidTests := true, laidLooks := .later }
def ProofOneUptoCardSaid : Prop := Claim7.holds Tryz.pinned (.plain (OpenSpec.upto proofOneSpec)) proofOneUptoCard

/-- THE SECOND FORM's CARD OF 'offcutlaw13.ProofScales'. -/
def proofScalesUptoCard : Claim7 := { stood := { row := proofScalesUptoRow, standIns := [], harness := (true, "11a561109ee27b2f367dcb34dbb14f958c7d4565e703e600b4f788ba0ce01f22"), looks := false }, kinds := [], alts := [], laidByText := true, laidKinds := [.data, .listed, .data, .pinned], laidTests := true, laidLooks := .later }
def ProofScalesUptoCardSaid : Prop := Claim7.holds Tryz.pinned (.plain (OpenSpec.upto proofScalesSpec)) proofScalesUptoCard

/-- THE SECOND FORM's CARD OF 'offcutlaw13.ProofPrints'. -/
def proofPrintsUptoCard : Claim7 := { stood := { row := proofPrintsUptoRow, standIns := [], harness := (true, "11a561109ee27b2f367dcb34dbb14f958c7d4565e703e600b4f788ba0ce01f22"), looks := false }, kinds := [], alts := [], laidByText := true, laidKinds := [.data, .listed, .data, .pinned], laidTests := true, laidLooks := .later }
def ProofPrintsUptoCardSaid : Prop := Claim7.holds Tryz.pinned (.plain (OpenSpec.upto proofPrintsSpec)) proofPrintsUptoCard

/-- THE SECOND FORM's CARD OF 'offcutlaw13.ProofParses'. -/
def proofParsesUptoCard : Claim7 := { stood := { row := proofParsesUptoRow, standIns := [], harness := (true, "11a561109ee27b2f367dcb34dbb14f958c7d4565e703e600b4f788ba0ce01f22"), looks := false }, kinds := [], alts := [], laidByText := true, laidKinds := [.data, .listed, .data, .pinned], laidTests := true, laidLooks := .later }
def ProofParsesUptoCardSaid : Prop := Claim7.holds Tryz.pinned (.plain (OpenSpec.upto proofParsesSpec)) proofParsesUptoCard

/-- THE SECOND FORM's CARD OF 'offcutlaw08.ModelAgain'. -/
def modelAgainUptoCard : Claim7 := { stood := { row := modelAgainUptoRow, standIns := [], harness := (true, "11a561109ee27b2f367dcb34dbb14f958c7d4565e703e600b4f788ba0ce01f22"), looks := false }, kinds := [], alts := [], laidByText := true, laidKinds := [.data, .listed, .data, .pinned], laidTests := true, laidLooks := .later }
def ModelAgainUptoCardSaid : Prop := Claim7.holds Tryz.pinned (.plain (OpenSpec.upto modelAgainSpec)) modelAgainUptoCard

/-- THE SECOND FORM's CARD OF 'offcutlaw08.ModelParses'. -/
def modelParsesUptoCard : Claim7 := { stood := { row := modelParsesUptoRow, standIns := [], harness := (true, "11a561109ee27b2f367dcb34dbb14f958c7d4565e703e600b4f788ba0ce01f22"), looks := false }, kinds := [], alts := [], laidByText := true, laidKinds := [.data, .listed, .data, .pinned], laidTests := true, laidLooks := .later }
def ModelParsesUptoCardSaid : Prop := Claim7.holds Tryz.pinned (.plain (OpenSpec.upto modelParsesSpec)) modelParsesUptoCard

/-- THE SECOND FORM's CARD OF 'offcutlaw08.ModelPrints'. -/
def modelPrintsUptoCard : Claim7 := { stood := { row := modelPrintsUptoRow, standIns := [], harness := (true, "11a561109ee27b2f367dcb34dbb14f958c7d4565e703e600b4f788ba0ce01f22"), looks := false }, kinds := [], alts := [], laidByText := true, laidKinds := [.data, .listed, .data, .pinned], laidTests := true, laidLooks := .later }
def ModelPrintsUptoCardSaid : Prop := Claim7.holds Tryz.pinned (.plain (OpenSpec.upto modelPrintsSpec)) modelPrintsUptoCard

/-- THE SECOND FORM's CARD OF 'offcutlaw08.ModelSame'. -/
def modelSameUptoCard : Claim7 := { stood := { row := modelSameUptoRow, standIns := [], harness := (true, "11a561109ee27b2f367dcb34dbb14f958c7d4565e703e600b4f788ba0ce01f22"), looks := false }, kinds := [], alts := [], laidByText := true, laidKinds := [.data, .listed, .data, .pinned], laidTests := true, laidLooks := .later }
def ModelSameUptoCardSaid : Prop := Claim7.holds Tryz.pinned (.plain (OpenSpec.upto modelSameSpec)) modelSameUptoCard
end Rows
end Go.Proofs.YtdbfgnpobfbfmaaGreatDoor
