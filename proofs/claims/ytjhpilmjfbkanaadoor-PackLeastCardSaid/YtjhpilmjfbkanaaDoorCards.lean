/-
  DERIVED. GIVEN WITH THE SEED: THE CARDS: each row of YtjhpilmjfbkanaaDoorRows.lean that lists a variable, with what it lists TIED to the program's text (the seventh form; the later family's looks); each row that meets fmt, with fmt's text TOLD by the authors' own Lean function (tested against real Go, not proved from fmt's source: count such statements apart). THE CARD IS WHAT COUNTS. Prove the row's statement (the work); the ties are given (YtjhpilmjfbkanaaDoorTie.lean); close each card by the builder's one call (the guide's Derived/Test/ToyasCard.lean, 'card_holds'). Laid BY PROGRAM, IN A SANDBOX (cutbox-door.mjs). By AI agents, Wed Nov 11 2026. No macro, syntax, notation, axiom, sorry.
-/
import Derived.Test.YtjhpilmjfbkanaaDoorRows
import GoSem.ClaimSeven
namespace Go.Proofs.YtjhpilmjfbkanaaDoor
namespace Rows

/-- THE TIED CARD OF 'offcutlaw17.PackFirst'. -/
def packFirstCard : Claim7 := { stood := { row := packFirstRow, standIns := [], harness := (true, "34baa314c912ec143a655329473e6ef3a6fbab6f728151954614642156a5e3bd"), looks := false }, kinds := [], alts := [], laidByText := true, laidKinds := [.data, .data], laidTests := true, laidLooks := .later }
def PackFirstCardSaid : Prop := Claim7.holds Tryd.pinned (.plain (OpenSpec.ofChange packFirstSpec)) packFirstCard

/-- THE TIED CARD OF 'offcutlaw17.PackPacks'. -/
def packPacksCard : Claim7 := { stood := { row := packPacksRow, standIns := [], harness := (true, "34baa314c912ec143a655329473e6ef3a6fbab6f728151954614642156a5e3bd"), looks := false }, kinds := [], alts := [], laidByText := true, laidKinds := [.data, .data], laidTests := true, laidLooks := .later }
def PackPacksCardSaid : Prop := Claim7.holds Tryd.pinned (.plain (OpenSpec.ofChange packPacksSpec)) packPacksCard

/-- THE TIED CARD OF 'offcutlaw17.PackLeast'. -/
def packLeastCard : Claim7 := { stood := { row := packLeastRow, standIns := [], harness := (true, "34baa314c912ec143a655329473e6ef3a6fbab6f728151954614642156a5e3bd"), looks := false }, kinds := [], alts := [], laidByText := true, laidKinds := [.data, .data], laidTests := true, laidLooks := .later }
def PackLeastCardSaid : Prop := Claim7.holds Tryd.pinned (.plain (OpenSpec.ofChange packLeastSpec)) packLeastCard

/-- THE TIED CARD OF 'offcutlaw17.PackFull'. -/
def packFullCard : Claim7 := { stood := { row := packFullRow, standIns := [], harness := (true, "34baa314c912ec143a655329473e6ef3a6fbab6f728151954614642156a5e3bd"), looks := false }, kinds := [], alts := [], laidByText := true, laidKinds := [.data, .data], laidTests := true, laidLooks := .later }
def PackFullCardSaid : Prop := Claim7.holds Tryd.pinned (.plain (OpenSpec.ofChange packFullSpec)) packFullCard

/-- THE SECOND FORM's CARD OF 'offcutlaw17.PackFirst'. -/
def packFirstUptoCard : Claim7 := { stood := { row := packFirstUptoRow, standIns := [], harness := (true, "34baa314c912ec143a655329473e6ef3a6fbab6f728151954614642156a5e3bd"), looks := false }, kinds := [], alts := [], laidByText := true, laidKinds := [.data, .data], laidTests := true, laidLooks := .later }
def PackFirstUptoCardSaid : Prop := Claim7.holds Tryd.pinned (.plain (OpenSpec.upto packFirstSpec)) packFirstUptoCard

/-- THE SECOND FORM's CARD OF 'offcutlaw17.PackPacks'. -/
def packPacksUptoCard : Claim7 := { stood := { row := packPacksUptoRow, standIns := [], harness := (true, "34baa314c912ec143a655329473e6ef3a6fbab6f728151954614642156a5e3bd"), looks := false }, kinds := [], alts := [], laidByText := true, laidKinds := [.data, .data], laidTests := true, laidLooks := .later }
def PackPacksUptoCardSaid : Prop := Claim7.holds Tryd.pinned (.plain (OpenSpec.upto packPacksSpec)) packPacksUptoCard

/-- THE SECOND FORM's CARD OF 'offcutlaw17.PackLeast'. -/
def packLeastUptoCard : Claim7 := { stood := { row := packLeastUptoRow, standIns := [], harness := (true, "34baa314c912ec143a655329473e6ef3a6fbab6f728151954614642156a5e3bd"), looks := false }, kinds := [], alts := [], laidByText := true, laidKinds := [.data, .data], laidTests := true, laidLooks := .later }
def PackLeastUptoCardSaid : Prop := Claim7.holds Tryd.pinned (.plain (OpenSpec.upto packLeastSpec)) packLeastUptoCard

/-- THE SECOND FORM's CARD OF 'offcutlaw17.PackFull'. -/
def packFullUptoCard : Claim7 := { stood := { row := packFullUptoRow, standIns := [], harness := (true, "34baa314c912ec143a655329473e6ef3a6fbab6f728151954614642156a5e3bd"), looks := false }, kinds := [], alts := [], laidByText := true, laidKinds := [.data, .data], laidTests := true, laidLooks := .later }
def PackFullUptoCardSaid : Prop := Claim7.holds Tryd.pinned (.plain (OpenSpec.upto packFullSpec)) packFullUptoCard
end Rows
end Go.Proofs.YtjhpilmjfbkanaaDoor
