/-
  DERIVED. GIVEN WITH THE SEED: THE CARDS: each row of YtlphadeogdbmmaaDoorRows.lean that lists a variable, with what it lists TIED to the program's text (the seventh form; the later family's looks); each row that meets fmt, with fmt's text TOLD by the authors' own Lean function (tested against real Go, not proved from fmt's source: count such statements apart). THE CARD IS WHAT COUNTS. Prove the row's statement (the work); the ties are given (YtlphadeogdbmmaaDoorTie.lean); close each card by the builder's one call (the guide's Derived/Test/ToyasCard.lean, 'card_holds'). Laid BY PROGRAM, IN A SANDBOX (cutbox-door.mjs). By AI agents, Wed Nov 11 2026. No macro, syntax, notation, axiom, sorry.
-/
import Derived.Test.YtlphadeogdbmmaaDoorRows
import GoSem.ClaimSeven
namespace Go.Proofs.YtlphadeogdbmmaaDoor
namespace Rows

/-- THE TIED CARD OF 'offcutlaw10.StockMany'. -/
def stockManyCard : Claim7 := { stood := { row := stockManyRow, standIns := [], harness := (true, "0d12ee5f303cf839726edb7debf89f10e618e2380b793519f5716625d16e4748"), looks := true }, kinds := [], alts := [], laidByText := true, laidKinds := [.data, .data, .data, .data, .sentinel, .sentinel, .listed, .data, .pinned], laidTests := true, laidLooks := .later }
def StockManyCardSaid : Prop := Claim7.holds Tryd.pinned (.plain (OpenSpec.ofChange stockManySpec)) stockManyCard

/-- THE TIED CARD OF 'offcutlaw10.StockAgain'. -/
def stockAgainCard : Claim7 := { stood := { row := stockAgainRow, standIns := [], harness := (true, "0d12ee5f303cf839726edb7debf89f10e618e2380b793519f5716625d16e4748"), looks := true }, kinds := [], alts := [], laidByText := true, laidKinds := [.data, .data, .data, .data, .sentinel, .sentinel, .listed, .data, .pinned], laidTests := true, laidLooks := .later }
def StockAgainCardSaid : Prop := Claim7.holds Tryd.pinned (.plain (OpenSpec.ofChange stockAgainSpec)) stockAgainCard

/-- THE SECOND FORM's CARD OF 'offcutlaw10.StockMany'. -/
def stockManyUptoCard : Claim7 := { stood := { row := stockManyUptoRow, standIns := [], harness := (true, "0d12ee5f303cf839726edb7debf89f10e618e2380b793519f5716625d16e4748"), looks := true }, kinds := [], alts := [], laidByText := true, laidKinds := [.data, .data, .data, .data, .sentinel, .sentinel, .listed, .data, .pinned], laidTests := true, laidLooks := .later }
def StockManyUptoCardSaid : Prop := Claim7.holds Tryd.pinned (.plain (OpenSpec.upto stockManySpec)) stockManyUptoCard

/-- THE SECOND FORM's CARD OF 'offcutlaw10.StockAgain'. -/
def stockAgainUptoCard : Claim7 := { stood := { row := stockAgainUptoRow, standIns := [], harness := (true, "0d12ee5f303cf839726edb7debf89f10e618e2380b793519f5716625d16e4748"), looks := true }, kinds := [], alts := [], laidByText := true, laidKinds := [.data, .data, .data, .data, .sentinel, .sentinel, .listed, .data, .pinned], laidTests := true, laidLooks := .later }
def StockAgainUptoCardSaid : Prop := Claim7.holds Tryd.pinned (.plain (OpenSpec.upto stockAgainSpec)) stockAgainUptoCard
end Rows
end Go.Proofs.YtlphadeogdbmmaaDoor
