/-
  DERIVED. GIVEN WITH THE SEED: THE CARDS: each row of YtfekldcpjoiipaaDoorRows.lean that lists a variable, with what it lists TIED to the program's text (the seventh form; the later family's looks); each row that meets fmt, with fmt's text TOLD by the authors' own Lean function (tested against real Go, not proved from fmt's source: count such statements apart). THE CARD IS WHAT COUNTS. Prove the row's statement (the work); the ties are given (YtfekldcpjoiipaaDoorTie.lean); close each card by the builder's one call (the guide's Derived/Test/ToyasCard.lean, 'card_holds'). Laid BY PROGRAM, IN A SANDBOX (cutbox-door.mjs). By AI agents, Wed Nov 11 2026. No macro, syntax, notation, axiom, sorry.
-/
import Derived.Test.YtfekldcpjoiipaaDoorRows
import GoSem.ClaimSeven
namespace Go.Proofs.YtfekldcpjoiipaaDoor
namespace Rows

/-- THE TIED CARD OF 'tableaulaw16.OrderAll'. -/
def orderAllCard : Claim7 := { stood := { row := orderAllRow, standIns := [], harness := (true, "fdafae12d963b52e3f974a5ade0aa09aaa843cdda3863d779562dfe3308341c4"), looks := true }, kinds := [], alts := [], laidByText := true, laidKinds := [.sentinel, .sentinel, .sentinel, .sentinel, .sentinel, .sentinel, .sentinel, .sentinel, .sentinel, .sentinel, .sentinel, .sentinel, .sentinel, .sentinel, .sentinel, .sentinel], laidTests := true, laidLooks := .later }
def OrderAllCardSaid : Prop := Claim7.holds Tryd.pinned (.plain (OpenSpec.ofChange orderAllSpec)) orderAllCard

/-- THE TIED CARD OF 'tableaulaw16.OrderMoves'. -/
def orderMovesCard : Claim7 := { stood := { row := orderMovesRow, standIns := [], harness := (true, "fdafae12d963b52e3f974a5ade0aa09aaa843cdda3863d779562dfe3308341c4"), looks := true }, kinds := [], alts := [], laidByText := true, laidKinds := [.sentinel, .sentinel, .sentinel, .sentinel, .sentinel, .sentinel, .sentinel, .sentinel, .sentinel, .sentinel, .sentinel, .sentinel, .sentinel, .sentinel, .sentinel, .sentinel], laidTests := true, laidLooks := .later }
def OrderMovesCardSaid : Prop := Claim7.holds Tryd.pinned (.plain (OpenSpec.ofChange orderMovesSpec)) orderMovesCard

/-- THE TIED CARD OF 'tableaulaw16.OrderTops'. -/
def orderTopsCard : Claim7 := { stood := { row := orderTopsRow, standIns := [], harness := (true, "fdafae12d963b52e3f974a5ade0aa09aaa843cdda3863d779562dfe3308341c4"), looks := true }, kinds := [], alts := [], laidByText := true, laidKinds := [.sentinel, .sentinel, .sentinel, .sentinel, .sentinel, .sentinel, .sentinel, .sentinel, .sentinel, .sentinel, .sentinel, .sentinel, .sentinel, .sentinel, .sentinel, .sentinel], laidTests := true, laidLooks := .later }
def OrderTopsCardSaid : Prop := Claim7.holds Tryd.pinned (.plain (OpenSpec.ofChange orderTopsSpec)) orderTopsCard

/-- THE TIED CARD OF 'tableaulaw18.ShellAcks'. -/
def shellAcksCard : Claim7 := { stood := { row := shellAcksRow, standIns := [], harness := (true, "fdafae12d963b52e3f974a5ade0aa09aaa843cdda3863d779562dfe3308341c4"), looks := true }, kinds := [], alts := [], laidByText := true, laidKinds := [.sentinel, .sentinel, .sentinel, .sentinel, .sentinel, .sentinel, .sentinel, .sentinel, .sentinel, .sentinel, .sentinel, .sentinel, .sentinel, .sentinel, .sentinel, .sentinel], laidTests := true, laidLooks := .later }
def ShellAcksCardSaid : Prop := Claim7.holds Tryd.pinned (.plain (OpenSpec.ofChange shellAcksSpec)) shellAcksCard

/-- THE TIED CARD OF 'tableaulaw18.ShellApart'. -/
def shellApartCard : Claim7 := { stood := { row := shellApartRow, standIns := [], harness := (true, "fdafae12d963b52e3f974a5ade0aa09aaa843cdda3863d779562dfe3308341c4"), looks := true }, kinds := [], alts := [], laidByText := true, laidKinds := [.sentinel, .sentinel, .sentinel, .sentinel, .sentinel, .sentinel, .sentinel, .sentinel, .sentinel, .sentinel, .sentinel, .sentinel, .sentinel, .sentinel, .sentinel, .sentinel], laidTests := true, laidLooks := .later }
def ShellApartCardSaid : Prop := Claim7.holds Tryd.pinned (.plain (OpenSpec.ofChange shellApartSpec)) shellApartCard

/-- THE TIED CARD OF 'tableaulaw18.ShellMaps'. -/
def shellMapsCard : Claim7 := { stood := { row := shellMapsRow, standIns := [], harness := (true, "fdafae12d963b52e3f974a5ade0aa09aaa843cdda3863d779562dfe3308341c4"), looks := true }, kinds := [], alts := [], laidByText := true, laidKinds := [.sentinel, .sentinel, .sentinel, .sentinel, .sentinel, .sentinel, .sentinel, .sentinel, .sentinel, .sentinel, .sentinel, .sentinel, .sentinel, .sentinel, .sentinel, .sentinel], laidTests := true, laidLooks := .later }
def ShellMapsCardSaid : Prop := Claim7.holds Tryd.pinned (.plain (OpenSpec.ofChange shellMapsSpec)) shellMapsCard

/-- THE TIED CARD OF 'tableaulaw18.ShellPlays'. -/
def shellPlaysCard : Claim7 := { stood := { row := shellPlaysRow, standIns := [], harness := (true, "fdafae12d963b52e3f974a5ade0aa09aaa843cdda3863d779562dfe3308341c4"), looks := true }, kinds := [], alts := [], laidByText := true, laidKinds := [.sentinel, .sentinel, .sentinel, .sentinel, .sentinel, .sentinel, .sentinel, .sentinel, .sentinel, .sentinel, .sentinel, .sentinel, .sentinel, .sentinel, .sentinel, .sentinel], laidTests := true, laidLooks := .later }
def ShellPlaysCardSaid : Prop := Claim7.holds Tryd.pinned (.plain (OpenSpec.ofChange shellPlaysSpec)) shellPlaysCard

/-- THE SECOND FORM's CARD OF 'tableaulaw16.OrderAll'. -/
def orderAllUptoCard : Claim7 := { stood := { row := orderAllUptoRow, standIns := [], harness := (true, "fdafae12d963b52e3f974a5ade0aa09aaa843cdda3863d779562dfe3308341c4"), looks := true }, kinds := [], alts := [], laidByText := true, laidKinds := [.sentinel, .sentinel, .sentinel, .sentinel, .sentinel, .sentinel, .sentinel, .sentinel, .sentinel, .sentinel, .sentinel, .sentinel, .sentinel, .sentinel, .sentinel, .sentinel], laidTests := true, laidLooks := .later }
def OrderAllUptoCardSaid : Prop := Claim7.holds Tryd.pinned (.plain (OpenSpec.upto orderAllSpec)) orderAllUptoCard

/-- THE SECOND FORM's CARD OF 'tableaulaw16.OrderMoves'. -/
def orderMovesUptoCard : Claim7 := { stood := { row := orderMovesUptoRow, standIns := [], harness := (true, "fdafae12d963b52e3f974a5ade0aa09aaa843cdda3863d779562dfe3308341c4"), looks := true }, kinds := [], alts := [], laidByText := true, laidKinds := [.sentinel, .sentinel, .sentinel, .sentinel, .sentinel, .sentinel, .sentinel, .sentinel, .sentinel, .sentinel, .sentinel, .sentinel, .sentinel, .sentinel, .sentinel, .sentinel], laidTests := true, laidLooks := .later }
def OrderMovesUptoCardSaid : Prop := Claim7.holds Tryd.pinned (.plain (OpenSpec.upto orderMovesSpec)) orderMovesUptoCard

/-- THE SECOND FORM's CARD OF 'tableaulaw16.OrderTops'. -/
def orderTopsUptoCard : Claim7 := { stood := { row := orderTopsUptoRow, standIns := [], harness := (true, "fdafae12d963b52e3f974a5ade0aa09aaa843cdda3863d779562dfe3308341c4"), looks := true }, kinds := [], alts := [], laidByText := true, laidKinds := [.sentinel, .sentinel, .sentinel, .sentinel, .sentinel, .sentinel, .sentinel, .sentinel, .sentinel, .sentinel, .sentinel, .sentinel, .sentinel, .sentinel, .sentinel, .sentinel], laidTests := true, laidLooks := .later }
def OrderTopsUptoCardSaid : Prop := Claim7.holds Tryd.pinned (.plain (OpenSpec.upto orderTopsSpec)) orderTopsUptoCard

/-- THE SECOND FORM's CARD OF 'tableaulaw18.ShellAcks'. -/
def shellAcksUptoCard : Claim7 := { stood := { row := shellAcksUptoRow, standIns := [], harness := (true, "fdafae12d963b52e3f974a5ade0aa09aaa843cdda3863d779562dfe3308341c4"), looks := true }, kinds := [], alts := [], laidByText := true, laidKinds := [.sentinel, .sentinel, .sentinel, .sentinel, .sentinel, .sentinel, .sentinel, .sentinel, .sentinel, .sentinel, .sentinel, .sentinel, .sentinel, .sentinel, .sentinel, .sentinel], laidTests := true, laidLooks := .later }
def ShellAcksUptoCardSaid : Prop := Claim7.holds Tryd.pinned (.plain (OpenSpec.upto shellAcksSpec)) shellAcksUptoCard

/-- THE SECOND FORM's CARD OF 'tableaulaw18.ShellApart'. -/
def shellApartUptoCard : Claim7 := { stood := { row := shellApartUptoRow, standIns := [], harness := (true, "fdafae12d963b52e3f974a5ade0aa09aaa843cdda3863d779562dfe3308341c4"), looks := true }, kinds := [], alts := [], laidByText := true, laidKinds := [.sentinel, .sentinel, .sentinel, .sentinel, .sentinel, .sentinel, .sentinel, .sentinel, .sentinel, .sentinel, .sentinel, .sentinel, .sentinel, .sentinel, .sentinel, .sentinel], laidTests := true, laidLooks := .later }
def ShellApartUptoCardSaid : Prop := Claim7.holds Tryd.pinned (.plain (OpenSpec.upto shellApartSpec)) shellApartUptoCard

/-- THE SECOND FORM's CARD OF 'tableaulaw18.ShellMaps'. -/
def shellMapsUptoCard : Claim7 := { stood := { row := shellMapsUptoRow, standIns := [], harness := (true, "fdafae12d963b52e3f974a5ade0aa09aaa843cdda3863d779562dfe3308341c4"), looks := true }, kinds := [], alts := [], laidByText := true, laidKinds := [.sentinel, .sentinel, .sentinel, .sentinel, .sentinel, .sentinel, .sentinel, .sentinel, .sentinel, .sentinel, .sentinel, .sentinel, .sentinel, .sentinel, .sentinel, .sentinel], laidTests := true, laidLooks := .later }
def ShellMapsUptoCardSaid : Prop := Claim7.holds Tryd.pinned (.plain (OpenSpec.upto shellMapsSpec)) shellMapsUptoCard

/-- THE SECOND FORM's CARD OF 'tableaulaw18.ShellPlays'. -/
def shellPlaysUptoCard : Claim7 := { stood := { row := shellPlaysUptoRow, standIns := [], harness := (true, "fdafae12d963b52e3f974a5ade0aa09aaa843cdda3863d779562dfe3308341c4"), looks := true }, kinds := [], alts := [], laidByText := true, laidKinds := [.sentinel, .sentinel, .sentinel, .sentinel, .sentinel, .sentinel, .sentinel, .sentinel, .sentinel, .sentinel, .sentinel, .sentinel, .sentinel, .sentinel, .sentinel, .sentinel], laidTests := true, laidLooks := .later }
def ShellPlaysUptoCardSaid : Prop := Claim7.holds Tryd.pinned (.plain (OpenSpec.upto shellPlaysSpec)) shellPlaysUptoCard
end Rows
end Go.Proofs.YtfekldcpjoiipaaDoor
