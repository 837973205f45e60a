/-
  DERIVED. GIVEN WITH THE SEED: THE CARDS: each row of YtjhfcnkmfbpjmaaDoorRows.lean that lists a variable, with what it lists TIED to the program's text (the seventh form; the later family's looks); each row that meets fmt, with fmt's text TOLD by the authors' own Lean function (tested against real Go, not proved from fmt's source: count such statements apart). THE CARD IS WHAT COUNTS. Prove the row's statement (the work); the ties are given (YtjhfcnkmfbpjmaaDoorTie.lean); close each card by the builder's one call (the guide's Derived/Test/ToyasCard.lean, 'card_holds'). Laid BY PROGRAM, IN A SANDBOX (cutbox-door.mjs). By AI agents, Wed Nov 11 2026. No macro, syntax, notation, axiom, sorry.
-/
import Derived.Test.YtjhfcnkmfbpjmaaDoorRows
import GoSem.ClaimSeven
namespace Go.Proofs.YtjhfcnkmfbpjmaaDoor
namespace Rows

/-- THE TIED CARD OF 'tableaulaw06.IdsOthers'. -/
def idsOthersCard : Claim7 := { stood := { row := idsOthersRow, standIns := [], harness := (true, "3c54b834b6ffc8a8305c18ca7e06d33bca1037c3144d2d138bca1ad6ff110fc5"), looks := true }, kinds := [], alts := [], laidByText := true, laidKinds := [.sentinel, .sentinel], laidTests := true, laidLooks := .later }
def IdsOthersCardSaid : Prop := Claim7.holds Tryd.pinned (.plain (OpenSpec.ofChange idsOthersSpec)) idsOthersCard

/-- THE TIED CARD OF 'tableaulaw06.IdsPlays'. -/
def idsPlaysCard : Claim7 := { stood := { row := idsPlaysRow, standIns := [], harness := (true, "3c54b834b6ffc8a8305c18ca7e06d33bca1037c3144d2d138bca1ad6ff110fc5"), looks := true }, kinds := [], alts := [], laidByText := true, laidKinds := [.sentinel, .sentinel, .sentinel, .sentinel, .sentinel, .sentinel, .sentinel, .sentinel, .sentinel, .sentinel, .sentinel, .sentinel, .sentinel, .sentinel, .sentinel, .sentinel], laidTests := true, laidLooks := .later }
def IdsPlaysCardSaid : Prop := Claim7.holds Tryd.pinned (.plain (OpenSpec.ofChange idsPlaysSpec)) idsPlaysCard

/-- THE TIED CARD OF 'tableaulaw06.IdsFull'. -/
def idsFullCard : Claim7 := { stood := { row := idsFullRow, standIns := [], harness := (true, "3c54b834b6ffc8a8305c18ca7e06d33bca1037c3144d2d138bca1ad6ff110fc5"), looks := true }, kinds := [], alts := [], laidByText := true, laidKinds := [.sentinel, .sentinel, .sentinel, .sentinel, .sentinel, .sentinel, .sentinel, .sentinel, .sentinel, .sentinel, .sentinel, .sentinel, .sentinel, .sentinel, .sentinel, .sentinel], laidTests := true, laidLooks := .later }
def IdsFullCardSaid : Prop := Claim7.holds Tryd.pinned (.plain (OpenSpec.ofChange idsFullSpec)) idsFullCard

/-- THE TIED CARD OF 'tableaulaw11.PoolRooms'. -/
def poolRoomsCard : Claim7 := { stood := { row := poolRoomsRow, standIns := [], harness := (true, "3c54b834b6ffc8a8305c18ca7e06d33bca1037c3144d2d138bca1ad6ff110fc5"), looks := true }, kinds := [], alts := [], laidByText := true, laidKinds := [.sentinel, .sentinel, .sentinel, .sentinel, .sentinel, .sentinel, .sentinel, .sentinel, .sentinel, .sentinel, .sentinel, .sentinel, .sentinel, .sentinel, .sentinel, .sentinel], laidTests := true, laidLooks := .later }
def PoolRoomsCardSaid : Prop := Claim7.holds Tryd.pinned (.plain (OpenSpec.ofChange poolRoomsSpec)) poolRoomsCard

/-- THE TIED CARD OF 'tableaulaw11.PoolInside'. -/
def poolInsideCard : Claim7 := { stood := { row := poolInsideRow, standIns := [], harness := (true, "3c54b834b6ffc8a8305c18ca7e06d33bca1037c3144d2d138bca1ad6ff110fc5"), looks := true }, kinds := [], alts := [], laidByText := true, laidKinds := [.sentinel, .sentinel, .sentinel, .sentinel, .sentinel, .sentinel, .sentinel, .sentinel, .sentinel, .sentinel, .sentinel, .sentinel, .sentinel, .sentinel, .sentinel, .sentinel], laidTests := true, laidLooks := .later }
def PoolInsideCardSaid : Prop := Claim7.holds Tryd.pinned (.plain (OpenSpec.ofChange poolInsideSpec)) poolInsideCard

/-- THE TIED CARD OF 'tableaulaw11.PoolWraps'. -/
def poolWrapsCard : Claim7 := { stood := { row := poolWrapsRow, standIns := [], harness := (true, "3c54b834b6ffc8a8305c18ca7e06d33bca1037c3144d2d138bca1ad6ff110fc5"), looks := true }, kinds := [], alts := [], laidByText := true, laidKinds := [.sentinel, .sentinel, .sentinel, .sentinel, .sentinel, .sentinel, .sentinel, .sentinel, .sentinel, .sentinel, .sentinel, .sentinel, .sentinel, .sentinel, .sentinel, .sentinel], laidTests := true, laidLooks := .later }
def PoolWrapsCardSaid : Prop := Claim7.holds Tryd.pinned (.plain (OpenSpec.ofChange poolWrapsSpec)) poolWrapsCard

/-- THE TIED CARD OF 'tableaulaw11.PoolEdges'. -/
def poolEdgesCard : Claim7 := { stood := { row := poolEdgesRow, standIns := [], harness := (true, "3c54b834b6ffc8a8305c18ca7e06d33bca1037c3144d2d138bca1ad6ff110fc5"), looks := true }, kinds := [], alts := [], laidByText := true, laidKinds := [.sentinel, .sentinel, .sentinel, .sentinel, .sentinel, .sentinel, .sentinel, .sentinel, .sentinel, .sentinel, .sentinel, .sentinel, .sentinel, .sentinel, .sentinel, .sentinel], laidTests := true, laidLooks := .later }
def PoolEdgesCardSaid : Prop := Claim7.holds Tryd.pinned (.plain (OpenSpec.ofChange poolEdgesSpec)) poolEdgesCard

/-- THE TIED CARD OF 'tableaulaw11.PoolGrows'. -/
def poolGrowsCard : Claim7 := { stood := { row := poolGrowsRow, standIns := [], harness := (true, "3c54b834b6ffc8a8305c18ca7e06d33bca1037c3144d2d138bca1ad6ff110fc5"), looks := true }, kinds := [], alts := [], laidByText := true, laidKinds := [.sentinel, .sentinel, .sentinel, .sentinel, .sentinel, .sentinel, .sentinel, .sentinel, .sentinel, .sentinel, .sentinel, .sentinel, .sentinel, .sentinel, .sentinel, .sentinel], laidTests := true, laidLooks := .later }
def PoolGrowsCardSaid : Prop := Claim7.holds Tryd.pinned (.plain (OpenSpec.ofChange poolGrowsSpec)) poolGrowsCard

/-- THE TIED CARD OF 'tableaulaw11.PoolPlays'. -/
def poolPlaysCard : Claim7 := { stood := { row := poolPlaysRow, standIns := [], harness := (true, "3c54b834b6ffc8a8305c18ca7e06d33bca1037c3144d2d138bca1ad6ff110fc5"), looks := true }, kinds := [], alts := [], laidByText := true, laidKinds := [.sentinel, .sentinel, .sentinel, .sentinel, .sentinel, .sentinel, .sentinel, .sentinel, .sentinel, .sentinel, .sentinel, .sentinel, .sentinel, .sentinel, .sentinel, .sentinel], laidTests := true, laidLooks := .later }
def PoolPlaysCardSaid : Prop := Claim7.holds Tryd.pinned (.plain (OpenSpec.ofChange poolPlaysSpec)) poolPlaysCard

/-- THE SECOND FORM's CARD OF 'tableaulaw06.IdsOthers'. -/
def idsOthersUptoCard : Claim7 := { stood := { row := idsOthersUptoRow, standIns := [], harness := (true, "3c54b834b6ffc8a8305c18ca7e06d33bca1037c3144d2d138bca1ad6ff110fc5"), looks := true }, kinds := [], alts := [], laidByText := true, laidKinds := [.sentinel, .sentinel], laidTests := true, laidLooks := .later }
def IdsOthersUptoCardSaid : Prop := Claim7.holds Tryd.pinned (.plain (OpenSpec.upto idsOthersSpec)) idsOthersUptoCard

/-- THE SECOND FORM's CARD OF 'tableaulaw06.IdsPlays'. -/
def idsPlaysUptoCard : Claim7 := { stood := { row := idsPlaysUptoRow, standIns := [], harness := (true, "3c54b834b6ffc8a8305c18ca7e06d33bca1037c3144d2d138bca1ad6ff110fc5"), looks := true }, kinds := [], alts := [], laidByText := true, laidKinds := [.sentinel, .sentinel, .sentinel, .sentinel, .sentinel, .sentinel, .sentinel, .sentinel, .sentinel, .sentinel, .sentinel, .sentinel, .sentinel, .sentinel, .sentinel, .sentinel], laidTests := true, laidLooks := .later }
def IdsPlaysUptoCardSaid : Prop := Claim7.holds Tryd.pinned (.plain (OpenSpec.upto idsPlaysSpec)) idsPlaysUptoCard

/-- THE SECOND FORM's CARD OF 'tableaulaw06.IdsFull'. -/
def idsFullUptoCard : Claim7 := { stood := { row := idsFullUptoRow, standIns := [], harness := (true, "3c54b834b6ffc8a8305c18ca7e06d33bca1037c3144d2d138bca1ad6ff110fc5"), looks := true }, kinds := [], alts := [], laidByText := true, laidKinds := [.sentinel, .sentinel, .sentinel, .sentinel, .sentinel, .sentinel, .sentinel, .sentinel, .sentinel, .sentinel, .sentinel, .sentinel, .sentinel, .sentinel, .sentinel, .sentinel], laidTests := true, laidLooks := .later }
def IdsFullUptoCardSaid : Prop := Claim7.holds Tryd.pinned (.plain (OpenSpec.upto idsFullSpec)) idsFullUptoCard

/-- THE SECOND FORM's CARD OF 'tableaulaw11.PoolRooms'. -/
def poolRoomsUptoCard : Claim7 := { stood := { row := poolRoomsUptoRow, standIns := [], harness := (true, "3c54b834b6ffc8a8305c18ca7e06d33bca1037c3144d2d138bca1ad6ff110fc5"), looks := true }, kinds := [], alts := [], laidByText := true, laidKinds := [.sentinel, .sentinel, .sentinel, .sentinel, .sentinel, .sentinel, .sentinel, .sentinel, .sentinel, .sentinel, .sentinel, .sentinel, .sentinel, .sentinel, .sentinel, .sentinel], laidTests := true, laidLooks := .later }
def PoolRoomsUptoCardSaid : Prop := Claim7.holds Tryd.pinned (.plain (OpenSpec.upto poolRoomsSpec)) poolRoomsUptoCard

/-- THE SECOND FORM's CARD OF 'tableaulaw11.PoolInside'. -/
def poolInsideUptoCard : Claim7 := { stood := { row := poolInsideUptoRow, standIns := [], harness := (true, "3c54b834b6ffc8a8305c18ca7e06d33bca1037c3144d2d138bca1ad6ff110fc5"), looks := true }, kinds := [], alts := [], laidByText := true, laidKinds := [.sentinel, .sentinel, .sentinel, .sentinel, .sentinel, .sentinel, .sentinel, .sentinel, .sentinel, .sentinel, .sentinel, .sentinel, .sentinel, .sentinel, .sentinel, .sentinel], laidTests := true, laidLooks := .later }
def PoolInsideUptoCardSaid : Prop := Claim7.holds Tryd.pinned (.plain (OpenSpec.upto poolInsideSpec)) poolInsideUptoCard

/-- THE SECOND FORM's CARD OF 'tableaulaw11.PoolWraps'. -/
def poolWrapsUptoCard : Claim7 := { stood := { row := poolWrapsUptoRow, standIns := [], harness := (true, "3c54b834b6ffc8a8305c18ca7e06d33bca1037c3144d2d138bca1ad6ff110fc5"), looks := true }, kinds := [], alts := [], laidByText := true, laidKinds := [.sentinel, .sentinel, .sentinel, .sentinel, .sentinel, .sentinel, .sentinel, .sentinel, .sentinel, .sentinel, .sentinel, .sentinel, .sentinel, .sentinel, .sentinel, .sentinel], laidTests := true, laidLooks := .later }
def PoolWrapsUptoCardSaid : Prop := Claim7.holds Tryd.pinned (.plain (OpenSpec.upto poolWrapsSpec)) poolWrapsUptoCard

/-- THE SECOND FORM's CARD OF 'tableaulaw11.PoolEdges'. -/
def poolEdgesUptoCard : Claim7 := { stood := { row := poolEdgesUptoRow, standIns := [], harness := (true, "3c54b834b6ffc8a8305c18ca7e06d33bca1037c3144d2d138bca1ad6ff110fc5"), looks := true }, kinds := [], alts := [], laidByText := true, laidKinds := [.sentinel, .sentinel, .sentinel, .sentinel, .sentinel, .sentinel, .sentinel, .sentinel, .sentinel, .sentinel, .sentinel, .sentinel, .sentinel, .sentinel, .sentinel, .sentinel], laidTests := true, laidLooks := .later }
def PoolEdgesUptoCardSaid : Prop := Claim7.holds Tryd.pinned (.plain (OpenSpec.upto poolEdgesSpec)) poolEdgesUptoCard

/-- THE SECOND FORM's CARD OF 'tableaulaw11.PoolGrows'. -/
def poolGrowsUptoCard : Claim7 := { stood := { row := poolGrowsUptoRow, standIns := [], harness := (true, "3c54b834b6ffc8a8305c18ca7e06d33bca1037c3144d2d138bca1ad6ff110fc5"), looks := true }, kinds := [], alts := [], laidByText := true, laidKinds := [.sentinel, .sentinel, .sentinel, .sentinel, .sentinel, .sentinel, .sentinel, .sentinel, .sentinel, .sentinel, .sentinel, .sentinel, .sentinel, .sentinel, .sentinel, .sentinel], laidTests := true, laidLooks := .later }
def PoolGrowsUptoCardSaid : Prop := Claim7.holds Tryd.pinned (.plain (OpenSpec.upto poolGrowsSpec)) poolGrowsUptoCard

/-- THE SECOND FORM's CARD OF 'tableaulaw11.PoolPlays'. -/
def poolPlaysUptoCard : Claim7 := { stood := { row := poolPlaysUptoRow, standIns := [], harness := (true, "3c54b834b6ffc8a8305c18ca7e06d33bca1037c3144d2d138bca1ad6ff110fc5"), looks := true }, kinds := [], alts := [], laidByText := true, laidKinds := [.sentinel, .sentinel, .sentinel, .sentinel, .sentinel, .sentinel, .sentinel, .sentinel, .sentinel, .sentinel, .sentinel, .sentinel, .sentinel, .sentinel, .sentinel, .sentinel], laidTests := true, laidLooks := .later }
def PoolPlaysUptoCardSaid : Prop := Claim7.holds Tryd.pinned (.plain (OpenSpec.upto poolPlaysSpec)) poolPlaysUptoCard
end Rows
end Go.Proofs.YtjhfcnkmfbpjmaaDoor
