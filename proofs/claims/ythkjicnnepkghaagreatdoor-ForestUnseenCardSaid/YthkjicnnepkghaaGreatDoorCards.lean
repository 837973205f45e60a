/-
  DERIVED. GIVEN WITH THE SEED: THE CARDS: each row of YthkjicnnepkghaaGreatDoorRows.lean that lists a variable, with what it lists TIED to the program's text (the seventh form; the later family's looks); each row that meets fmt, with fmt's text TOLD by the authors' own Lean function (tested against real Go, not proved from fmt's source: count such statements apart). THE CARD IS WHAT COUNTS. Prove the row's statement (the work); the ties are given (YthkjicnnepkghaaGreatDoorTie.lean); close each card by the builder's one call (the guide's Derived/Test/ToyasCard.lean, 'card_holds'). Laid BY PROGRAM, IN A SANDBOX (cutbox-door.mjs). By AI agents, Wed Nov 11 2026. No macro, syntax, notation, axiom, sorry.
-/
import Derived.Test.YthkjicnnepkghaaGreatDoorRows
import GoSem.ClaimSeven
namespace Go.Proofs.YthkjicnnepkghaaGreatDoor
namespace Rows

/-- THE TIED CARD OF 'tableaulaw17.ForestUnseen'. -/
def forestUnseenCard : Claim7 := { stood := { row := forestUnseenRow, standIns := [], harness := (true, "cb06017255a0918c9e20c872225cba62337ece1b2e5361a9d4cebd5591158552"), looks := true }, kinds := [], alts := [], laidByText := true, laidKinds := [.sentinel, .sentinel, .sentinel, .sentinel, .sentinel, .sentinel, .sentinel, .sentinel, .sentinel, .sentinel, .sentinel, .sentinel, .sentinel, .sentinel, .sentinel, .sentinel], laidTests := true, laidLooks := .later }
def ForestUnseenCardSaid : Prop := Claim7.holds Tryz.pinned (.plain (OpenSpec.ofChange forestUnseenSpec)) forestUnseenCard

/-- THE TIED CARD OF 'tableaulaw17.ForestPlays'. -/
def forestPlaysCard : Claim7 := { stood := { row := forestPlaysRow, standIns := [], harness := (true, "cb06017255a0918c9e20c872225cba62337ece1b2e5361a9d4cebd5591158552"), looks := true }, kinds := [], alts := [], laidByText := true, laidKinds := [.sentinel, .sentinel, .sentinel, .sentinel, .sentinel, .sentinel, .sentinel, .sentinel, .sentinel, .sentinel, .sentinel, .sentinel, .sentinel, .sentinel, .sentinel, .sentinel], laidTests := true, laidLooks := .later }
def ForestPlaysCardSaid : Prop := Claim7.holds Tryz.pinned (.plain (OpenSpec.ofChange forestPlaysSpec)) forestPlaysCard

/-- THE TIED CARD OF 'tableaulaw22.ViewsMoves'. -/
def viewsMovesCard : Claim7 := { stood := { row := viewsMovesRow, standIns := [], harness := (true, "cb06017255a0918c9e20c872225cba62337ece1b2e5361a9d4cebd5591158552"), looks := true }, kinds := [], alts := [], laidByText := true, laidKinds := [.sentinel, .sentinel, .sentinel, .sentinel, .sentinel, .sentinel, .sentinel, .sentinel, .sentinel, .sentinel, .sentinel, .sentinel, .sentinel, .sentinel, .sentinel, .sentinel], laidTests := true, laidLooks := .later }
def ViewsMovesCardSaid : Prop := Claim7.holds Tryz.pinned (.plain (OpenSpec.ofChange viewsMovesSpec)) viewsMovesCard

/-- THE TIED CARD OF 'tableaulaw22.ViewsRoots'. -/
def viewsRootsCard : Claim7 := { stood := { row := viewsRootsRow, standIns := [], harness := (true, "cb06017255a0918c9e20c872225cba62337ece1b2e5361a9d4cebd5591158552"), looks := true }, kinds := [], alts := [], laidByText := true, laidKinds := [.sentinel, .sentinel, .sentinel, .sentinel, .sentinel, .sentinel, .sentinel, .sentinel, .sentinel, .sentinel, .sentinel, .sentinel, .sentinel, .sentinel, .sentinel, .sentinel], laidTests := true, laidLooks := .later }
def ViewsRootsCardSaid : Prop := Claim7.holds Tryz.pinned (.plain (OpenSpec.ofChange viewsRootsSpec)) viewsRootsCard

/-- THE TIED CARD OF 'tableaulaw22.ViewsPlays'. -/
def viewsPlaysCard : Claim7 := { stood := { row := viewsPlaysRow, standIns := [], harness := (true, "cb06017255a0918c9e20c872225cba62337ece1b2e5361a9d4cebd5591158552"), looks := true }, kinds := [], alts := [], laidByText := true, laidKinds := [.sentinel, .sentinel, .sentinel, .sentinel, .sentinel, .sentinel, .sentinel, .sentinel, .sentinel, .sentinel, .sentinel, .sentinel, .sentinel, .sentinel, .sentinel, .sentinel], laidTests := true, laidLooks := .later }
def ViewsPlaysCardSaid : Prop := Claim7.holds Tryz.pinned (.plain (OpenSpec.ofChange viewsPlaysSpec)) viewsPlaysCard

/-- THE SECOND FORM's CARD OF 'tableaulaw17.ForestUnseen'. -/
def forestUnseenUptoCard : Claim7 := { stood := { row := forestUnseenUptoRow, standIns := [], harness := (true, "cb06017255a0918c9e20c872225cba62337ece1b2e5361a9d4cebd5591158552"), looks := true }, kinds := [], alts := [], laidByText := true, laidKinds := [.sentinel, .sentinel, .sentinel, .sentinel, .sentinel, .sentinel, .sentinel, .sentinel, .sentinel, .sentinel, .sentinel, .sentinel, .sentinel, .sentinel, .sentinel, .sentinel], laidTests := true, laidLooks := .later }
def ForestUnseenUptoCardSaid : Prop := Claim7.holds Tryz.pinned (.plain (OpenSpec.upto forestUnseenSpec)) forestUnseenUptoCard

/-- THE SECOND FORM's CARD OF 'tableaulaw17.ForestPlays'. -/
def forestPlaysUptoCard : Claim7 := { stood := { row := forestPlaysUptoRow, standIns := [], harness := (true, "cb06017255a0918c9e20c872225cba62337ece1b2e5361a9d4cebd5591158552"), looks := true }, kinds := [], alts := [], laidByText := true, laidKinds := [.sentinel, .sentinel, .sentinel, .sentinel, .sentinel, .sentinel, .sentinel, .sentinel, .sentinel, .sentinel, .sentinel, .sentinel, .sentinel, .sentinel, .sentinel, .sentinel], laidTests := true, laidLooks := .later }
def ForestPlaysUptoCardSaid : Prop := Claim7.holds Tryz.pinned (.plain (OpenSpec.upto forestPlaysSpec)) forestPlaysUptoCard

/-- THE SECOND FORM's CARD OF 'tableaulaw22.ViewsMoves'. -/
def viewsMovesUptoCard : Claim7 := { stood := { row := viewsMovesUptoRow, standIns := [], harness := (true, "cb06017255a0918c9e20c872225cba62337ece1b2e5361a9d4cebd5591158552"), looks := true }, kinds := [], alts := [], laidByText := true, laidKinds := [.sentinel, .sentinel, .sentinel, .sentinel, .sentinel, .sentinel, .sentinel, .sentinel, .sentinel, .sentinel, .sentinel, .sentinel, .sentinel, .sentinel, .sentinel, .sentinel], laidTests := true, laidLooks := .later }
def ViewsMovesUptoCardSaid : Prop := Claim7.holds Tryz.pinned (.plain (OpenSpec.upto viewsMovesSpec)) viewsMovesUptoCard

/-- THE SECOND FORM's CARD OF 'tableaulaw22.ViewsRoots'. -/
def viewsRootsUptoCard : Claim7 := { stood := { row := viewsRootsUptoRow, standIns := [], harness := (true, "cb06017255a0918c9e20c872225cba62337ece1b2e5361a9d4cebd5591158552"), looks := true }, kinds := [], alts := [], laidByText := true, laidKinds := [.sentinel, .sentinel, .sentinel, .sentinel, .sentinel, .sentinel, .sentinel, .sentinel, .sentinel, .sentinel, .sentinel, .sentinel, .sentinel, .sentinel, .sentinel, .sentinel], laidTests := true, laidLooks := .later }
def ViewsRootsUptoCardSaid : Prop := Claim7.holds Tryz.pinned (.plain (OpenSpec.upto viewsRootsSpec)) viewsRootsUptoCard

/-- THE SECOND FORM's CARD OF 'tableaulaw22.ViewsPlays'. -/
def viewsPlaysUptoCard : Claim7 := { stood := { row := viewsPlaysUptoRow, standIns := [], harness := (true, "cb06017255a0918c9e20c872225cba62337ece1b2e5361a9d4cebd5591158552"), looks := true }, kinds := [], alts := [], laidByText := true, laidKinds := [.sentinel, .sentinel, .sentinel, .sentinel, .sentinel, .sentinel, .sentinel, .sentinel, .sentinel, .sentinel, .sentinel, .sentinel, .sentinel, .sentinel, .sentinel, .sentinel], laidTests := true, laidLooks := .later }
def ViewsPlaysUptoCardSaid : Prop := Claim7.holds Tryz.pinned (.plain (OpenSpec.upto viewsPlaysSpec)) viewsPlaysUptoCard
end Rows
end Go.Proofs.YthkjicnnepkghaaGreatDoor
