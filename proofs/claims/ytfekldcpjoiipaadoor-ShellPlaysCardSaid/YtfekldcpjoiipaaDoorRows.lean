/-
  NARROWER THAN 'FOR EVERY INPUT', by the rows' own cells (each row's printed sentence says how): OrderAll: laid · OrderMoves: laid · OrderTops: laid · ShellAcks: laid · ShellApart: laid · ShellMaps: laid · ShellPlays: laid.
  DERIVED. THE GIVEN ROWS OF THIS SEAT. 7 by the template 'for every input the law returns true; each argument reads behind the call as it read before'; 0 by the template 'total and deterministic' (their statements: YtfekldcpjoiipaaDoorTotals.lean).
  GIVEN WITH THE SEED: the statements are not yours to turn. If you find one false, say at which input.
  Laid BY PROGRAM, IN A SANDBOX (cutbox-rows.mjs): the forced cells as the released guide's own fill.sh prints them over the translation a297e9c501489850… (all of the seat's roots in one cut). By AI agents, Wed Nov 11 2026. No macro, syntax, notation, axiom, sorry.
-/
import Derived.Test.YtfekldcpjoiipaaDoorChecked
import GoSem.Claim
import GoSem.ClaimJoined
import GoSem.ClaimMapViews
import Derived.JoinedTies
import Derived.KernelRfl
namespace Go.Proofs.YtfekldcpjoiipaaDoor
/- THE CELL 'sum', in the pinned program and in every row, IS THE sha256 OF THE DUMP (.gsa) THAT YtfekldcpjoiipaaDoorProg.lean LOADS. Nothing in Lean hashes anything: it is a label: what it is worth is what the hold of that sum in a sandbox is worth. -/
noncomputable def Tryd.pinned : Pinned := { name := "ytfekldcpjoiipaadoor", sum := "a297e9c501489850fef19f6c8cf18b04f77ebc058ead7d015e0b32d7ef6834f7", checked := Tryd.checked }
namespace Rows
def none {H : Type} : Left H := { results := [], args := [] }

/- WHAT THE LISTED PACKAGE-LEVEL VARIABLES READ AS WHEN THE CALL BEGINS. Each datum BY PROGRAM (the guide's laid-datum.mjs) off the statement by which the dump's own 'gosem.cut.vars' lays the variable. In a bare row this is a premise. The card (YtfekldcpjoiipaaDoorCards.lean) ties it to the program's text. -/
def laid_tableau_api_ErrArg {H : Type} : DataW H := .iface "*errors.errorString" (.ptr (.agg [.lit (.string [97, 114, 103, 117, 109, 101, 110, 116])]))
def laid_tableau_api_ErrShort {H : Type} : DataW H := .iface "*errors.errorString" (.ptr (.agg [.lit (.string [115, 104, 111, 114, 116])]))
def laid_tableau_api_ErrBytes {H : Type} : DataW H := .iface "*errors.errorString" (.ptr (.agg [.lit (.string [98, 121, 116, 101, 115])]))
def laid_tableau_api_ErrBig {H : Type} : DataW H := .iface "*errors.errorString" (.ptr (.agg [.lit (.string [98, 105, 103])]))
def laid_tableau_api_ErrObject {H : Type} : DataW H := .iface "*errors.errorString" (.ptr (.agg [.lit (.string [111, 98, 106, 101, 99, 116])]))
def laid_tableau_api_ErrMethod {H : Type} : DataW H := .iface "*errors.errorString" (.ptr (.agg [.lit (.string [109, 101, 116, 104, 111, 100])]))
def laid_tableau_api_ErrFormat {H : Type} : DataW H := .iface "*errors.errorString" (.ptr (.agg [.lit (.string [102, 111, 114, 109, 97, 116])]))
def laid_tableau_api_ErrStride {H : Type} : DataW H := .iface "*errors.errorString" (.ptr (.agg [.lit (.string [115, 116, 114, 105, 100, 101])]))
def laid_tableau_api_ErrFile {H : Type} : DataW H := .iface "*errors.errorString" (.ptr (.agg [.lit (.string [102, 105, 108, 101])]))
def laid_tableau_api_ErrRole {H : Type} : DataW H := .iface "*errors.errorString" (.ptr (.agg [.lit (.string [114, 111, 108, 101])]))
def laid_tableau_api_ErrPlace {H : Type} : DataW H := .iface "*errors.errorString" (.ptr (.agg [.lit (.string [112, 108, 97, 99, 101])]))
def laid_tableau_api_ErrState {H : Type} : DataW H := .iface "*errors.errorString" (.ptr (.agg [.lit (.string [115, 116, 97, 116, 101])]))
def laid_tableau_api_ErrSerial {H : Type} : DataW H := .iface "*errors.errorString" (.ptr (.agg [.lit (.string [115, 101, 114, 105, 97, 108])]))
def laid_tableau_api_ErrFull {H : Type} : DataW H := .iface "*errors.errorString" (.ptr (.agg [.lit (.string [102, 117, 108, 108])]))
def laid_tableau_api_ErrGone {H : Type} : DataW H := .iface "*errors.errorString" (.ptr (.agg [.lit (.string [103, 111, 110, 101])]))
def laid_tableau_api_ErrSheet {H : Type} : DataW H := .iface "*errors.errorString" (.ptr (.agg [.lit (.string [115, 104, 101, 101, 116])]))

/-- 'tableaulaw16.OrderAll': WHATEVER THE INPUT: true; the input reads as it did. -/
def orderAllSpec : ChangeSpec := { name := "orderAll", fn := fun _ => fun
  | [d1, d2, d3] => { results := [.lit (.bool true)], args := [d1, d2, d3] }
  | _ => none }
def orderAllRow : OpenClaim := { program := "ytfekldcpjoiipaadoor", sum := "a297e9c501489850fef19f6c8cf18b04f77ebc058ead7d015e0b32d7ef6834f7", func := "tableau/tableaulaw16.OrderAll", spec := "orderAll", inPlace := ["slices.overlaps[int]", "internal/reflectlite.TypeOf"], unfollowed := true, recurses := true, named := ["tableau/api.ErrPlace", "tableau/api.ErrArg", "tableau/api.ErrShort", "tableau/api.ErrBytes", "tableau/api.ErrBig", "tableau/api.ErrObject", "tableau/api.ErrMethod", "tableau/api.ErrFormat", "tableau/api.ErrStride", "tableau/api.ErrFile", "tableau/api.ErrRole", "tableau/api.ErrState", "tableau/api.ErrSerial", "tableau/api.ErrFull", "tableau/api.ErrGone", "tableau/api.ErrSheet"], apart := false, laid := [("tableau/api.ErrArg", laid_tableau_api_ErrArg), ("tableau/api.ErrShort", laid_tableau_api_ErrShort), ("tableau/api.ErrBytes", laid_tableau_api_ErrBytes), ("tableau/api.ErrBig", laid_tableau_api_ErrBig), ("tableau/api.ErrObject", laid_tableau_api_ErrObject), ("tableau/api.ErrMethod", laid_tableau_api_ErrMethod), ("tableau/api.ErrFormat", laid_tableau_api_ErrFormat), ("tableau/api.ErrStride", laid_tableau_api_ErrStride), ("tableau/api.ErrFile", laid_tableau_api_ErrFile), ("tableau/api.ErrRole", laid_tableau_api_ErrRole), ("tableau/api.ErrPlace", laid_tableau_api_ErrPlace), ("tableau/api.ErrState", laid_tableau_api_ErrState), ("tableau/api.ErrSerial", laid_tableau_api_ErrSerial), ("tableau/api.ErrFull", laid_tableau_api_ErrFull), ("tableau/api.ErrGone", laid_tableau_api_ErrGone), ("tableau/api.ErrSheet", laid_tableau_api_ErrSheet)] }
def OrderAllSaid : Prop := orderAllRow.holds Tryd.pinned (OpenSpec.ofChange orderAllSpec)

/-- ITS FALSE NEIGHBOUR: 'it returns false'. Refute it at one input. -/
def orderAllWrong : ChangeSpec := { name := "orderAll", fn := fun _ => fun
  | [d1, d2, d3] => { results := [.lit (.bool false)], args := [d1, d2, d3] }
  | _ => none }
def OrderAllWrongFalsely : Prop := orderAllRow.holds Tryd.pinned (OpenSpec.ofChange orderAllWrong)

/-- 'tableaulaw16.OrderMoves': WHATEVER THE INPUT: true; the input reads as it did. -/
def orderMovesSpec : ChangeSpec := { name := "orderMoves", fn := fun _ => fun
  | [d1, d2, d3] => { results := [.lit (.bool true)], args := [d1, d2, d3] }
  | _ => none }
def orderMovesRow : OpenClaim := { program := "ytfekldcpjoiipaadoor", sum := "a297e9c501489850fef19f6c8cf18b04f77ebc058ead7d015e0b32d7ef6834f7", func := "tableau/tableaulaw16.OrderMoves", spec := "orderMoves", inPlace := ["slices.overlaps[int]", "internal/reflectlite.TypeOf"], unfollowed := true, recurses := true, named := ["tableau/api.ErrPlace", "tableau/api.ErrArg", "tableau/api.ErrShort", "tableau/api.ErrBytes", "tableau/api.ErrBig", "tableau/api.ErrObject", "tableau/api.ErrMethod", "tableau/api.ErrFormat", "tableau/api.ErrStride", "tableau/api.ErrFile", "tableau/api.ErrRole", "tableau/api.ErrState", "tableau/api.ErrSerial", "tableau/api.ErrFull", "tableau/api.ErrGone", "tableau/api.ErrSheet"], apart := false, laid := [("tableau/api.ErrArg", laid_tableau_api_ErrArg), ("tableau/api.ErrShort", laid_tableau_api_ErrShort), ("tableau/api.ErrBytes", laid_tableau_api_ErrBytes), ("tableau/api.ErrBig", laid_tableau_api_ErrBig), ("tableau/api.ErrObject", laid_tableau_api_ErrObject), ("tableau/api.ErrMethod", laid_tableau_api_ErrMethod), ("tableau/api.ErrFormat", laid_tableau_api_ErrFormat), ("tableau/api.ErrStride", laid_tableau_api_ErrStride), ("tableau/api.ErrFile", laid_tableau_api_ErrFile), ("tableau/api.ErrRole", laid_tableau_api_ErrRole), ("tableau/api.ErrPlace", laid_tableau_api_ErrPlace), ("tableau/api.ErrState", laid_tableau_api_ErrState), ("tableau/api.ErrSerial", laid_tableau_api_ErrSerial), ("tableau/api.ErrFull", laid_tableau_api_ErrFull), ("tableau/api.ErrGone", laid_tableau_api_ErrGone), ("tableau/api.ErrSheet", laid_tableau_api_ErrSheet)] }
def OrderMovesSaid : Prop := orderMovesRow.holds Tryd.pinned (OpenSpec.ofChange orderMovesSpec)

/-- ITS FALSE NEIGHBOUR: 'it returns false'. Refute it at one input. -/
def orderMovesWrong : ChangeSpec := { name := "orderMoves", fn := fun _ => fun
  | [d1, d2, d3] => { results := [.lit (.bool false)], args := [d1, d2, d3] }
  | _ => none }
def OrderMovesWrongFalsely : Prop := orderMovesRow.holds Tryd.pinned (OpenSpec.ofChange orderMovesWrong)

/-- 'tableaulaw16.OrderTops': WHATEVER THE INPUT: true; the input reads as it did. -/
def orderTopsSpec : ChangeSpec := { name := "orderTops", fn := fun _ => fun
  | [d] => { results := [.lit (.bool true)], args := [d] }
  | _ => none }
def orderTopsRow : OpenClaim := { program := "ytfekldcpjoiipaadoor", sum := "a297e9c501489850fef19f6c8cf18b04f77ebc058ead7d015e0b32d7ef6834f7", func := "tableau/tableaulaw16.OrderTops", spec := "orderTops", inPlace := ["slices.overlaps[int]", "internal/reflectlite.TypeOf"], unfollowed := true, recurses := true, named := ["tableau/api.ErrPlace", "tableau/api.ErrArg", "tableau/api.ErrShort", "tableau/api.ErrBytes", "tableau/api.ErrBig", "tableau/api.ErrObject", "tableau/api.ErrMethod", "tableau/api.ErrFormat", "tableau/api.ErrStride", "tableau/api.ErrFile", "tableau/api.ErrRole", "tableau/api.ErrState", "tableau/api.ErrSerial", "tableau/api.ErrFull", "tableau/api.ErrGone", "tableau/api.ErrSheet"], apart := false, laid := [("tableau/api.ErrArg", laid_tableau_api_ErrArg), ("tableau/api.ErrShort", laid_tableau_api_ErrShort), ("tableau/api.ErrBytes", laid_tableau_api_ErrBytes), ("tableau/api.ErrBig", laid_tableau_api_ErrBig), ("tableau/api.ErrObject", laid_tableau_api_ErrObject), ("tableau/api.ErrMethod", laid_tableau_api_ErrMethod), ("tableau/api.ErrFormat", laid_tableau_api_ErrFormat), ("tableau/api.ErrStride", laid_tableau_api_ErrStride), ("tableau/api.ErrFile", laid_tableau_api_ErrFile), ("tableau/api.ErrRole", laid_tableau_api_ErrRole), ("tableau/api.ErrPlace", laid_tableau_api_ErrPlace), ("tableau/api.ErrState", laid_tableau_api_ErrState), ("tableau/api.ErrSerial", laid_tableau_api_ErrSerial), ("tableau/api.ErrFull", laid_tableau_api_ErrFull), ("tableau/api.ErrGone", laid_tableau_api_ErrGone), ("tableau/api.ErrSheet", laid_tableau_api_ErrSheet)] }
def OrderTopsSaid : Prop := orderTopsRow.holds Tryd.pinned (OpenSpec.ofChange orderTopsSpec)

/-- ITS FALSE NEIGHBOUR: 'it returns false'. Refute it at one input. -/
def orderTopsWrong : ChangeSpec := { name := "orderTops", fn := fun _ => fun
  | [d] => { results := [.lit (.bool false)], args := [d] }
  | _ => none }
def OrderTopsWrongFalsely : Prop := orderTopsRow.holds Tryd.pinned (OpenSpec.ofChange orderTopsWrong)

/-- 'tableaulaw18.ShellAcks': WHATEVER THE INPUT: true; the input reads as it did. -/
def shellAcksSpec : ChangeSpec := { name := "shellAcks", fn := fun _ => fun
  | [d1, d2, d3] => { results := [.lit (.bool true)], args := [d1, d2, d3] }
  | _ => none }
def shellAcksRow : OpenClaim := { program := "ytfekldcpjoiipaadoor", sum := "a297e9c501489850fef19f6c8cf18b04f77ebc058ead7d015e0b32d7ef6834f7", func := "tableau/tableaulaw18.ShellAcks", spec := "shellAcks", inPlace := ["internal/reflectlite.TypeOf"], unfollowed := true, recurses := true, named := ["tableau/api.ErrRole", "tableau/api.ErrState", "tableau/api.ErrObject", "tableau/api.ErrSerial", "tableau/api.ErrArg", "tableau/api.ErrShort", "tableau/api.ErrBytes", "tableau/api.ErrBig", "tableau/api.ErrMethod", "tableau/api.ErrFormat", "tableau/api.ErrStride", "tableau/api.ErrFile", "tableau/api.ErrPlace", "tableau/api.ErrFull", "tableau/api.ErrGone", "tableau/api.ErrSheet"], apart := false, laid := [("tableau/api.ErrArg", laid_tableau_api_ErrArg), ("tableau/api.ErrShort", laid_tableau_api_ErrShort), ("tableau/api.ErrBytes", laid_tableau_api_ErrBytes), ("tableau/api.ErrBig", laid_tableau_api_ErrBig), ("tableau/api.ErrObject", laid_tableau_api_ErrObject), ("tableau/api.ErrMethod", laid_tableau_api_ErrMethod), ("tableau/api.ErrFormat", laid_tableau_api_ErrFormat), ("tableau/api.ErrStride", laid_tableau_api_ErrStride), ("tableau/api.ErrFile", laid_tableau_api_ErrFile), ("tableau/api.ErrRole", laid_tableau_api_ErrRole), ("tableau/api.ErrPlace", laid_tableau_api_ErrPlace), ("tableau/api.ErrState", laid_tableau_api_ErrState), ("tableau/api.ErrSerial", laid_tableau_api_ErrSerial), ("tableau/api.ErrFull", laid_tableau_api_ErrFull), ("tableau/api.ErrGone", laid_tableau_api_ErrGone), ("tableau/api.ErrSheet", laid_tableau_api_ErrSheet)] }
def ShellAcksSaid : Prop := shellAcksRow.holds Tryd.pinned (OpenSpec.ofChange shellAcksSpec)

/-- ITS FALSE NEIGHBOUR: 'it returns false'. Refute it at one input. -/
def shellAcksWrong : ChangeSpec := { name := "shellAcks", fn := fun _ => fun
  | [d1, d2, d3] => { results := [.lit (.bool false)], args := [d1, d2, d3] }
  | _ => none }
def ShellAcksWrongFalsely : Prop := shellAcksRow.holds Tryd.pinned (OpenSpec.ofChange shellAcksWrong)

/-- 'tableaulaw18.ShellApart': WHATEVER THE INPUT: true; the input reads as it did. -/
def shellApartSpec : ChangeSpec := { name := "shellApart", fn := fun _ => fun
  | [d] => { results := [.lit (.bool true)], args := [d] }
  | _ => none }
def shellApartRow : OpenClaim := { program := "ytfekldcpjoiipaadoor", sum := "a297e9c501489850fef19f6c8cf18b04f77ebc058ead7d015e0b32d7ef6834f7", func := "tableau/tableaulaw18.ShellApart", spec := "shellApart", inPlace := ["internal/reflectlite.TypeOf"], unfollowed := true, recurses := true, named := ["tableau/api.ErrRole", "tableau/api.ErrState", "tableau/api.ErrObject", "tableau/api.ErrSerial", "tableau/api.ErrArg", "tableau/api.ErrShort", "tableau/api.ErrBytes", "tableau/api.ErrBig", "tableau/api.ErrMethod", "tableau/api.ErrFormat", "tableau/api.ErrStride", "tableau/api.ErrFile", "tableau/api.ErrPlace", "tableau/api.ErrFull", "tableau/api.ErrGone", "tableau/api.ErrSheet"], apart := false, laid := [("tableau/api.ErrArg", laid_tableau_api_ErrArg), ("tableau/api.ErrShort", laid_tableau_api_ErrShort), ("tableau/api.ErrBytes", laid_tableau_api_ErrBytes), ("tableau/api.ErrBig", laid_tableau_api_ErrBig), ("tableau/api.ErrObject", laid_tableau_api_ErrObject), ("tableau/api.ErrMethod", laid_tableau_api_ErrMethod), ("tableau/api.ErrFormat", laid_tableau_api_ErrFormat), ("tableau/api.ErrStride", laid_tableau_api_ErrStride), ("tableau/api.ErrFile", laid_tableau_api_ErrFile), ("tableau/api.ErrRole", laid_tableau_api_ErrRole), ("tableau/api.ErrPlace", laid_tableau_api_ErrPlace), ("tableau/api.ErrState", laid_tableau_api_ErrState), ("tableau/api.ErrSerial", laid_tableau_api_ErrSerial), ("tableau/api.ErrFull", laid_tableau_api_ErrFull), ("tableau/api.ErrGone", laid_tableau_api_ErrGone), ("tableau/api.ErrSheet", laid_tableau_api_ErrSheet)] }
def ShellApartSaid : Prop := shellApartRow.holds Tryd.pinned (OpenSpec.ofChange shellApartSpec)

/-- ITS FALSE NEIGHBOUR: 'it returns false'. Refute it at one input. -/
def shellApartWrong : ChangeSpec := { name := "shellApart", fn := fun _ => fun
  | [d] => { results := [.lit (.bool false)], args := [d] }
  | _ => none }
def ShellApartWrongFalsely : Prop := shellApartRow.holds Tryd.pinned (OpenSpec.ofChange shellApartWrong)

/-- 'tableaulaw18.ShellMaps': WHATEVER THE INPUT: true; the input reads as it did. -/
def shellMapsSpec : ChangeSpec := { name := "shellMaps", fn := fun _ => fun
  | [d1, d2, d3, d4] => { results := [.lit (.bool true)], args := [d1, d2, d3, d4] }
  | _ => none }
def shellMapsRow : OpenClaim := { program := "ytfekldcpjoiipaadoor", sum := "a297e9c501489850fef19f6c8cf18b04f77ebc058ead7d015e0b32d7ef6834f7", func := "tableau/tableaulaw18.ShellMaps", spec := "shellMaps", inPlace := ["internal/reflectlite.TypeOf"], unfollowed := true, recurses := true, named := ["tableau/api.ErrRole", "tableau/api.ErrState", "tableau/api.ErrObject", "tableau/api.ErrSerial", "tableau/api.ErrArg", "tableau/api.ErrShort", "tableau/api.ErrBytes", "tableau/api.ErrBig", "tableau/api.ErrMethod", "tableau/api.ErrFormat", "tableau/api.ErrStride", "tableau/api.ErrFile", "tableau/api.ErrPlace", "tableau/api.ErrFull", "tableau/api.ErrGone", "tableau/api.ErrSheet"], apart := false, laid := [("tableau/api.ErrArg", laid_tableau_api_ErrArg), ("tableau/api.ErrShort", laid_tableau_api_ErrShort), ("tableau/api.ErrBytes", laid_tableau_api_ErrBytes), ("tableau/api.ErrBig", laid_tableau_api_ErrBig), ("tableau/api.ErrObject", laid_tableau_api_ErrObject), ("tableau/api.ErrMethod", laid_tableau_api_ErrMethod), ("tableau/api.ErrFormat", laid_tableau_api_ErrFormat), ("tableau/api.ErrStride", laid_tableau_api_ErrStride), ("tableau/api.ErrFile", laid_tableau_api_ErrFile), ("tableau/api.ErrRole", laid_tableau_api_ErrRole), ("tableau/api.ErrPlace", laid_tableau_api_ErrPlace), ("tableau/api.ErrState", laid_tableau_api_ErrState), ("tableau/api.ErrSerial", laid_tableau_api_ErrSerial), ("tableau/api.ErrFull", laid_tableau_api_ErrFull), ("tableau/api.ErrGone", laid_tableau_api_ErrGone), ("tableau/api.ErrSheet", laid_tableau_api_ErrSheet)] }
def ShellMapsSaid : Prop := shellMapsRow.holds Tryd.pinned (OpenSpec.ofChange shellMapsSpec)

/-- ITS FALSE NEIGHBOUR: 'it returns false'. Refute it at one input. -/
def shellMapsWrong : ChangeSpec := { name := "shellMaps", fn := fun _ => fun
  | [d1, d2, d3, d4] => { results := [.lit (.bool false)], args := [d1, d2, d3, d4] }
  | _ => none }
def ShellMapsWrongFalsely : Prop := shellMapsRow.holds Tryd.pinned (OpenSpec.ofChange shellMapsWrong)

/-- 'tableaulaw18.ShellPlays': WHATEVER THE INPUT: true; the input reads as it did. -/
def shellPlaysSpec : ChangeSpec := { name := "shellPlays", fn := fun _ => fun
  | [d] => { results := [.lit (.bool true)], args := [d] }
  | _ => none }
def shellPlaysRow : OpenClaim := { program := "ytfekldcpjoiipaadoor", sum := "a297e9c501489850fef19f6c8cf18b04f77ebc058ead7d015e0b32d7ef6834f7", func := "tableau/tableaulaw18.ShellPlays", spec := "shellPlays", inPlace := ["internal/reflectlite.TypeOf"], unfollowed := true, recurses := true, named := ["tableau/api.ErrRole", "tableau/api.ErrState", "tableau/api.ErrArg", "tableau/api.ErrShort", "tableau/api.ErrBytes", "tableau/api.ErrBig", "tableau/api.ErrObject", "tableau/api.ErrMethod", "tableau/api.ErrFormat", "tableau/api.ErrStride", "tableau/api.ErrFile", "tableau/api.ErrPlace", "tableau/api.ErrSerial", "tableau/api.ErrFull", "tableau/api.ErrGone", "tableau/api.ErrSheet"], apart := false, laid := [("tableau/api.ErrArg", laid_tableau_api_ErrArg), ("tableau/api.ErrShort", laid_tableau_api_ErrShort), ("tableau/api.ErrBytes", laid_tableau_api_ErrBytes), ("tableau/api.ErrBig", laid_tableau_api_ErrBig), ("tableau/api.ErrObject", laid_tableau_api_ErrObject), ("tableau/api.ErrMethod", laid_tableau_api_ErrMethod), ("tableau/api.ErrFormat", laid_tableau_api_ErrFormat), ("tableau/api.ErrStride", laid_tableau_api_ErrStride), ("tableau/api.ErrFile", laid_tableau_api_ErrFile), ("tableau/api.ErrRole", laid_tableau_api_ErrRole), ("tableau/api.ErrPlace", laid_tableau_api_ErrPlace), ("tableau/api.ErrState", laid_tableau_api_ErrState), ("tableau/api.ErrSerial", laid_tableau_api_ErrSerial), ("tableau/api.ErrFull", laid_tableau_api_ErrFull), ("tableau/api.ErrGone", laid_tableau_api_ErrGone), ("tableau/api.ErrSheet", laid_tableau_api_ErrSheet)] }
def ShellPlaysSaid : Prop := shellPlaysRow.holds Tryd.pinned (OpenSpec.ofChange shellPlaysSpec)

/-- ITS FALSE NEIGHBOUR: 'it returns false'. Refute it at one input. -/
def shellPlaysWrong : ChangeSpec := { name := "shellPlays", fn := fun _ => fun
  | [d] => { results := [.lit (.bool false)], args := [d] }
  | _ => none }
def ShellPlaysWrongFalsely : Prop := shellPlaysRow.holds Tryd.pinned (OpenSpec.ofChange shellPlaysWrong)

/- THE SECOND FORM. 'bulk': how many values and letters a reading holds, each counted each time it is reached (what is shared counts as often as it is met; a slice's spare places count too). A statement '..UptoSaid' is the law's where the arguments, and the package variables that the reading takes, are together of bulk at most 1048576: NARROWER than '..Said'. Prove '..Said' where nothing that the law and all that it calls make is longer than what came in: it says more and counts as full. Else prove '..UptoSaid'. A law counts once. -/
mutual
def uptoBulk {H : Type} : DataW H → Nat
  | .lit (.string bytes) => bytes.length + 1
  | .lit _ => 1
  | .nil => 1
  | .ptr d => uptoBulk d + 1
  | .slice elems spare => uptoBulkAll elems + uptoBulkAll spare + 1
  | .agg parts => uptoBulkAll parts + 1
  | .iface _ d => uptoBulk d + 1
  | .map entries => uptoBulkEntries entries + 1
  | .held _ => 1
def uptoBulkAll {H : Type} : List (DataW H) → Nat
  | [] => 0
  | d :: r => uptoBulk d + uptoBulkAll r
def uptoBulkEntries {H : Type} : List (Lit × DataW H) → Nat
  | [] => 0
  | x :: r => uptoBulkEntry x + uptoBulkEntries r
def uptoBulkEntry {H : Type} : Lit × DataW H → Nat
  | (.string bytes, d) => bytes.length + uptoBulk d + 1
  | (_, d) => uptoBulk d + 1
 end
def uptoSmall : (H : Type) → List (DataW H) → Bool := fun _ ds => decide (uptoBulkAll ds ≤ 1048576)
def OpenSpec.upto (s : _root_.Go.ChangeSpec) : _root_.Go.OpenSpec := { _root_.Go.OpenSpec.ofChange s with cond := some uptoSmall }

/-- 'tableaulaw16.OrderAll', WHERE WHAT IT READS IS OF BULK AT MOST 1048576: true; the input reads as it did. -/
def orderAllUptoRow : OpenClaim := { program := "ytfekldcpjoiipaadoor", sum := "a297e9c501489850fef19f6c8cf18b04f77ebc058ead7d015e0b32d7ef6834f7", func := "tableau/tableaulaw16.OrderAll", spec := "orderAll", inPlace := ["slices.overlaps[int]", "internal/reflectlite.TypeOf"], unfollowed := true, recurses := true, named := ["tableau/api.ErrPlace", "tableau/api.ErrArg", "tableau/api.ErrShort", "tableau/api.ErrBytes", "tableau/api.ErrBig", "tableau/api.ErrObject", "tableau/api.ErrMethod", "tableau/api.ErrFormat", "tableau/api.ErrStride", "tableau/api.ErrFile", "tableau/api.ErrRole", "tableau/api.ErrState", "tableau/api.ErrSerial", "tableau/api.ErrFull", "tableau/api.ErrGone", "tableau/api.ErrSheet"], apart := false, laid := [("tableau/api.ErrArg", laid_tableau_api_ErrArg), ("tableau/api.ErrShort", laid_tableau_api_ErrShort), ("tableau/api.ErrBytes", laid_tableau_api_ErrBytes), ("tableau/api.ErrBig", laid_tableau_api_ErrBig), ("tableau/api.ErrObject", laid_tableau_api_ErrObject), ("tableau/api.ErrMethod", laid_tableau_api_ErrMethod), ("tableau/api.ErrFormat", laid_tableau_api_ErrFormat), ("tableau/api.ErrStride", laid_tableau_api_ErrStride), ("tableau/api.ErrFile", laid_tableau_api_ErrFile), ("tableau/api.ErrRole", laid_tableau_api_ErrRole), ("tableau/api.ErrPlace", laid_tableau_api_ErrPlace), ("tableau/api.ErrState", laid_tableau_api_ErrState), ("tableau/api.ErrSerial", laid_tableau_api_ErrSerial), ("tableau/api.ErrFull", laid_tableau_api_ErrFull), ("tableau/api.ErrGone", laid_tableau_api_ErrGone), ("tableau/api.ErrSheet", laid_tableau_api_ErrSheet)], narrowed := true }
def OrderAllUptoSaid : Prop := orderAllUptoRow.holds Tryd.pinned (OpenSpec.upto orderAllSpec)

/-- 'tableaulaw16.OrderMoves', WHERE WHAT IT READS IS OF BULK AT MOST 1048576: true; the input reads as it did. -/
def orderMovesUptoRow : OpenClaim := { program := "ytfekldcpjoiipaadoor", sum := "a297e9c501489850fef19f6c8cf18b04f77ebc058ead7d015e0b32d7ef6834f7", func := "tableau/tableaulaw16.OrderMoves", spec := "orderMoves", inPlace := ["slices.overlaps[int]", "internal/reflectlite.TypeOf"], unfollowed := true, recurses := true, named := ["tableau/api.ErrPlace", "tableau/api.ErrArg", "tableau/api.ErrShort", "tableau/api.ErrBytes", "tableau/api.ErrBig", "tableau/api.ErrObject", "tableau/api.ErrMethod", "tableau/api.ErrFormat", "tableau/api.ErrStride", "tableau/api.ErrFile", "tableau/api.ErrRole", "tableau/api.ErrState", "tableau/api.ErrSerial", "tableau/api.ErrFull", "tableau/api.ErrGone", "tableau/api.ErrSheet"], apart := false, laid := [("tableau/api.ErrArg", laid_tableau_api_ErrArg), ("tableau/api.ErrShort", laid_tableau_api_ErrShort), ("tableau/api.ErrBytes", laid_tableau_api_ErrBytes), ("tableau/api.ErrBig", laid_tableau_api_ErrBig), ("tableau/api.ErrObject", laid_tableau_api_ErrObject), ("tableau/api.ErrMethod", laid_tableau_api_ErrMethod), ("tableau/api.ErrFormat", laid_tableau_api_ErrFormat), ("tableau/api.ErrStride", laid_tableau_api_ErrStride), ("tableau/api.ErrFile", laid_tableau_api_ErrFile), ("tableau/api.ErrRole", laid_tableau_api_ErrRole), ("tableau/api.ErrPlace", laid_tableau_api_ErrPlace), ("tableau/api.ErrState", laid_tableau_api_ErrState), ("tableau/api.ErrSerial", laid_tableau_api_ErrSerial), ("tableau/api.ErrFull", laid_tableau_api_ErrFull), ("tableau/api.ErrGone", laid_tableau_api_ErrGone), ("tableau/api.ErrSheet", laid_tableau_api_ErrSheet)], narrowed := true }
def OrderMovesUptoSaid : Prop := orderMovesUptoRow.holds Tryd.pinned (OpenSpec.upto orderMovesSpec)

/-- 'tableaulaw16.OrderTops', WHERE WHAT IT READS IS OF BULK AT MOST 1048576: true; the input reads as it did. -/
def orderTopsUptoRow : OpenClaim := { program := "ytfekldcpjoiipaadoor", sum := "a297e9c501489850fef19f6c8cf18b04f77ebc058ead7d015e0b32d7ef6834f7", func := "tableau/tableaulaw16.OrderTops", spec := "orderTops", inPlace := ["slices.overlaps[int]", "internal/reflectlite.TypeOf"], unfollowed := true, recurses := true, named := ["tableau/api.ErrPlace", "tableau/api.ErrArg", "tableau/api.ErrShort", "tableau/api.ErrBytes", "tableau/api.ErrBig", "tableau/api.ErrObject", "tableau/api.ErrMethod", "tableau/api.ErrFormat", "tableau/api.ErrStride", "tableau/api.ErrFile", "tableau/api.ErrRole", "tableau/api.ErrState", "tableau/api.ErrSerial", "tableau/api.ErrFull", "tableau/api.ErrGone", "tableau/api.ErrSheet"], apart := false, laid := [("tableau/api.ErrArg", laid_tableau_api_ErrArg), ("tableau/api.ErrShort", laid_tableau_api_ErrShort), ("tableau/api.ErrBytes", laid_tableau_api_ErrBytes), ("tableau/api.ErrBig", laid_tableau_api_ErrBig), ("tableau/api.ErrObject", laid_tableau_api_ErrObject), ("tableau/api.ErrMethod", laid_tableau_api_ErrMethod), ("tableau/api.ErrFormat", laid_tableau_api_ErrFormat), ("tableau/api.ErrStride", laid_tableau_api_ErrStride), ("tableau/api.ErrFile", laid_tableau_api_ErrFile), ("tableau/api.ErrRole", laid_tableau_api_ErrRole), ("tableau/api.ErrPlace", laid_tableau_api_ErrPlace), ("tableau/api.ErrState", laid_tableau_api_ErrState), ("tableau/api.ErrSerial", laid_tableau_api_ErrSerial), ("tableau/api.ErrFull", laid_tableau_api_ErrFull), ("tableau/api.ErrGone", laid_tableau_api_ErrGone), ("tableau/api.ErrSheet", laid_tableau_api_ErrSheet)], narrowed := true }
def OrderTopsUptoSaid : Prop := orderTopsUptoRow.holds Tryd.pinned (OpenSpec.upto orderTopsSpec)

/-- 'tableaulaw18.ShellAcks', WHERE WHAT IT READS IS OF BULK AT MOST 1048576: true; the input reads as it did. -/
def shellAcksUptoRow : OpenClaim := { program := "ytfekldcpjoiipaadoor", sum := "a297e9c501489850fef19f6c8cf18b04f77ebc058ead7d015e0b32d7ef6834f7", func := "tableau/tableaulaw18.ShellAcks", spec := "shellAcks", inPlace := ["internal/reflectlite.TypeOf"], unfollowed := true, recurses := true, named := ["tableau/api.ErrRole", "tableau/api.ErrState", "tableau/api.ErrObject", "tableau/api.ErrSerial", "tableau/api.ErrArg", "tableau/api.ErrShort", "tableau/api.ErrBytes", "tableau/api.ErrBig", "tableau/api.ErrMethod", "tableau/api.ErrFormat", "tableau/api.ErrStride", "tableau/api.ErrFile", "tableau/api.ErrPlace", "tableau/api.ErrFull", "tableau/api.ErrGone", "tableau/api.ErrSheet"], apart := false, laid := [("tableau/api.ErrArg", laid_tableau_api_ErrArg), ("tableau/api.ErrShort", laid_tableau_api_ErrShort), ("tableau/api.ErrBytes", laid_tableau_api_ErrBytes), ("tableau/api.ErrBig", laid_tableau_api_ErrBig), ("tableau/api.ErrObject", laid_tableau_api_ErrObject), ("tableau/api.ErrMethod", laid_tableau_api_ErrMethod), ("tableau/api.ErrFormat", laid_tableau_api_ErrFormat), ("tableau/api.ErrStride", laid_tableau_api_ErrStride), ("tableau/api.ErrFile", laid_tableau_api_ErrFile), ("tableau/api.ErrRole", laid_tableau_api_ErrRole), ("tableau/api.ErrPlace", laid_tableau_api_ErrPlace), ("tableau/api.ErrState", laid_tableau_api_ErrState), ("tableau/api.ErrSerial", laid_tableau_api_ErrSerial), ("tableau/api.ErrFull", laid_tableau_api_ErrFull), ("tableau/api.ErrGone", laid_tableau_api_ErrGone), ("tableau/api.ErrSheet", laid_tableau_api_ErrSheet)], narrowed := true }
def ShellAcksUptoSaid : Prop := shellAcksUptoRow.holds Tryd.pinned (OpenSpec.upto shellAcksSpec)

/-- 'tableaulaw18.ShellApart', WHERE WHAT IT READS IS OF BULK AT MOST 1048576: true; the input reads as it did. -/
def shellApartUptoRow : OpenClaim := { program := "ytfekldcpjoiipaadoor", sum := "a297e9c501489850fef19f6c8cf18b04f77ebc058ead7d015e0b32d7ef6834f7", func := "tableau/tableaulaw18.ShellApart", spec := "shellApart", inPlace := ["internal/reflectlite.TypeOf"], unfollowed := true, recurses := true, named := ["tableau/api.ErrRole", "tableau/api.ErrState", "tableau/api.ErrObject", "tableau/api.ErrSerial", "tableau/api.ErrArg", "tableau/api.ErrShort", "tableau/api.ErrBytes", "tableau/api.ErrBig", "tableau/api.ErrMethod", "tableau/api.ErrFormat", "tableau/api.ErrStride", "tableau/api.ErrFile", "tableau/api.ErrPlace", "tableau/api.ErrFull", "tableau/api.ErrGone", "tableau/api.ErrSheet"], apart := false, laid := [("tableau/api.ErrArg", laid_tableau_api_ErrArg), ("tableau/api.ErrShort", laid_tableau_api_ErrShort), ("tableau/api.ErrBytes", laid_tableau_api_ErrBytes), ("tableau/api.ErrBig", laid_tableau_api_ErrBig), ("tableau/api.ErrObject", laid_tableau_api_ErrObject), ("tableau/api.ErrMethod", laid_tableau_api_ErrMethod), ("tableau/api.ErrFormat", laid_tableau_api_ErrFormat), ("tableau/api.ErrStride", laid_tableau_api_ErrStride), ("tableau/api.ErrFile", laid_tableau_api_ErrFile), ("tableau/api.ErrRole", laid_tableau_api_ErrRole), ("tableau/api.ErrPlace", laid_tableau_api_ErrPlace), ("tableau/api.ErrState", laid_tableau_api_ErrState), ("tableau/api.ErrSerial", laid_tableau_api_ErrSerial), ("tableau/api.ErrFull", laid_tableau_api_ErrFull), ("tableau/api.ErrGone", laid_tableau_api_ErrGone), ("tableau/api.ErrSheet", laid_tableau_api_ErrSheet)], narrowed := true }
def ShellApartUptoSaid : Prop := shellApartUptoRow.holds Tryd.pinned (OpenSpec.upto shellApartSpec)

/-- 'tableaulaw18.ShellMaps', WHERE WHAT IT READS IS OF BULK AT MOST 1048576: true; the input reads as it did. -/
def shellMapsUptoRow : OpenClaim := { program := "ytfekldcpjoiipaadoor", sum := "a297e9c501489850fef19f6c8cf18b04f77ebc058ead7d015e0b32d7ef6834f7", func := "tableau/tableaulaw18.ShellMaps", spec := "shellMaps", inPlace := ["internal/reflectlite.TypeOf"], unfollowed := true, recurses := true, named := ["tableau/api.ErrRole", "tableau/api.ErrState", "tableau/api.ErrObject", "tableau/api.ErrSerial", "tableau/api.ErrArg", "tableau/api.ErrShort", "tableau/api.ErrBytes", "tableau/api.ErrBig", "tableau/api.ErrMethod", "tableau/api.ErrFormat", "tableau/api.ErrStride", "tableau/api.ErrFile", "tableau/api.ErrPlace", "tableau/api.ErrFull", "tableau/api.ErrGone", "tableau/api.ErrSheet"], apart := false, laid := [("tableau/api.ErrArg", laid_tableau_api_ErrArg), ("tableau/api.ErrShort", laid_tableau_api_ErrShort), ("tableau/api.ErrBytes", laid_tableau_api_ErrBytes), ("tableau/api.ErrBig", laid_tableau_api_ErrBig), ("tableau/api.ErrObject", laid_tableau_api_ErrObject), ("tableau/api.ErrMethod", laid_tableau_api_ErrMethod), ("tableau/api.ErrFormat", laid_tableau_api_ErrFormat), ("tableau/api.ErrStride", laid_tableau_api_ErrStride), ("tableau/api.ErrFile", laid_tableau_api_ErrFile), ("tableau/api.ErrRole", laid_tableau_api_ErrRole), ("tableau/api.ErrPlace", laid_tableau_api_ErrPlace), ("tableau/api.ErrState", laid_tableau_api_ErrState), ("tableau/api.ErrSerial", laid_tableau_api_ErrSerial), ("tableau/api.ErrFull", laid_tableau_api_ErrFull), ("tableau/api.ErrGone", laid_tableau_api_ErrGone), ("tableau/api.ErrSheet", laid_tableau_api_ErrSheet)], narrowed := true }
def ShellMapsUptoSaid : Prop := shellMapsUptoRow.holds Tryd.pinned (OpenSpec.upto shellMapsSpec)

/-- 'tableaulaw18.ShellPlays', WHERE WHAT IT READS IS OF BULK AT MOST 1048576: true; the input reads as it did. -/
def shellPlaysUptoRow : OpenClaim := { program := "ytfekldcpjoiipaadoor", sum := "a297e9c501489850fef19f6c8cf18b04f77ebc058ead7d015e0b32d7ef6834f7", func := "tableau/tableaulaw18.ShellPlays", spec := "shellPlays", inPlace := ["internal/reflectlite.TypeOf"], unfollowed := true, recurses := true, named := ["tableau/api.ErrRole", "tableau/api.ErrState", "tableau/api.ErrArg", "tableau/api.ErrShort", "tableau/api.ErrBytes", "tableau/api.ErrBig", "tableau/api.ErrObject", "tableau/api.ErrMethod", "tableau/api.ErrFormat", "tableau/api.ErrStride", "tableau/api.ErrFile", "tableau/api.ErrPlace", "tableau/api.ErrSerial", "tableau/api.ErrFull", "tableau/api.ErrGone", "tableau/api.ErrSheet"], apart := false, laid := [("tableau/api.ErrArg", laid_tableau_api_ErrArg), ("tableau/api.ErrShort", laid_tableau_api_ErrShort), ("tableau/api.ErrBytes", laid_tableau_api_ErrBytes), ("tableau/api.ErrBig", laid_tableau_api_ErrBig), ("tableau/api.ErrObject", laid_tableau_api_ErrObject), ("tableau/api.ErrMethod", laid_tableau_api_ErrMethod), ("tableau/api.ErrFormat", laid_tableau_api_ErrFormat), ("tableau/api.ErrStride", laid_tableau_api_ErrStride), ("tableau/api.ErrFile", laid_tableau_api_ErrFile), ("tableau/api.ErrRole", laid_tableau_api_ErrRole), ("tableau/api.ErrPlace", laid_tableau_api_ErrPlace), ("tableau/api.ErrState", laid_tableau_api_ErrState), ("tableau/api.ErrSerial", laid_tableau_api_ErrSerial), ("tableau/api.ErrFull", laid_tableau_api_ErrFull), ("tableau/api.ErrGone", laid_tableau_api_ErrGone), ("tableau/api.ErrSheet", laid_tableau_api_ErrSheet)], narrowed := true }
def ShellPlaysUptoSaid : Prop := shellPlaysUptoRow.holds Tryd.pinned (OpenSpec.upto shellPlaysSpec)

end Rows
end Go.Proofs.YtfekldcpjoiipaaDoor
