/-
  NARROWER THAN 'FOR EVERY INPUT', by the rows' own cells (each row's printed sentence says how): IdsOthers: laid · IdsPlays: laid · IdsFull: laid · PoolRooms: laid · PoolInside: laid · PoolWraps: laid · PoolEdges: laid · PoolGrows: laid · PoolPlays: laid.
  DERIVED. THE GIVEN ROWS OF THIS SEAT. 9 by the template 'for every input the law returns true; each argument reads behind the call as it read before'; 0 by the template 'total and deterministic' (their statements: YtjhfcnkmfbpjmaaDoorTotals.lean).
  GIVEN WITH THE SEED: the statements are not yours to turn. If you find one false, say at which input.
  Laid BY PROGRAM, IN A SANDBOX (cutbox-rows.mjs): the forced cells as the released guide's own fill.sh prints them over the translation 7eec8334c6bd5bcc… (all of the seat's roots in one cut). By AI agents, Wed Nov 11 2026. No macro, syntax, notation, axiom, sorry.
-/
import Derived.Test.YtjhfcnkmfbpjmaaDoorChecked
import GoSem.Claim
import GoSem.ClaimJoined
import GoSem.ClaimMapViews
import Derived.JoinedTies
import Derived.KernelRfl
namespace Go.Proofs.YtjhfcnkmfbpjmaaDoor
/- THE CELL 'sum', in the pinned program and in every row, IS THE sha256 OF THE DUMP (.gsa) THAT YtjhfcnkmfbpjmaaDoorProg.lean LOADS. Nothing in Lean hashes anything: it is a label: what it is worth is what the hold of that sum in a sandbox is worth. -/
noncomputable def Tryd.pinned : Pinned := { name := "ytjhfcnkmfbpjmaadoor", sum := "7eec8334c6bd5bccf30a6f50787dce7b3cc6c40b38dc2a9c769a373b1b745f69", checked := Tryd.checked }
namespace Rows
def none {H : Type} : Left H := { results := [], args := [] }

/- WHAT THE LISTED PACKAGE-LEVEL VARIABLES READ AS WHEN THE CALL BEGINS. Each datum BY PROGRAM (the guide's laid-datum.mjs) off the statement by which the dump's own 'gosem.cut.vars' lays the variable. In a bare row this is a premise. The card (YtjhfcnkmfbpjmaaDoorCards.lean) ties it to the program's text. -/
def laid_tableau_api_ErrArg {H : Type} : DataW H := .iface "*errors.errorString" (.ptr (.agg [.lit (.string [97, 114, 103, 117, 109, 101, 110, 116])]))
def laid_tableau_api_ErrObject {H : Type} : DataW H := .iface "*errors.errorString" (.ptr (.agg [.lit (.string [111, 98, 106, 101, 99, 116])]))
def laid_tableau_api_ErrShort {H : Type} : DataW H := .iface "*errors.errorString" (.ptr (.agg [.lit (.string [115, 104, 111, 114, 116])]))
def laid_tableau_api_ErrBytes {H : Type} : DataW H := .iface "*errors.errorString" (.ptr (.agg [.lit (.string [98, 121, 116, 101, 115])]))
def laid_tableau_api_ErrBig {H : Type} : DataW H := .iface "*errors.errorString" (.ptr (.agg [.lit (.string [98, 105, 103])]))
def laid_tableau_api_ErrMethod {H : Type} : DataW H := .iface "*errors.errorString" (.ptr (.agg [.lit (.string [109, 101, 116, 104, 111, 100])]))
def laid_tableau_api_ErrFormat {H : Type} : DataW H := .iface "*errors.errorString" (.ptr (.agg [.lit (.string [102, 111, 114, 109, 97, 116])]))
def laid_tableau_api_ErrStride {H : Type} : DataW H := .iface "*errors.errorString" (.ptr (.agg [.lit (.string [115, 116, 114, 105, 100, 101])]))
def laid_tableau_api_ErrFile {H : Type} : DataW H := .iface "*errors.errorString" (.ptr (.agg [.lit (.string [102, 105, 108, 101])]))
def laid_tableau_api_ErrRole {H : Type} : DataW H := .iface "*errors.errorString" (.ptr (.agg [.lit (.string [114, 111, 108, 101])]))
def laid_tableau_api_ErrPlace {H : Type} : DataW H := .iface "*errors.errorString" (.ptr (.agg [.lit (.string [112, 108, 97, 99, 101])]))
def laid_tableau_api_ErrState {H : Type} : DataW H := .iface "*errors.errorString" (.ptr (.agg [.lit (.string [115, 116, 97, 116, 101])]))
def laid_tableau_api_ErrSerial {H : Type} : DataW H := .iface "*errors.errorString" (.ptr (.agg [.lit (.string [115, 101, 114, 105, 97, 108])]))
def laid_tableau_api_ErrFull {H : Type} : DataW H := .iface "*errors.errorString" (.ptr (.agg [.lit (.string [102, 117, 108, 108])]))
def laid_tableau_api_ErrGone {H : Type} : DataW H := .iface "*errors.errorString" (.ptr (.agg [.lit (.string [103, 111, 110, 101])]))
def laid_tableau_api_ErrSheet {H : Type} : DataW H := .iface "*errors.errorString" (.ptr (.agg [.lit (.string [115, 104, 101, 101, 116])]))

/-- 'tableaulaw06.IdsOthers': WHATEVER THE INPUT: true; the input reads as it did. -/
def idsOthersSpec : ChangeSpec := { name := "idsOthers", fn := fun _ => fun
  | [d1, d2] => { results := [.lit (.bool true)], args := [d1, d2] }
  | _ => none }
def idsOthersRow : OpenClaim := { program := "ytjhfcnkmfbpjmaadoor", sum := "7eec8334c6bd5bccf30a6f50787dce7b3cc6c40b38dc2a9c769a373b1b745f69", func := "tableau/tableaulaw06.IdsOthers", spec := "idsOthers", named := ["tableau/api.ErrArg", "tableau/api.ErrObject"], apart := false, laid := [("tableau/api.ErrArg", laid_tableau_api_ErrArg), ("tableau/api.ErrObject", laid_tableau_api_ErrObject)] }
def IdsOthersSaid : Prop := idsOthersRow.holds Tryd.pinned (OpenSpec.ofChange idsOthersSpec)

/-- ITS FALSE NEIGHBOUR: 'it returns false'. Refute it at one input. -/
def idsOthersWrong : ChangeSpec := { name := "idsOthers", fn := fun _ => fun
  | [d1, d2] => { results := [.lit (.bool false)], args := [d1, d2] }
  | _ => none }
def IdsOthersWrongFalsely : Prop := idsOthersRow.holds Tryd.pinned (OpenSpec.ofChange idsOthersWrong)

/-- 'tableaulaw06.IdsPlays': WHATEVER THE INPUT: true; the input reads as it did. -/
def idsPlaysSpec : ChangeSpec := { name := "idsPlays", fn := fun _ => fun
  | [d1, d2] => { results := [.lit (.bool true)], args := [d1, d2] }
  | _ => none }
def idsPlaysRow : OpenClaim := { program := "ytjhfcnkmfbpjmaadoor", sum := "7eec8334c6bd5bccf30a6f50787dce7b3cc6c40b38dc2a9c769a373b1b745f69", func := "tableau/tableaulaw06.IdsPlays", spec := "idsPlays", inPlace := ["internal/reflectlite.TypeOf"], unfollowed := true, recurses := true, named := ["tableau/api.ErrObject", "tableau/api.ErrArg", "tableau/api.ErrShort", "tableau/api.ErrBytes", "tableau/api.ErrBig", "tableau/api.ErrMethod", "tableau/api.ErrFormat", "tableau/api.ErrStride", "tableau/api.ErrFile", "tableau/api.ErrRole", "tableau/api.ErrPlace", "tableau/api.ErrState", "tableau/api.ErrSerial", "tableau/api.ErrFull", "tableau/api.ErrGone", "tableau/api.ErrSheet"], apart := false, laid := [("tableau/api.ErrArg", laid_tableau_api_ErrArg), ("tableau/api.ErrShort", laid_tableau_api_ErrShort), ("tableau/api.ErrBytes", laid_tableau_api_ErrBytes), ("tableau/api.ErrBig", laid_tableau_api_ErrBig), ("tableau/api.ErrObject", laid_tableau_api_ErrObject), ("tableau/api.ErrMethod", laid_tableau_api_ErrMethod), ("tableau/api.ErrFormat", laid_tableau_api_ErrFormat), ("tableau/api.ErrStride", laid_tableau_api_ErrStride), ("tableau/api.ErrFile", laid_tableau_api_ErrFile), ("tableau/api.ErrRole", laid_tableau_api_ErrRole), ("tableau/api.ErrPlace", laid_tableau_api_ErrPlace), ("tableau/api.ErrState", laid_tableau_api_ErrState), ("tableau/api.ErrSerial", laid_tableau_api_ErrSerial), ("tableau/api.ErrFull", laid_tableau_api_ErrFull), ("tableau/api.ErrGone", laid_tableau_api_ErrGone), ("tableau/api.ErrSheet", laid_tableau_api_ErrSheet)] }
def IdsPlaysSaid : Prop := idsPlaysRow.holds Tryd.pinned (OpenSpec.ofChange idsPlaysSpec)

/-- ITS FALSE NEIGHBOUR: 'it returns false'. Refute it at one input. -/
def idsPlaysWrong : ChangeSpec := { name := "idsPlays", fn := fun _ => fun
  | [d1, d2] => { results := [.lit (.bool false)], args := [d1, d2] }
  | _ => none }
def IdsPlaysWrongFalsely : Prop := idsPlaysRow.holds Tryd.pinned (OpenSpec.ofChange idsPlaysWrong)

/-- 'tableaulaw06.IdsFull': WHATEVER THE INPUT: true; the input reads as it did. -/
def idsFullSpec : ChangeSpec := { name := "idsFull", fn := fun _ => fun
  | [d1, d2] => { results := [.lit (.bool true)], args := [d1, d2] }
  | _ => none }
def idsFullRow : OpenClaim := { program := "ytjhfcnkmfbpjmaadoor", sum := "7eec8334c6bd5bccf30a6f50787dce7b3cc6c40b38dc2a9c769a373b1b745f69", func := "tableau/tableaulaw06.IdsFull", spec := "idsFull", inPlace := ["internal/reflectlite.TypeOf"], unfollowed := true, recurses := true, named := ["tableau/api.ErrArg", "tableau/api.ErrObject", "tableau/api.ErrShort", "tableau/api.ErrBytes", "tableau/api.ErrBig", "tableau/api.ErrMethod", "tableau/api.ErrFormat", "tableau/api.ErrStride", "tableau/api.ErrFile", "tableau/api.ErrRole", "tableau/api.ErrPlace", "tableau/api.ErrState", "tableau/api.ErrSerial", "tableau/api.ErrFull", "tableau/api.ErrGone", "tableau/api.ErrSheet"], apart := false, laid := [("tableau/api.ErrArg", laid_tableau_api_ErrArg), ("tableau/api.ErrShort", laid_tableau_api_ErrShort), ("tableau/api.ErrBytes", laid_tableau_api_ErrBytes), ("tableau/api.ErrBig", laid_tableau_api_ErrBig), ("tableau/api.ErrObject", laid_tableau_api_ErrObject), ("tableau/api.ErrMethod", laid_tableau_api_ErrMethod), ("tableau/api.ErrFormat", laid_tableau_api_ErrFormat), ("tableau/api.ErrStride", laid_tableau_api_ErrStride), ("tableau/api.ErrFile", laid_tableau_api_ErrFile), ("tableau/api.ErrRole", laid_tableau_api_ErrRole), ("tableau/api.ErrPlace", laid_tableau_api_ErrPlace), ("tableau/api.ErrState", laid_tableau_api_ErrState), ("tableau/api.ErrSerial", laid_tableau_api_ErrSerial), ("tableau/api.ErrFull", laid_tableau_api_ErrFull), ("tableau/api.ErrGone", laid_tableau_api_ErrGone), ("tableau/api.ErrSheet", laid_tableau_api_ErrSheet)] }
def IdsFullSaid : Prop := idsFullRow.holds Tryd.pinned (OpenSpec.ofChange idsFullSpec)

/-- ITS FALSE NEIGHBOUR: 'it returns false'. Refute it at one input. -/
def idsFullWrong : ChangeSpec := { name := "idsFull", fn := fun _ => fun
  | [d1, d2] => { results := [.lit (.bool false)], args := [d1, d2] }
  | _ => none }
def IdsFullWrongFalsely : Prop := idsFullRow.holds Tryd.pinned (OpenSpec.ofChange idsFullWrong)

/-- 'tableaulaw11.PoolRooms': WHATEVER THE INPUT: true; the input reads as it did. -/
def poolRoomsSpec : ChangeSpec := { name := "poolRooms", fn := fun _ => fun
  | [d1, d2, d3, d4, d5, d6] => { results := [.lit (.bool true)], args := [d1, d2, d3, d4, d5, d6] }
  | _ => none }
def poolRoomsRow : OpenClaim := { program := "ytjhfcnkmfbpjmaadoor", sum := "7eec8334c6bd5bccf30a6f50787dce7b3cc6c40b38dc2a9c769a373b1b745f69", func := "tableau/tableaulaw11.PoolRooms", spec := "poolRooms", inPlace := ["internal/reflectlite.TypeOf"], unfollowed := true, recurses := true, named := ["tableau/api.ErrFormat", "tableau/api.ErrStride", "tableau/api.ErrArg", "tableau/api.ErrShort", "tableau/api.ErrBytes", "tableau/api.ErrBig", "tableau/api.ErrObject", "tableau/api.ErrMethod", "tableau/api.ErrFile", "tableau/api.ErrRole", "tableau/api.ErrPlace", "tableau/api.ErrState", "tableau/api.ErrSerial", "tableau/api.ErrFull", "tableau/api.ErrGone", "tableau/api.ErrSheet"], apart := false, laid := [("tableau/api.ErrArg", laid_tableau_api_ErrArg), ("tableau/api.ErrShort", laid_tableau_api_ErrShort), ("tableau/api.ErrBytes", laid_tableau_api_ErrBytes), ("tableau/api.ErrBig", laid_tableau_api_ErrBig), ("tableau/api.ErrObject", laid_tableau_api_ErrObject), ("tableau/api.ErrMethod", laid_tableau_api_ErrMethod), ("tableau/api.ErrFormat", laid_tableau_api_ErrFormat), ("tableau/api.ErrStride", laid_tableau_api_ErrStride), ("tableau/api.ErrFile", laid_tableau_api_ErrFile), ("tableau/api.ErrRole", laid_tableau_api_ErrRole), ("tableau/api.ErrPlace", laid_tableau_api_ErrPlace), ("tableau/api.ErrState", laid_tableau_api_ErrState), ("tableau/api.ErrSerial", laid_tableau_api_ErrSerial), ("tableau/api.ErrFull", laid_tableau_api_ErrFull), ("tableau/api.ErrGone", laid_tableau_api_ErrGone), ("tableau/api.ErrSheet", laid_tableau_api_ErrSheet)] }
def PoolRoomsSaid : Prop := poolRoomsRow.holds Tryd.pinned (OpenSpec.ofChange poolRoomsSpec)

/-- ITS FALSE NEIGHBOUR: 'it returns false'. Refute it at one input. -/
def poolRoomsWrong : ChangeSpec := { name := "poolRooms", fn := fun _ => fun
  | [d1, d2, d3, d4, d5, d6] => { results := [.lit (.bool false)], args := [d1, d2, d3, d4, d5, d6] }
  | _ => none }
def PoolRoomsWrongFalsely : Prop := poolRoomsRow.holds Tryd.pinned (OpenSpec.ofChange poolRoomsWrong)

/-- 'tableaulaw11.PoolInside': WHATEVER THE INPUT: true; the input reads as it did. -/
def poolInsideSpec : ChangeSpec := { name := "poolInside", fn := fun _ => fun
  | [d1, d2, d3, d4, d5, d6, d7] => { results := [.lit (.bool true)], args := [d1, d2, d3, d4, d5, d6, d7] }
  | _ => none }
def poolInsideRow : OpenClaim := { program := "ytjhfcnkmfbpjmaadoor", sum := "7eec8334c6bd5bccf30a6f50787dce7b3cc6c40b38dc2a9c769a373b1b745f69", func := "tableau/tableaulaw11.PoolInside", spec := "poolInside", inPlace := ["internal/reflectlite.TypeOf"], unfollowed := true, recurses := true, named := ["tableau/api.ErrFormat", "tableau/api.ErrStride", "tableau/api.ErrArg", "tableau/api.ErrShort", "tableau/api.ErrBytes", "tableau/api.ErrBig", "tableau/api.ErrObject", "tableau/api.ErrMethod", "tableau/api.ErrFile", "tableau/api.ErrRole", "tableau/api.ErrPlace", "tableau/api.ErrState", "tableau/api.ErrSerial", "tableau/api.ErrFull", "tableau/api.ErrGone", "tableau/api.ErrSheet"], apart := false, laid := [("tableau/api.ErrArg", laid_tableau_api_ErrArg), ("tableau/api.ErrShort", laid_tableau_api_ErrShort), ("tableau/api.ErrBytes", laid_tableau_api_ErrBytes), ("tableau/api.ErrBig", laid_tableau_api_ErrBig), ("tableau/api.ErrObject", laid_tableau_api_ErrObject), ("tableau/api.ErrMethod", laid_tableau_api_ErrMethod), ("tableau/api.ErrFormat", laid_tableau_api_ErrFormat), ("tableau/api.ErrStride", laid_tableau_api_ErrStride), ("tableau/api.ErrFile", laid_tableau_api_ErrFile), ("tableau/api.ErrRole", laid_tableau_api_ErrRole), ("tableau/api.ErrPlace", laid_tableau_api_ErrPlace), ("tableau/api.ErrState", laid_tableau_api_ErrState), ("tableau/api.ErrSerial", laid_tableau_api_ErrSerial), ("tableau/api.ErrFull", laid_tableau_api_ErrFull), ("tableau/api.ErrGone", laid_tableau_api_ErrGone), ("tableau/api.ErrSheet", laid_tableau_api_ErrSheet)] }
def PoolInsideSaid : Prop := poolInsideRow.holds Tryd.pinned (OpenSpec.ofChange poolInsideSpec)

/-- ITS FALSE NEIGHBOUR: 'it returns false'. Refute it at one input. -/
def poolInsideWrong : ChangeSpec := { name := "poolInside", fn := fun _ => fun
  | [d1, d2, d3, d4, d5, d6, d7] => { results := [.lit (.bool false)], args := [d1, d2, d3, d4, d5, d6, d7] }
  | _ => none }
def PoolInsideWrongFalsely : Prop := poolInsideRow.holds Tryd.pinned (OpenSpec.ofChange poolInsideWrong)

/-- 'tableaulaw11.PoolWraps': WHATEVER THE INPUT: true; the input reads as it did. -/
def poolWrapsSpec : ChangeSpec := { name := "poolWraps", fn := fun _ => fun
  | [d1, d2] => { results := [.lit (.bool true)], args := [d1, d2] }
  | _ => none }
def poolWrapsRow : OpenClaim := { program := "ytjhfcnkmfbpjmaadoor", sum := "7eec8334c6bd5bccf30a6f50787dce7b3cc6c40b38dc2a9c769a373b1b745f69", func := "tableau/tableaulaw11.PoolWraps", spec := "poolWraps", inPlace := ["internal/reflectlite.TypeOf"], unfollowed := true, recurses := true, named := ["tableau/api.ErrFormat", "tableau/api.ErrStride", "tableau/api.ErrArg", "tableau/api.ErrShort", "tableau/api.ErrBytes", "tableau/api.ErrBig", "tableau/api.ErrObject", "tableau/api.ErrMethod", "tableau/api.ErrFile", "tableau/api.ErrRole", "tableau/api.ErrPlace", "tableau/api.ErrState", "tableau/api.ErrSerial", "tableau/api.ErrFull", "tableau/api.ErrGone", "tableau/api.ErrSheet"], apart := false, laid := [("tableau/api.ErrArg", laid_tableau_api_ErrArg), ("tableau/api.ErrShort", laid_tableau_api_ErrShort), ("tableau/api.ErrBytes", laid_tableau_api_ErrBytes), ("tableau/api.ErrBig", laid_tableau_api_ErrBig), ("tableau/api.ErrObject", laid_tableau_api_ErrObject), ("tableau/api.ErrMethod", laid_tableau_api_ErrMethod), ("tableau/api.ErrFormat", laid_tableau_api_ErrFormat), ("tableau/api.ErrStride", laid_tableau_api_ErrStride), ("tableau/api.ErrFile", laid_tableau_api_ErrFile), ("tableau/api.ErrRole", laid_tableau_api_ErrRole), ("tableau/api.ErrPlace", laid_tableau_api_ErrPlace), ("tableau/api.ErrState", laid_tableau_api_ErrState), ("tableau/api.ErrSerial", laid_tableau_api_ErrSerial), ("tableau/api.ErrFull", laid_tableau_api_ErrFull), ("tableau/api.ErrGone", laid_tableau_api_ErrGone), ("tableau/api.ErrSheet", laid_tableau_api_ErrSheet)] }
def PoolWrapsSaid : Prop := poolWrapsRow.holds Tryd.pinned (OpenSpec.ofChange poolWrapsSpec)

/-- ITS FALSE NEIGHBOUR: 'it returns false'. Refute it at one input. -/
def poolWrapsWrong : ChangeSpec := { name := "poolWraps", fn := fun _ => fun
  | [d1, d2] => { results := [.lit (.bool false)], args := [d1, d2] }
  | _ => none }
def PoolWrapsWrongFalsely : Prop := poolWrapsRow.holds Tryd.pinned (OpenSpec.ofChange poolWrapsWrong)

/-- 'tableaulaw11.PoolEdges': WHATEVER THE INPUT: true; the input reads as it did. -/
def poolEdgesSpec : ChangeSpec := { name := "poolEdges", fn := fun _ => fun
  | [d1, d2, d3, d4] => { results := [.lit (.bool true)], args := [d1, d2, d3, d4] }
  | _ => none }
def poolEdgesRow : OpenClaim := { program := "ytjhfcnkmfbpjmaadoor", sum := "7eec8334c6bd5bccf30a6f50787dce7b3cc6c40b38dc2a9c769a373b1b745f69", func := "tableau/tableaulaw11.PoolEdges", spec := "poolEdges", inPlace := ["internal/reflectlite.TypeOf"], unfollowed := true, recurses := true, named := ["tableau/api.ErrFormat", "tableau/api.ErrStride", "tableau/api.ErrArg", "tableau/api.ErrShort", "tableau/api.ErrBytes", "tableau/api.ErrBig", "tableau/api.ErrObject", "tableau/api.ErrMethod", "tableau/api.ErrFile", "tableau/api.ErrRole", "tableau/api.ErrPlace", "tableau/api.ErrState", "tableau/api.ErrSerial", "tableau/api.ErrFull", "tableau/api.ErrGone", "tableau/api.ErrSheet"], apart := false, laid := [("tableau/api.ErrArg", laid_tableau_api_ErrArg), ("tableau/api.ErrShort", laid_tableau_api_ErrShort), ("tableau/api.ErrBytes", laid_tableau_api_ErrBytes), ("tableau/api.ErrBig", laid_tableau_api_ErrBig), ("tableau/api.ErrObject", laid_tableau_api_ErrObject), ("tableau/api.ErrMethod", laid_tableau_api_ErrMethod), ("tableau/api.ErrFormat", laid_tableau_api_ErrFormat), ("tableau/api.ErrStride", laid_tableau_api_ErrStride), ("tableau/api.ErrFile", laid_tableau_api_ErrFile), ("tableau/api.ErrRole", laid_tableau_api_ErrRole), ("tableau/api.ErrPlace", laid_tableau_api_ErrPlace), ("tableau/api.ErrState", laid_tableau_api_ErrState), ("tableau/api.ErrSerial", laid_tableau_api_ErrSerial), ("tableau/api.ErrFull", laid_tableau_api_ErrFull), ("tableau/api.ErrGone", laid_tableau_api_ErrGone), ("tableau/api.ErrSheet", laid_tableau_api_ErrSheet)] }
def PoolEdgesSaid : Prop := poolEdgesRow.holds Tryd.pinned (OpenSpec.ofChange poolEdgesSpec)

/-- ITS FALSE NEIGHBOUR: 'it returns false'. Refute it at one input. -/
def poolEdgesWrong : ChangeSpec := { name := "poolEdges", fn := fun _ => fun
  | [d1, d2, d3, d4] => { results := [.lit (.bool false)], args := [d1, d2, d3, d4] }
  | _ => none }
def PoolEdgesWrongFalsely : Prop := poolEdgesRow.holds Tryd.pinned (OpenSpec.ofChange poolEdgesWrong)

/-- 'tableaulaw11.PoolGrows': WHATEVER THE INPUT: true; the input reads as it did. -/
def poolGrowsSpec : ChangeSpec := { name := "poolGrows", fn := fun _ => fun
  | [d1, d2] => { results := [.lit (.bool true)], args := [d1, d2] }
  | _ => none }
def poolGrowsRow : OpenClaim := { program := "ytjhfcnkmfbpjmaadoor", sum := "7eec8334c6bd5bccf30a6f50787dce7b3cc6c40b38dc2a9c769a373b1b745f69", func := "tableau/tableaulaw11.PoolGrows", spec := "poolGrows", inPlace := ["internal/reflectlite.TypeOf"], unfollowed := true, recurses := true, named := ["tableau/api.ErrObject", "tableau/api.ErrStride", "tableau/api.ErrFile", "tableau/api.ErrFormat", "tableau/api.ErrArg", "tableau/api.ErrShort", "tableau/api.ErrBytes", "tableau/api.ErrBig", "tableau/api.ErrMethod", "tableau/api.ErrRole", "tableau/api.ErrPlace", "tableau/api.ErrState", "tableau/api.ErrSerial", "tableau/api.ErrFull", "tableau/api.ErrGone", "tableau/api.ErrSheet"], apart := false, laid := [("tableau/api.ErrArg", laid_tableau_api_ErrArg), ("tableau/api.ErrShort", laid_tableau_api_ErrShort), ("tableau/api.ErrBytes", laid_tableau_api_ErrBytes), ("tableau/api.ErrBig", laid_tableau_api_ErrBig), ("tableau/api.ErrObject", laid_tableau_api_ErrObject), ("tableau/api.ErrMethod", laid_tableau_api_ErrMethod), ("tableau/api.ErrFormat", laid_tableau_api_ErrFormat), ("tableau/api.ErrStride", laid_tableau_api_ErrStride), ("tableau/api.ErrFile", laid_tableau_api_ErrFile), ("tableau/api.ErrRole", laid_tableau_api_ErrRole), ("tableau/api.ErrPlace", laid_tableau_api_ErrPlace), ("tableau/api.ErrState", laid_tableau_api_ErrState), ("tableau/api.ErrSerial", laid_tableau_api_ErrSerial), ("tableau/api.ErrFull", laid_tableau_api_ErrFull), ("tableau/api.ErrGone", laid_tableau_api_ErrGone), ("tableau/api.ErrSheet", laid_tableau_api_ErrSheet)] }
def PoolGrowsSaid : Prop := poolGrowsRow.holds Tryd.pinned (OpenSpec.ofChange poolGrowsSpec)

/-- ITS FALSE NEIGHBOUR: 'it returns false'. Refute it at one input. -/
def poolGrowsWrong : ChangeSpec := { name := "poolGrows", fn := fun _ => fun
  | [d1, d2] => { results := [.lit (.bool false)], args := [d1, d2] }
  | _ => none }
def PoolGrowsWrongFalsely : Prop := poolGrowsRow.holds Tryd.pinned (OpenSpec.ofChange poolGrowsWrong)

/-- 'tableaulaw11.PoolPlays': WHATEVER THE INPUT: true; the input reads as it did. -/
def poolPlaysSpec : ChangeSpec := { name := "poolPlays", fn := fun _ => fun
  | [d] => { results := [.lit (.bool true)], args := [d] }
  | _ => none }
def poolPlaysRow : OpenClaim := { program := "ytjhfcnkmfbpjmaadoor", sum := "7eec8334c6bd5bccf30a6f50787dce7b3cc6c40b38dc2a9c769a373b1b745f69", func := "tableau/tableaulaw11.PoolPlays", spec := "poolPlays", inPlace := ["internal/reflectlite.TypeOf"], unfollowed := true, recurses := true, named := ["tableau/api.ErrObject", "tableau/api.ErrStride", "tableau/api.ErrFile", "tableau/api.ErrArg", "tableau/api.ErrShort", "tableau/api.ErrBytes", "tableau/api.ErrBig", "tableau/api.ErrMethod", "tableau/api.ErrFormat", "tableau/api.ErrRole", "tableau/api.ErrPlace", "tableau/api.ErrState", "tableau/api.ErrSerial", "tableau/api.ErrFull", "tableau/api.ErrGone", "tableau/api.ErrSheet"], apart := false, laid := [("tableau/api.ErrArg", laid_tableau_api_ErrArg), ("tableau/api.ErrShort", laid_tableau_api_ErrShort), ("tableau/api.ErrBytes", laid_tableau_api_ErrBytes), ("tableau/api.ErrBig", laid_tableau_api_ErrBig), ("tableau/api.ErrObject", laid_tableau_api_ErrObject), ("tableau/api.ErrMethod", laid_tableau_api_ErrMethod), ("tableau/api.ErrFormat", laid_tableau_api_ErrFormat), ("tableau/api.ErrStride", laid_tableau_api_ErrStride), ("tableau/api.ErrFile", laid_tableau_api_ErrFile), ("tableau/api.ErrRole", laid_tableau_api_ErrRole), ("tableau/api.ErrPlace", laid_tableau_api_ErrPlace), ("tableau/api.ErrState", laid_tableau_api_ErrState), ("tableau/api.ErrSerial", laid_tableau_api_ErrSerial), ("tableau/api.ErrFull", laid_tableau_api_ErrFull), ("tableau/api.ErrGone", laid_tableau_api_ErrGone), ("tableau/api.ErrSheet", laid_tableau_api_ErrSheet)] }
def PoolPlaysSaid : Prop := poolPlaysRow.holds Tryd.pinned (OpenSpec.ofChange poolPlaysSpec)

/-- ITS FALSE NEIGHBOUR: 'it returns false'. Refute it at one input. -/
def poolPlaysWrong : ChangeSpec := { name := "poolPlays", fn := fun _ => fun
  | [d] => { results := [.lit (.bool false)], args := [d] }
  | _ => none }
def PoolPlaysWrongFalsely : Prop := poolPlaysRow.holds Tryd.pinned (OpenSpec.ofChange poolPlaysWrong)

/- THE SECOND FORM. 'bulk': how many values and letters a reading holds, each counted each time it is reached (what is shared counts as often as it is met; a slice's spare places count too). A statement '..UptoSaid' is the law's where the arguments, and the package variables that the reading takes, are together of bulk at most 1048576: NARROWER than '..Said'. Prove '..Said' where nothing that the law and all that it calls make is longer than what came in: it says more and counts as full. Else prove '..UptoSaid'. A law counts once. -/
mutual
def uptoBulk {H : Type} : DataW H → Nat
  | .lit (.string bytes) => bytes.length + 1
  | .lit _ => 1
  | .nil => 1
  | .ptr d => uptoBulk d + 1
  | .slice elems spare => uptoBulkAll elems + uptoBulkAll spare + 1
  | .agg parts => uptoBulkAll parts + 1
  | .iface _ d => uptoBulk d + 1
  | .map entries => uptoBulkEntries entries + 1
  | .held _ => 1
def uptoBulkAll {H : Type} : List (DataW H) → Nat
  | [] => 0
  | d :: r => uptoBulk d + uptoBulkAll r
def uptoBulkEntries {H : Type} : List (Lit × DataW H) → Nat
  | [] => 0
  | x :: r => uptoBulkEntry x + uptoBulkEntries r
def uptoBulkEntry {H : Type} : Lit × DataW H → Nat
  | (.string bytes, d) => bytes.length + uptoBulk d + 1
  | (_, d) => uptoBulk d + 1
 end
def uptoSmall : (H : Type) → List (DataW H) → Bool := fun _ ds => decide (uptoBulkAll ds ≤ 1048576)
def OpenSpec.upto (s : _root_.Go.ChangeSpec) : _root_.Go.OpenSpec := { _root_.Go.OpenSpec.ofChange s with cond := some uptoSmall }

/-- 'tableaulaw06.IdsOthers', WHERE WHAT IT READS IS OF BULK AT MOST 1048576: true; the input reads as it did. -/
def idsOthersUptoRow : OpenClaim := { program := "ytjhfcnkmfbpjmaadoor", sum := "7eec8334c6bd5bccf30a6f50787dce7b3cc6c40b38dc2a9c769a373b1b745f69", func := "tableau/tableaulaw06.IdsOthers", spec := "idsOthers", named := ["tableau/api.ErrArg", "tableau/api.ErrObject"], apart := false, laid := [("tableau/api.ErrArg", laid_tableau_api_ErrArg), ("tableau/api.ErrObject", laid_tableau_api_ErrObject)], narrowed := true }
def IdsOthersUptoSaid : Prop := idsOthersUptoRow.holds Tryd.pinned (OpenSpec.upto idsOthersSpec)

/-- 'tableaulaw06.IdsPlays', WHERE WHAT IT READS IS OF BULK AT MOST 1048576: true; the input reads as it did. -/
def idsPlaysUptoRow : OpenClaim := { program := "ytjhfcnkmfbpjmaadoor", sum := "7eec8334c6bd5bccf30a6f50787dce7b3cc6c40b38dc2a9c769a373b1b745f69", func := "tableau/tableaulaw06.IdsPlays", spec := "idsPlays", inPlace := ["internal/reflectlite.TypeOf"], unfollowed := true, recurses := true, named := ["tableau/api.ErrObject", "tableau/api.ErrArg", "tableau/api.ErrShort", "tableau/api.ErrBytes", "tableau/api.ErrBig", "tableau/api.ErrMethod", "tableau/api.ErrFormat", "tableau/api.ErrStride", "tableau/api.ErrFile", "tableau/api.ErrRole", "tableau/api.ErrPlace", "tableau/api.ErrState", "tableau/api.ErrSerial", "tableau/api.ErrFull", "tableau/api.ErrGone", "tableau/api.ErrSheet"], apart := false, laid := [("tableau/api.ErrArg", laid_tableau_api_ErrArg), ("tableau/api.ErrShort", laid_tableau_api_ErrShort), ("tableau/api.ErrBytes", laid_tableau_api_ErrBytes), ("tableau/api.ErrBig", laid_tableau_api_ErrBig), ("tableau/api.ErrObject", laid_tableau_api_ErrObject), ("tableau/api.ErrMethod", laid_tableau_api_ErrMethod), ("tableau/api.ErrFormat", laid_tableau_api_ErrFormat), ("tableau/api.ErrStride", laid_tableau_api_ErrStride), ("tableau/api.ErrFile", laid_tableau_api_ErrFile), ("tableau/api.ErrRole", laid_tableau_api_ErrRole), ("tableau/api.ErrPlace", laid_tableau_api_ErrPlace), ("tableau/api.ErrState", laid_tableau_api_ErrState), ("tableau/api.ErrSerial", laid_tableau_api_ErrSerial), ("tableau/api.ErrFull", laid_tableau_api_ErrFull), ("tableau/api.ErrGone", laid_tableau_api_ErrGone), ("tableau/api.ErrSheet", laid_tableau_api_ErrSheet)], narrowed := true }
def IdsPlaysUptoSaid : Prop := idsPlaysUptoRow.holds Tryd.pinned (OpenSpec.upto idsPlaysSpec)

/-- 'tableaulaw06.IdsFull', WHERE WHAT IT READS IS OF BULK AT MOST 1048576: true; the input reads as it did. -/
def idsFullUptoRow : OpenClaim := { program := "ytjhfcnkmfbpjmaadoor", sum := "7eec8334c6bd5bccf30a6f50787dce7b3cc6c40b38dc2a9c769a373b1b745f69", func := "tableau/tableaulaw06.IdsFull", spec := "idsFull", inPlace := ["internal/reflectlite.TypeOf"], unfollowed := true, recurses := true, named := ["tableau/api.ErrArg", "tableau/api.ErrObject", "tableau/api.ErrShort", "tableau/api.ErrBytes", "tableau/api.ErrBig", "tableau/api.ErrMethod", "tableau/api.ErrFormat", "tableau/api.ErrStride", "tableau/api.ErrFile", "tableau/api.ErrRole", "tableau/api.ErrPlace", "tableau/api.ErrState", "tableau/api.ErrSerial", "tableau/api.ErrFull", "tableau/api.ErrGone", "tableau/api.ErrSheet"], apart := false, laid := [("tableau/api.ErrArg", laid_tableau_api_ErrArg), ("tableau/api.ErrShort", laid_tableau_api_ErrShort), ("tableau/api.ErrBytes", laid_tableau_api_ErrBytes), ("tableau/api.ErrBig", laid_tableau_api_ErrBig), ("tableau/api.ErrObject", laid_tableau_api_ErrObject), ("tableau/api.ErrMethod", laid_tableau_api_ErrMethod), ("tableau/api.ErrFormat", laid_tableau_api_ErrFormat), ("tableau/api.ErrStride", laid_tableau_api_ErrStride), ("tableau/api.ErrFile", laid_tableau_api_ErrFile), ("tableau/api.ErrRole", laid_tableau_api_ErrRole), ("tableau/api.ErrPlace", laid_tableau_api_ErrPlace), ("tableau/api.ErrState", laid_tableau_api_ErrState), ("tableau/api.ErrSerial", laid_tableau_api_ErrSerial), ("tableau/api.ErrFull", laid_tableau_api_ErrFull), ("tableau/api.ErrGone", laid_tableau_api_ErrGone), ("tableau/api.ErrSheet", laid_tableau_api_ErrSheet)], narrowed := true }
def IdsFullUptoSaid : Prop := idsFullUptoRow.holds Tryd.pinned (OpenSpec.upto idsFullSpec)

/-- 'tableaulaw11.PoolRooms', WHERE WHAT IT READS IS OF BULK AT MOST 1048576: true; the input reads as it did. -/
def poolRoomsUptoRow : OpenClaim := { program := "ytjhfcnkmfbpjmaadoor", sum := "7eec8334c6bd5bccf30a6f50787dce7b3cc6c40b38dc2a9c769a373b1b745f69", func := "tableau/tableaulaw11.PoolRooms", spec := "poolRooms", inPlace := ["internal/reflectlite.TypeOf"], unfollowed := true, recurses := true, named := ["tableau/api.ErrFormat", "tableau/api.ErrStride", "tableau/api.ErrArg", "tableau/api.ErrShort", "tableau/api.ErrBytes", "tableau/api.ErrBig", "tableau/api.ErrObject", "tableau/api.ErrMethod", "tableau/api.ErrFile", "tableau/api.ErrRole", "tableau/api.ErrPlace", "tableau/api.ErrState", "tableau/api.ErrSerial", "tableau/api.ErrFull", "tableau/api.ErrGone", "tableau/api.ErrSheet"], apart := false, laid := [("tableau/api.ErrArg", laid_tableau_api_ErrArg), ("tableau/api.ErrShort", laid_tableau_api_ErrShort), ("tableau/api.ErrBytes", laid_tableau_api_ErrBytes), ("tableau/api.ErrBig", laid_tableau_api_ErrBig), ("tableau/api.ErrObject", laid_tableau_api_ErrObject), ("tableau/api.ErrMethod", laid_tableau_api_ErrMethod), ("tableau/api.ErrFormat", laid_tableau_api_ErrFormat), ("tableau/api.ErrStride", laid_tableau_api_ErrStride), ("tableau/api.ErrFile", laid_tableau_api_ErrFile), ("tableau/api.ErrRole", laid_tableau_api_ErrRole), ("tableau/api.ErrPlace", laid_tableau_api_ErrPlace), ("tableau/api.ErrState", laid_tableau_api_ErrState), ("tableau/api.ErrSerial", laid_tableau_api_ErrSerial), ("tableau/api.ErrFull", laid_tableau_api_ErrFull), ("tableau/api.ErrGone", laid_tableau_api_ErrGone), ("tableau/api.ErrSheet", laid_tableau_api_ErrSheet)], narrowed := true }
def PoolRoomsUptoSaid : Prop := poolRoomsUptoRow.holds Tryd.pinned (OpenSpec.upto poolRoomsSpec)

/-- 'tableaulaw11.PoolInside', WHERE WHAT IT READS IS OF BULK AT MOST 1048576: true; the input reads as it did. -/
def poolInsideUptoRow : OpenClaim := { program := "ytjhfcnkmfbpjmaadoor", sum := "7eec8334c6bd5bccf30a6f50787dce7b3cc6c40b38dc2a9c769a373b1b745f69", func := "tableau/tableaulaw11.PoolInside", spec := "poolInside", inPlace := ["internal/reflectlite.TypeOf"], unfollowed := true, recurses := true, named := ["tableau/api.ErrFormat", "tableau/api.ErrStride", "tableau/api.ErrArg", "tableau/api.ErrShort", "tableau/api.ErrBytes", "tableau/api.ErrBig", "tableau/api.ErrObject", "tableau/api.ErrMethod", "tableau/api.ErrFile", "tableau/api.ErrRole", "tableau/api.ErrPlace", "tableau/api.ErrState", "tableau/api.ErrSerial", "tableau/api.ErrFull", "tableau/api.ErrGone", "tableau/api.ErrSheet"], apart := false, laid := [("tableau/api.ErrArg", laid_tableau_api_ErrArg), ("tableau/api.ErrShort", laid_tableau_api_ErrShort), ("tableau/api.ErrBytes", laid_tableau_api_ErrBytes), ("tableau/api.ErrBig", laid_tableau_api_ErrBig), ("tableau/api.ErrObject", laid_tableau_api_ErrObject), ("tableau/api.ErrMethod", laid_tableau_api_ErrMethod), ("tableau/api.ErrFormat", laid_tableau_api_ErrFormat), ("tableau/api.ErrStride", laid_tableau_api_ErrStride), ("tableau/api.ErrFile", laid_tableau_api_ErrFile), ("tableau/api.ErrRole", laid_tableau_api_ErrRole), ("tableau/api.ErrPlace", laid_tableau_api_ErrPlace), ("tableau/api.ErrState", laid_tableau_api_ErrState), ("tableau/api.ErrSerial", laid_tableau_api_ErrSerial), ("tableau/api.ErrFull", laid_tableau_api_ErrFull), ("tableau/api.ErrGone", laid_tableau_api_ErrGone), ("tableau/api.ErrSheet", laid_tableau_api_ErrSheet)], narrowed := true }
def PoolInsideUptoSaid : Prop := poolInsideUptoRow.holds Tryd.pinned (OpenSpec.upto poolInsideSpec)

/-- 'tableaulaw11.PoolWraps', WHERE WHAT IT READS IS OF BULK AT MOST 1048576: true; the input reads as it did. -/
def poolWrapsUptoRow : OpenClaim := { program := "ytjhfcnkmfbpjmaadoor", sum := "7eec8334c6bd5bccf30a6f50787dce7b3cc6c40b38dc2a9c769a373b1b745f69", func := "tableau/tableaulaw11.PoolWraps", spec := "poolWraps", inPlace := ["internal/reflectlite.TypeOf"], unfollowed := true, recurses := true, named := ["tableau/api.ErrFormat", "tableau/api.ErrStride", "tableau/api.ErrArg", "tableau/api.ErrShort", "tableau/api.ErrBytes", "tableau/api.ErrBig", "tableau/api.ErrObject", "tableau/api.ErrMethod", "tableau/api.ErrFile", "tableau/api.ErrRole", "tableau/api.ErrPlace", "tableau/api.ErrState", "tableau/api.ErrSerial", "tableau/api.ErrFull", "tableau/api.ErrGone", "tableau/api.ErrSheet"], apart := false, laid := [("tableau/api.ErrArg", laid_tableau_api_ErrArg), ("tableau/api.ErrShort", laid_tableau_api_ErrShort), ("tableau/api.ErrBytes", laid_tableau_api_ErrBytes), ("tableau/api.ErrBig", laid_tableau_api_ErrBig), ("tableau/api.ErrObject", laid_tableau_api_ErrObject), ("tableau/api.ErrMethod", laid_tableau_api_ErrMethod), ("tableau/api.ErrFormat", laid_tableau_api_ErrFormat), ("tableau/api.ErrStride", laid_tableau_api_ErrStride), ("tableau/api.ErrFile", laid_tableau_api_ErrFile), ("tableau/api.ErrRole", laid_tableau_api_ErrRole), ("tableau/api.ErrPlace", laid_tableau_api_ErrPlace), ("tableau/api.ErrState", laid_tableau_api_ErrState), ("tableau/api.ErrSerial", laid_tableau_api_ErrSerial), ("tableau/api.ErrFull", laid_tableau_api_ErrFull), ("tableau/api.ErrGone", laid_tableau_api_ErrGone), ("tableau/api.ErrSheet", laid_tableau_api_ErrSheet)], narrowed := true }
def PoolWrapsUptoSaid : Prop := poolWrapsUptoRow.holds Tryd.pinned (OpenSpec.upto poolWrapsSpec)

/-- 'tableaulaw11.PoolEdges', WHERE WHAT IT READS IS OF BULK AT MOST 1048576: true; the input reads as it did. -/
def poolEdgesUptoRow : OpenClaim := { program := "ytjhfcnkmfbpjmaadoor", sum := "7eec8334c6bd5bccf30a6f50787dce7b3cc6c40b38dc2a9c769a373b1b745f69", func := "tableau/tableaulaw11.PoolEdges", spec := "poolEdges", inPlace := ["internal/reflectlite.TypeOf"], unfollowed := true, recurses := true, named := ["tableau/api.ErrFormat", "tableau/api.ErrStride", "tableau/api.ErrArg", "tableau/api.ErrShort", "tableau/api.ErrBytes", "tableau/api.ErrBig", "tableau/api.ErrObject", "tableau/api.ErrMethod", "tableau/api.ErrFile", "tableau/api.ErrRole", "tableau/api.ErrPlace", "tableau/api.ErrState", "tableau/api.ErrSerial", "tableau/api.ErrFull", "tableau/api.ErrGone", "tableau/api.ErrSheet"], apart := false, laid := [("tableau/api.ErrArg", laid_tableau_api_ErrArg), ("tableau/api.ErrShort", laid_tableau_api_ErrShort), ("tableau/api.ErrBytes", laid_tableau_api_ErrBytes), ("tableau/api.ErrBig", laid_tableau_api_ErrBig), ("tableau/api.ErrObject", laid_tableau_api_ErrObject), ("tableau/api.ErrMethod", laid_tableau_api_ErrMethod), ("tableau/api.ErrFormat", laid_tableau_api_ErrFormat), ("tableau/api.ErrStride", laid_tableau_api_ErrStride), ("tableau/api.ErrFile", laid_tableau_api_ErrFile), ("tableau/api.ErrRole", laid_tableau_api_ErrRole), ("tableau/api.ErrPlace", laid_tableau_api_ErrPlace), ("tableau/api.ErrState", laid_tableau_api_ErrState), ("tableau/api.ErrSerial", laid_tableau_api_ErrSerial), ("tableau/api.ErrFull", laid_tableau_api_ErrFull), ("tableau/api.ErrGone", laid_tableau_api_ErrGone), ("tableau/api.ErrSheet", laid_tableau_api_ErrSheet)], narrowed := true }
def PoolEdgesUptoSaid : Prop := poolEdgesUptoRow.holds Tryd.pinned (OpenSpec.upto poolEdgesSpec)

/-- 'tableaulaw11.PoolGrows', WHERE WHAT IT READS IS OF BULK AT MOST 1048576: true; the input reads as it did. -/
def poolGrowsUptoRow : OpenClaim := { program := "ytjhfcnkmfbpjmaadoor", sum := "7eec8334c6bd5bccf30a6f50787dce7b3cc6c40b38dc2a9c769a373b1b745f69", func := "tableau/tableaulaw11.PoolGrows", spec := "poolGrows", inPlace := ["internal/reflectlite.TypeOf"], unfollowed := true, recurses := true, named := ["tableau/api.ErrObject", "tableau/api.ErrStride", "tableau/api.ErrFile", "tableau/api.ErrFormat", "tableau/api.ErrArg", "tableau/api.ErrShort", "tableau/api.ErrBytes", "tableau/api.ErrBig", "tableau/api.ErrMethod", "tableau/api.ErrRole", "tableau/api.ErrPlace", "tableau/api.ErrState", "tableau/api.ErrSerial", "tableau/api.ErrFull", "tableau/api.ErrGone", "tableau/api.ErrSheet"], apart := false, laid := [("tableau/api.ErrArg", laid_tableau_api_ErrArg), ("tableau/api.ErrShort", laid_tableau_api_ErrShort), ("tableau/api.ErrBytes", laid_tableau_api_ErrBytes), ("tableau/api.ErrBig", laid_tableau_api_ErrBig), ("tableau/api.ErrObject", laid_tableau_api_ErrObject), ("tableau/api.ErrMethod", laid_tableau_api_ErrMethod), ("tableau/api.ErrFormat", laid_tableau_api_ErrFormat), ("tableau/api.ErrStride", laid_tableau_api_ErrStride), ("tableau/api.ErrFile", laid_tableau_api_ErrFile), ("tableau/api.ErrRole", laid_tableau_api_ErrRole), ("tableau/api.ErrPlace", laid_tableau_api_ErrPlace), ("tableau/api.ErrState", laid_tableau_api_ErrState), ("tableau/api.ErrSerial", laid_tableau_api_ErrSerial), ("tableau/api.ErrFull", laid_tableau_api_ErrFull), ("tableau/api.ErrGone", laid_tableau_api_ErrGone), ("tableau/api.ErrSheet", laid_tableau_api_ErrSheet)], narrowed := true }
def PoolGrowsUptoSaid : Prop := poolGrowsUptoRow.holds Tryd.pinned (OpenSpec.upto poolGrowsSpec)

/-- 'tableaulaw11.PoolPlays', WHERE WHAT IT READS IS OF BULK AT MOST 1048576: true; the input reads as it did. -/
def poolPlaysUptoRow : OpenClaim := { program := "ytjhfcnkmfbpjmaadoor", sum := "7eec8334c6bd5bccf30a6f50787dce7b3cc6c40b38dc2a9c769a373b1b745f69", func := "tableau/tableaulaw11.PoolPlays", spec := "poolPlays", inPlace := ["internal/reflectlite.TypeOf"], unfollowed := true, recurses := true, named := ["tableau/api.ErrObject", "tableau/api.ErrStride", "tableau/api.ErrFile", "tableau/api.ErrArg", "tableau/api.ErrShort", "tableau/api.ErrBytes", "tableau/api.ErrBig", "tableau/api.ErrMethod", "tableau/api.ErrFormat", "tableau/api.ErrRole", "tableau/api.ErrPlace", "tableau/api.ErrState", "tableau/api.ErrSerial", "tableau/api.ErrFull", "tableau/api.ErrGone", "tableau/api.ErrSheet"], apart := false, laid := [("tableau/api.ErrArg", laid_tableau_api_ErrArg), ("tableau/api.ErrShort", laid_tableau_api_ErrShort), ("tableau/api.ErrBytes", laid_tableau_api_ErrBytes), ("tableau/api.ErrBig", laid_tableau_api_ErrBig), ("tableau/api.ErrObject", laid_tableau_api_ErrObject), ("tableau/api.ErrMethod", laid_tableau_api_ErrMethod), ("tableau/api.ErrFormat", laid_tableau_api_ErrFormat), ("tableau/api.ErrStride", laid_tableau_api_ErrStride), ("tableau/api.ErrFile", laid_tableau_api_ErrFile), ("tableau/api.ErrRole", laid_tableau_api_ErrRole), ("tableau/api.ErrPlace", laid_tableau_api_ErrPlace), ("tableau/api.ErrState", laid_tableau_api_ErrState), ("tableau/api.ErrSerial", laid_tableau_api_ErrSerial), ("tableau/api.ErrFull", laid_tableau_api_ErrFull), ("tableau/api.ErrGone", laid_tableau_api_ErrGone), ("tableau/api.ErrSheet", laid_tableau_api_ErrSheet)], narrowed := true }
def PoolPlaysUptoSaid : Prop := poolPlaysUptoRow.holds Tryd.pinned (OpenSpec.upto poolPlaysSpec)

end Rows
end Go.Proofs.YtjhfcnkmfbpjmaaDoor
