/-
  NARROWER THAN 'FOR EVERY INPUT', by the rows' own cells (each row's printed sentence says how): ForestDesyncs: laid · ForestRoles: laid · ForestSyncs: laid · ForestDrops: laid · ForestPlaces: laid.
  DERIVED. THE GIVEN ROWS OF THIS SEAT. 5 by the template 'for every input the law returns true; each argument reads behind the call as it read before'; 0 by the template 'total and deterministic' (their statements: YthkjicnnepkghaaDoorTotals.lean).
  GIVEN WITH THE SEED: the statements are not yours to turn. If you find one false, say at which input.
  Laid BY PROGRAM, IN A SANDBOX (cutbox-rows.mjs): the forced cells as the released guide's own fill.sh prints them over the translation 602dcfdef74c9250… (all of the seat's roots in one cut). By AI agents, Wed Nov 11 2026. No macro, syntax, notation, axiom, sorry.
-/
import Derived.Test.YthkjicnnepkghaaDoorChecked
import GoSem.Claim
import GoSem.ClaimJoined
import GoSem.ClaimMapViews
import Derived.JoinedTies
import Derived.KernelRfl
namespace Go.Proofs.YthkjicnnepkghaaDoor
/- THE CELL 'sum', in the pinned program and in every row, IS THE sha256 OF THE DUMP (.gsa) THAT YthkjicnnepkghaaDoorProg.lean LOADS. Nothing in Lean hashes anything: it is a label: what it is worth is what the hold of that sum in a sandbox is worth. -/
noncomputable def Tryd.pinned : Pinned := { name := "ythkjicnnepkghaadoor", sum := "602dcfdef74c92506566e6efd860e8418760cc6bb81a1a3cb7dd3b8e97700496", checked := Tryd.checked }
namespace Rows
def none {H : Type} : Left H := { results := [], args := [] }

/- WHAT THE LISTED PACKAGE-LEVEL VARIABLES READ AS WHEN THE CALL BEGINS. Each datum BY PROGRAM (the guide's laid-datum.mjs) off the statement by which the dump's own 'gosem.cut.vars' lays the variable. In a bare row this is a premise. The card (YthkjicnnepkghaaDoorCards.lean) ties it to the program's text. -/
def laid_tableau_api_ErrArg {H : Type} : DataW H := .iface "*errors.errorString" (.ptr (.agg [.lit (.string [97, 114, 103, 117, 109, 101, 110, 116])]))
def laid_tableau_api_ErrBig {H : Type} : DataW H := .iface "*errors.errorString" (.ptr (.agg [.lit (.string [98, 105, 103])]))
def laid_tableau_api_ErrObject {H : Type} : DataW H := .iface "*errors.errorString" (.ptr (.agg [.lit (.string [111, 98, 106, 101, 99, 116])]))
def laid_tableau_api_ErrRole {H : Type} : DataW H := .iface "*errors.errorString" (.ptr (.agg [.lit (.string [114, 111, 108, 101])]))
def laid_tableau_api_ErrPlace {H : Type} : DataW H := .iface "*errors.errorString" (.ptr (.agg [.lit (.string [112, 108, 97, 99, 101])]))
def laid_tableau_api_ErrShort {H : Type} : DataW H := .iface "*errors.errorString" (.ptr (.agg [.lit (.string [115, 104, 111, 114, 116])]))
def laid_tableau_api_ErrBytes {H : Type} : DataW H := .iface "*errors.errorString" (.ptr (.agg [.lit (.string [98, 121, 116, 101, 115])]))
def laid_tableau_api_ErrMethod {H : Type} : DataW H := .iface "*errors.errorString" (.ptr (.agg [.lit (.string [109, 101, 116, 104, 111, 100])]))
def laid_tableau_api_ErrFormat {H : Type} : DataW H := .iface "*errors.errorString" (.ptr (.agg [.lit (.string [102, 111, 114, 109, 97, 116])]))
def laid_tableau_api_ErrStride {H : Type} : DataW H := .iface "*errors.errorString" (.ptr (.agg [.lit (.string [115, 116, 114, 105, 100, 101])]))
def laid_tableau_api_ErrFile {H : Type} : DataW H := .iface "*errors.errorString" (.ptr (.agg [.lit (.string [102, 105, 108, 101])]))
def laid_tableau_api_ErrState {H : Type} : DataW H := .iface "*errors.errorString" (.ptr (.agg [.lit (.string [115, 116, 97, 116, 101])]))
def laid_tableau_api_ErrSerial {H : Type} : DataW H := .iface "*errors.errorString" (.ptr (.agg [.lit (.string [115, 101, 114, 105, 97, 108])]))
def laid_tableau_api_ErrFull {H : Type} : DataW H := .iface "*errors.errorString" (.ptr (.agg [.lit (.string [102, 117, 108, 108])]))
def laid_tableau_api_ErrGone {H : Type} : DataW H := .iface "*errors.errorString" (.ptr (.agg [.lit (.string [103, 111, 110, 101])]))
def laid_tableau_api_ErrSheet {H : Type} : DataW H := .iface "*errors.errorString" (.ptr (.agg [.lit (.string [115, 104, 101, 101, 116])]))

/-- 'tableaulaw17.ForestDesyncs': WHATEVER THE INPUT: true; the input reads as it did. -/
def forestDesyncsSpec : ChangeSpec := { name := "forestDesyncs", fn := fun _ => fun
  | [d1, d2] => { results := [.lit (.bool true)], args := [d1, d2] }
  | _ => none }
def forestDesyncsRow : OpenClaim := { program := "ythkjicnnepkghaadoor", sum := "602dcfdef74c92506566e6efd860e8418760cc6bb81a1a3cb7dd3b8e97700496", func := "tableau/tableaulaw17.ForestDesyncs", spec := "forestDesyncs", unfollowed := true, recurses := true, named := ["tableau/api.ErrArg", "tableau/api.ErrObject", "tableau/api.ErrBig", "tableau/api.ErrRole", "tableau/api.ErrPlace"], apart := false, laid := [("tableau/api.ErrArg", laid_tableau_api_ErrArg), ("tableau/api.ErrBig", laid_tableau_api_ErrBig), ("tableau/api.ErrObject", laid_tableau_api_ErrObject), ("tableau/api.ErrRole", laid_tableau_api_ErrRole), ("tableau/api.ErrPlace", laid_tableau_api_ErrPlace)] }
def ForestDesyncsSaid : Prop := forestDesyncsRow.holds Tryd.pinned (OpenSpec.ofChange forestDesyncsSpec)

/-- ITS FALSE NEIGHBOUR: 'it returns false'. Refute it at one input. -/
def forestDesyncsWrong : ChangeSpec := { name := "forestDesyncs", fn := fun _ => fun
  | [d1, d2] => { results := [.lit (.bool false)], args := [d1, d2] }
  | _ => none }
def ForestDesyncsWrongFalsely : Prop := forestDesyncsRow.holds Tryd.pinned (OpenSpec.ofChange forestDesyncsWrong)

/-- 'tableaulaw17.ForestRoles': WHATEVER THE INPUT: true; the input reads as it did. -/
def forestRolesSpec : ChangeSpec := { name := "forestRoles", fn := fun _ => fun
  | [d1, d2, d3] => { results := [.lit (.bool true)], args := [d1, d2, d3] }
  | _ => none }
def forestRolesRow : OpenClaim := { program := "ythkjicnnepkghaadoor", sum := "602dcfdef74c92506566e6efd860e8418760cc6bb81a1a3cb7dd3b8e97700496", func := "tableau/tableaulaw17.ForestRoles", spec := "forestRoles", inPlace := ["internal/reflectlite.TypeOf"], unfollowed := true, recurses := true, named := ["tableau/api.ErrArg", "tableau/api.ErrObject", "tableau/api.ErrBig", "tableau/api.ErrRole", "tableau/api.ErrPlace", "tableau/api.ErrShort", "tableau/api.ErrBytes", "tableau/api.ErrMethod", "tableau/api.ErrFormat", "tableau/api.ErrStride", "tableau/api.ErrFile", "tableau/api.ErrState", "tableau/api.ErrSerial", "tableau/api.ErrFull", "tableau/api.ErrGone", "tableau/api.ErrSheet"], apart := false, laid := [("tableau/api.ErrArg", laid_tableau_api_ErrArg), ("tableau/api.ErrShort", laid_tableau_api_ErrShort), ("tableau/api.ErrBytes", laid_tableau_api_ErrBytes), ("tableau/api.ErrBig", laid_tableau_api_ErrBig), ("tableau/api.ErrObject", laid_tableau_api_ErrObject), ("tableau/api.ErrMethod", laid_tableau_api_ErrMethod), ("tableau/api.ErrFormat", laid_tableau_api_ErrFormat), ("tableau/api.ErrStride", laid_tableau_api_ErrStride), ("tableau/api.ErrFile", laid_tableau_api_ErrFile), ("tableau/api.ErrRole", laid_tableau_api_ErrRole), ("tableau/api.ErrPlace", laid_tableau_api_ErrPlace), ("tableau/api.ErrState", laid_tableau_api_ErrState), ("tableau/api.ErrSerial", laid_tableau_api_ErrSerial), ("tableau/api.ErrFull", laid_tableau_api_ErrFull), ("tableau/api.ErrGone", laid_tableau_api_ErrGone), ("tableau/api.ErrSheet", laid_tableau_api_ErrSheet)] }
def ForestRolesSaid : Prop := forestRolesRow.holds Tryd.pinned (OpenSpec.ofChange forestRolesSpec)

/-- ITS FALSE NEIGHBOUR: 'it returns false'. Refute it at one input. -/
def forestRolesWrong : ChangeSpec := { name := "forestRoles", fn := fun _ => fun
  | [d1, d2, d3] => { results := [.lit (.bool false)], args := [d1, d2, d3] }
  | _ => none }
def ForestRolesWrongFalsely : Prop := forestRolesRow.holds Tryd.pinned (OpenSpec.ofChange forestRolesWrong)

/-- 'tableaulaw17.ForestSyncs': WHATEVER THE INPUT: true; the input reads as it did. -/
def forestSyncsSpec : ChangeSpec := { name := "forestSyncs", fn := fun _ => fun
  | [d1, d2] => { results := [.lit (.bool true)], args := [d1, d2] }
  | _ => none }
def forestSyncsRow : OpenClaim := { program := "ythkjicnnepkghaadoor", sum := "602dcfdef74c92506566e6efd860e8418760cc6bb81a1a3cb7dd3b8e97700496", func := "tableau/tableaulaw17.ForestSyncs", spec := "forestSyncs", unfollowed := true, recurses := true, named := ["tableau/api.ErrArg", "tableau/api.ErrObject", "tableau/api.ErrBig", "tableau/api.ErrRole", "tableau/api.ErrPlace"], apart := false, laid := [("tableau/api.ErrArg", laid_tableau_api_ErrArg), ("tableau/api.ErrBig", laid_tableau_api_ErrBig), ("tableau/api.ErrObject", laid_tableau_api_ErrObject), ("tableau/api.ErrRole", laid_tableau_api_ErrRole), ("tableau/api.ErrPlace", laid_tableau_api_ErrPlace)] }
def ForestSyncsSaid : Prop := forestSyncsRow.holds Tryd.pinned (OpenSpec.ofChange forestSyncsSpec)

/-- ITS FALSE NEIGHBOUR: 'it returns false'. Refute it at one input. -/
def forestSyncsWrong : ChangeSpec := { name := "forestSyncs", fn := fun _ => fun
  | [d1, d2] => { results := [.lit (.bool false)], args := [d1, d2] }
  | _ => none }
def ForestSyncsWrongFalsely : Prop := forestSyncsRow.holds Tryd.pinned (OpenSpec.ofChange forestSyncsWrong)

/-- 'tableaulaw17.ForestDrops': WHATEVER THE INPUT: true; the input reads as it did. -/
def forestDropsSpec : ChangeSpec := { name := "forestDrops", fn := fun _ => fun
  | [d] => { results := [.lit (.bool true)], args := [d] }
  | _ => none }
def forestDropsRow : OpenClaim := { program := "ythkjicnnepkghaadoor", sum := "602dcfdef74c92506566e6efd860e8418760cc6bb81a1a3cb7dd3b8e97700496", func := "tableau/tableaulaw17.ForestDrops", spec := "forestDrops", unfollowed := true, recurses := true, named := ["tableau/api.ErrArg", "tableau/api.ErrObject", "tableau/api.ErrBig", "tableau/api.ErrRole", "tableau/api.ErrPlace"], apart := false, laid := [("tableau/api.ErrArg", laid_tableau_api_ErrArg), ("tableau/api.ErrBig", laid_tableau_api_ErrBig), ("tableau/api.ErrObject", laid_tableau_api_ErrObject), ("tableau/api.ErrRole", laid_tableau_api_ErrRole), ("tableau/api.ErrPlace", laid_tableau_api_ErrPlace)] }
def ForestDropsSaid : Prop := forestDropsRow.holds Tryd.pinned (OpenSpec.ofChange forestDropsSpec)

/-- ITS FALSE NEIGHBOUR: 'it returns false'. Refute it at one input. -/
def forestDropsWrong : ChangeSpec := { name := "forestDrops", fn := fun _ => fun
  | [d] => { results := [.lit (.bool false)], args := [d] }
  | _ => none }
def ForestDropsWrongFalsely : Prop := forestDropsRow.holds Tryd.pinned (OpenSpec.ofChange forestDropsWrong)

/-- 'tableaulaw17.ForestPlaces': WHATEVER THE INPUT: true; the input reads as it did. -/
def forestPlacesSpec : ChangeSpec := { name := "forestPlaces", fn := fun _ => fun
  | [d1, d2, d3] => { results := [.lit (.bool true)], args := [d1, d2, d3] }
  | _ => none }
def forestPlacesRow : OpenClaim := { program := "ythkjicnnepkghaadoor", sum := "602dcfdef74c92506566e6efd860e8418760cc6bb81a1a3cb7dd3b8e97700496", func := "tableau/tableaulaw17.ForestPlaces", spec := "forestPlaces", inPlace := ["slices.overlaps[int]"], unfollowed := true, recurses := true, named := ["tableau/api.ErrArg", "tableau/api.ErrObject", "tableau/api.ErrBig", "tableau/api.ErrRole", "tableau/api.ErrPlace"], apart := false, laid := [("tableau/api.ErrArg", laid_tableau_api_ErrArg), ("tableau/api.ErrBig", laid_tableau_api_ErrBig), ("tableau/api.ErrObject", laid_tableau_api_ErrObject), ("tableau/api.ErrRole", laid_tableau_api_ErrRole), ("tableau/api.ErrPlace", laid_tableau_api_ErrPlace)] }
def ForestPlacesSaid : Prop := forestPlacesRow.holds Tryd.pinned (OpenSpec.ofChange forestPlacesSpec)

/-- ITS FALSE NEIGHBOUR: 'it returns false'. Refute it at one input. -/
def forestPlacesWrong : ChangeSpec := { name := "forestPlaces", fn := fun _ => fun
  | [d1, d2, d3] => { results := [.lit (.bool false)], args := [d1, d2, d3] }
  | _ => none }
def ForestPlacesWrongFalsely : Prop := forestPlacesRow.holds Tryd.pinned (OpenSpec.ofChange forestPlacesWrong)

/- THE SECOND FORM. 'bulk': how many values and letters a reading holds, each counted each time it is reached (what is shared counts as often as it is met; a slice's spare places count too). A statement '..UptoSaid' is the law's where the arguments, and the package variables that the reading takes, are together of bulk at most 1048576: NARROWER than '..Said'. Prove '..Said' where nothing that the law and all that it calls make is longer than what came in: it says more and counts as full. Else prove '..UptoSaid'. A law counts once. -/
mutual
def uptoBulk {H : Type} : DataW H → Nat
  | .lit (.string bytes) => bytes.length + 1
  | .lit _ => 1
  | .nil => 1
  | .ptr d => uptoBulk d + 1
  | .slice elems spare => uptoBulkAll elems + uptoBulkAll spare + 1
  | .agg parts => uptoBulkAll parts + 1
  | .iface _ d => uptoBulk d + 1
  | .map entries => uptoBulkEntries entries + 1
  | .held _ => 1
def uptoBulkAll {H : Type} : List (DataW H) → Nat
  | [] => 0
  | d :: r => uptoBulk d + uptoBulkAll r
def uptoBulkEntries {H : Type} : List (Lit × DataW H) → Nat
  | [] => 0
  | x :: r => uptoBulkEntry x + uptoBulkEntries r
def uptoBulkEntry {H : Type} : Lit × DataW H → Nat
  | (.string bytes, d) => bytes.length + uptoBulk d + 1
  | (_, d) => uptoBulk d + 1
 end
def uptoSmall : (H : Type) → List (DataW H) → Bool := fun _ ds => decide (uptoBulkAll ds ≤ 1048576)
def OpenSpec.upto (s : _root_.Go.ChangeSpec) : _root_.Go.OpenSpec := { _root_.Go.OpenSpec.ofChange s with cond := some uptoSmall }

/-- 'tableaulaw17.ForestDesyncs', WHERE WHAT IT READS IS OF BULK AT MOST 1048576: true; the input reads as it did. -/
def forestDesyncsUptoRow : OpenClaim := { program := "ythkjicnnepkghaadoor", sum := "602dcfdef74c92506566e6efd860e8418760cc6bb81a1a3cb7dd3b8e97700496", func := "tableau/tableaulaw17.ForestDesyncs", spec := "forestDesyncs", unfollowed := true, recurses := true, named := ["tableau/api.ErrArg", "tableau/api.ErrObject", "tableau/api.ErrBig", "tableau/api.ErrRole", "tableau/api.ErrPlace"], apart := false, laid := [("tableau/api.ErrArg", laid_tableau_api_ErrArg), ("tableau/api.ErrBig", laid_tableau_api_ErrBig), ("tableau/api.ErrObject", laid_tableau_api_ErrObject), ("tableau/api.ErrRole", laid_tableau_api_ErrRole), ("tableau/api.ErrPlace", laid_tableau_api_ErrPlace)], narrowed := true }
def ForestDesyncsUptoSaid : Prop := forestDesyncsUptoRow.holds Tryd.pinned (OpenSpec.upto forestDesyncsSpec)

/-- 'tableaulaw17.ForestRoles', WHERE WHAT IT READS IS OF BULK AT MOST 1048576: true; the input reads as it did. -/
def forestRolesUptoRow : OpenClaim := { program := "ythkjicnnepkghaadoor", sum := "602dcfdef74c92506566e6efd860e8418760cc6bb81a1a3cb7dd3b8e97700496", func := "tableau/tableaulaw17.ForestRoles", spec := "forestRoles", inPlace := ["internal/reflectlite.TypeOf"], unfollowed := true, recurses := true, named := ["tableau/api.ErrArg", "tableau/api.ErrObject", "tableau/api.ErrBig", "tableau/api.ErrRole", "tableau/api.ErrPlace", "tableau/api.ErrShort", "tableau/api.ErrBytes", "tableau/api.ErrMethod", "tableau/api.ErrFormat", "tableau/api.ErrStride", "tableau/api.ErrFile", "tableau/api.ErrState", "tableau/api.ErrSerial", "tableau/api.ErrFull", "tableau/api.ErrGone", "tableau/api.ErrSheet"], apart := false, laid := [("tableau/api.ErrArg", laid_tableau_api_ErrArg), ("tableau/api.ErrShort", laid_tableau_api_ErrShort), ("tableau/api.ErrBytes", laid_tableau_api_ErrBytes), ("tableau/api.ErrBig", laid_tableau_api_ErrBig), ("tableau/api.ErrObject", laid_tableau_api_ErrObject), ("tableau/api.ErrMethod", laid_tableau_api_ErrMethod), ("tableau/api.ErrFormat", laid_tableau_api_ErrFormat), ("tableau/api.ErrStride", laid_tableau_api_ErrStride), ("tableau/api.ErrFile", laid_tableau_api_ErrFile), ("tableau/api.ErrRole", laid_tableau_api_ErrRole), ("tableau/api.ErrPlace", laid_tableau_api_ErrPlace), ("tableau/api.ErrState", laid_tableau_api_ErrState), ("tableau/api.ErrSerial", laid_tableau_api_ErrSerial), ("tableau/api.ErrFull", laid_tableau_api_ErrFull), ("tableau/api.ErrGone", laid_tableau_api_ErrGone), ("tableau/api.ErrSheet", laid_tableau_api_ErrSheet)], narrowed := true }
def ForestRolesUptoSaid : Prop := forestRolesUptoRow.holds Tryd.pinned (OpenSpec.upto forestRolesSpec)

/-- 'tableaulaw17.ForestSyncs', WHERE WHAT IT READS IS OF BULK AT MOST 1048576: true; the input reads as it did. -/
def forestSyncsUptoRow : OpenClaim := { program := "ythkjicnnepkghaadoor", sum := "602dcfdef74c92506566e6efd860e8418760cc6bb81a1a3cb7dd3b8e97700496", func := "tableau/tableaulaw17.ForestSyncs", spec := "forestSyncs", unfollowed := true, recurses := true, named := ["tableau/api.ErrArg", "tableau/api.ErrObject", "tableau/api.ErrBig", "tableau/api.ErrRole", "tableau/api.ErrPlace"], apart := false, laid := [("tableau/api.ErrArg", laid_tableau_api_ErrArg), ("tableau/api.ErrBig", laid_tableau_api_ErrBig), ("tableau/api.ErrObject", laid_tableau_api_ErrObject), ("tableau/api.ErrRole", laid_tableau_api_ErrRole), ("tableau/api.ErrPlace", laid_tableau_api_ErrPlace)], narrowed := true }
def ForestSyncsUptoSaid : Prop := forestSyncsUptoRow.holds Tryd.pinned (OpenSpec.upto forestSyncsSpec)

/-- 'tableaulaw17.ForestDrops', WHERE WHAT IT READS IS OF BULK AT MOST 1048576: true; the input reads as it did. -/
def forestDropsUptoRow : OpenClaim := { program := "ythkjicnnepkghaadoor", sum := "602dcfdef74c92506566e6efd860e8418760cc6bb81a1a3cb7dd3b8e97700496", func := "tableau/tableaulaw17.ForestDrops", spec := "forestDrops", unfollowed := true, recurses := true, named := ["tableau/api.ErrArg", "tableau/api.ErrObject", "tableau/api.ErrBig", "tableau/api.ErrRole", "tableau/api.ErrPlace"], apart := false, laid := [("tableau/api.ErrArg", laid_tableau_api_ErrArg), ("tableau/api.ErrBig", laid_tableau_api_ErrBig), ("tableau/api.ErrObject", laid_tableau_api_ErrObject), ("tableau/api.ErrRole", laid_tableau_api_ErrRole), ("tableau/api.ErrPlace", laid_tableau_api_ErrPlace)], narrowed := true }
def ForestDropsUptoSaid : Prop := forestDropsUptoRow.holds Tryd.pinned (OpenSpec.upto forestDropsSpec)

/-- 'tableaulaw17.ForestPlaces', WHERE WHAT IT READS IS OF BULK AT MOST 1048576: true; the input reads as it did. -/
def forestPlacesUptoRow : OpenClaim := { program := "ythkjicnnepkghaadoor", sum := "602dcfdef74c92506566e6efd860e8418760cc6bb81a1a3cb7dd3b8e97700496", func := "tableau/tableaulaw17.ForestPlaces", spec := "forestPlaces", inPlace := ["slices.overlaps[int]"], unfollowed := true, recurses := true, named := ["tableau/api.ErrArg", "tableau/api.ErrObject", "tableau/api.ErrBig", "tableau/api.ErrRole", "tableau/api.ErrPlace"], apart := false, laid := [("tableau/api.ErrArg", laid_tableau_api_ErrArg), ("tableau/api.ErrBig", laid_tableau_api_ErrBig), ("tableau/api.ErrObject", laid_tableau_api_ErrObject), ("tableau/api.ErrRole", laid_tableau_api_ErrRole), ("tableau/api.ErrPlace", laid_tableau_api_ErrPlace)], narrowed := true }
def ForestPlacesUptoSaid : Prop := forestPlacesUptoRow.holds Tryd.pinned (OpenSpec.upto forestPlacesSpec)

end Rows
end Go.Proofs.YthkjicnnepkghaaDoor
