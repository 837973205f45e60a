/-
  No cell of these rows narrows 'for every input' (looked for: loops, veiled, ifaces, maps, wideKeys, modest, calm, conditions, laid).
  DERIVED. THE GIVEN ROWS OF THIS SEAT. 4 by the template 'for every input the law returns true; each argument reads behind the call as it read before'; 0 by the template 'total and deterministic' (their statements: YtfekldcpjoiipaaTotals.lean).
  GIVEN WITH THE SEED: the statements are not yours to turn. If you find one false, say at which input.
  Laid BY PROGRAM, IN A SANDBOX (cutbox-rows.mjs): the forced cells as the released guide's own fill.sh prints them over the translation deb7205b4c2c5790… (all of the seat's roots in one cut). By AI agents, Wed Nov 11 2026. No macro, syntax, notation, axiom, sorry.
-/
import Derived.Test.YtfekldcpjoiipaaChecked
import GoSem.Claim
import GoSem.ClaimJoined
import GoSem.ClaimMapViews
import Derived.JoinedTies
import Derived.KernelRfl
namespace Go.Proofs.Ytfekldcpjoiipaa
/- THE CELL 'sum', in the pinned program and in every row, IS THE sha256 OF THE DUMP (.gsa) THAT YtfekldcpjoiipaaProg.lean LOADS. Nothing in Lean hashes anything: it is a label: what it is worth is what the hold of that sum in a sandbox is worth. -/
noncomputable def Try.pinned : Pinned := { name := "ytfekldcpjoiipaa", sum := "deb7205b4c2c5790a8a9f2771ed8d11735c78deb9563ba46eb59649b1c9a62ba", checked := Try.checked }
namespace Rows
def none {H : Type} : Left H := { results := [], args := [] }

/-- 'tableaulaw20.SeatTops': WHATEVER THE INPUT: true; the input reads as it did. -/
def seatTopsSpec : ChangeSpec := { name := "seatTops", fn := fun _ => fun
  | [d1, d2, d3] => { results := [.lit (.bool true)], args := [d1, d2, d3] }
  | _ => none }
def seatTopsRow : OpenClaim := { program := "ytfekldcpjoiipaa", sum := "deb7205b4c2c5790a8a9f2771ed8d11735c78deb9563ba46eb59649b1c9a62ba", func := "tableau/tableaulaw20.SeatTops", spec := "seatTops", unfollowed := true, recurses := true, apart := false }
def SeatTopsSaid : Prop := seatTopsRow.holds Try.pinned (OpenSpec.ofChange seatTopsSpec)

/-- ITS FALSE NEIGHBOUR: 'it returns false'. Refute it at one input. -/
def seatTopsWrong : ChangeSpec := { name := "seatTops", fn := fun _ => fun
  | [d1, d2, d3] => { results := [.lit (.bool false)], args := [d1, d2, d3] }
  | _ => none }
def SeatTopsWrongFalsely : Prop := seatTopsRow.holds Try.pinned (OpenSpec.ofChange seatTopsWrong)

/-- 'tableaulaw20.SeatEnters': WHATEVER THE INPUT: true; the input reads as it did. -/
def seatEntersSpec : ChangeSpec := { name := "seatEnters", fn := fun _ => fun
  | [d1, d2] => { results := [.lit (.bool true)], args := [d1, d2] }
  | _ => none }
def seatEntersRow : OpenClaim := { program := "ytfekldcpjoiipaa", sum := "deb7205b4c2c5790a8a9f2771ed8d11735c78deb9563ba46eb59649b1c9a62ba", func := "tableau/tableaulaw20.SeatEnters", spec := "seatEnters", unfollowed := true, recurses := true, apart := false }
def SeatEntersSaid : Prop := seatEntersRow.holds Try.pinned (OpenSpec.ofChange seatEntersSpec)

/-- ITS FALSE NEIGHBOUR: 'it returns false'. Refute it at one input. -/
def seatEntersWrong : ChangeSpec := { name := "seatEnters", fn := fun _ => fun
  | [d1, d2] => { results := [.lit (.bool false)], args := [d1, d2] }
  | _ => none }
def SeatEntersWrongFalsely : Prop := seatEntersRow.holds Try.pinned (OpenSpec.ofChange seatEntersWrong)

/-- 'tableaulaw20.SeatKeys': WHATEVER THE INPUT: true; the input reads as it did. -/
def seatKeysSpec : ChangeSpec := { name := "seatKeys", fn := fun _ => fun
  | [d1, d2] => { results := [.lit (.bool true)], args := [d1, d2] }
  | _ => none }
def seatKeysRow : OpenClaim := { program := "ytfekldcpjoiipaa", sum := "deb7205b4c2c5790a8a9f2771ed8d11735c78deb9563ba46eb59649b1c9a62ba", func := "tableau/tableaulaw20.SeatKeys", spec := "seatKeys", unfollowed := true, recurses := true, apart := false }
def SeatKeysSaid : Prop := seatKeysRow.holds Try.pinned (OpenSpec.ofChange seatKeysSpec)

/-- ITS FALSE NEIGHBOUR: 'it returns false'. Refute it at one input. -/
def seatKeysWrong : ChangeSpec := { name := "seatKeys", fn := fun _ => fun
  | [d1, d2] => { results := [.lit (.bool false)], args := [d1, d2] }
  | _ => none }
def SeatKeysWrongFalsely : Prop := seatKeysRow.holds Try.pinned (OpenSpec.ofChange seatKeysWrong)

/-- 'tableaulaw20.SeatPlays': WHATEVER THE INPUT: true; the input reads as it did. -/
def seatPlaysSpec : ChangeSpec := { name := "seatPlays", fn := fun _ => fun
  | [d1, d2] => { results := [.lit (.bool true)], args := [d1, d2] }
  | _ => none }
def seatPlaysRow : OpenClaim := { program := "ytfekldcpjoiipaa", sum := "deb7205b4c2c5790a8a9f2771ed8d11735c78deb9563ba46eb59649b1c9a62ba", func := "tableau/tableaulaw20.SeatPlays", spec := "seatPlays", unfollowed := true, recurses := true, apart := false }
def SeatPlaysSaid : Prop := seatPlaysRow.holds Try.pinned (OpenSpec.ofChange seatPlaysSpec)

/-- ITS FALSE NEIGHBOUR: 'it returns false'. Refute it at one input. -/
def seatPlaysWrong : ChangeSpec := { name := "seatPlays", fn := fun _ => fun
  | [d1, d2] => { results := [.lit (.bool false)], args := [d1, d2] }
  | _ => none }
def SeatPlaysWrongFalsely : Prop := seatPlaysRow.holds Try.pinned (OpenSpec.ofChange seatPlaysWrong)

/- THE SECOND FORM. 'bulk': how many values and letters a reading holds, each counted each time it is reached (what is shared counts as often as it is met; a slice's spare places count too). A statement '..UptoSaid' is the law's where the arguments, and the package variables that the reading takes, are together of bulk at most 1048576: NARROWER than '..Said'. Prove '..Said' where nothing that the law and all that it calls make is longer than what came in: it says more and counts as full. Else prove '..UptoSaid'. A law counts once. -/
mutual
def uptoBulk {H : Type} : DataW H → Nat
  | .lit (.string bytes) => bytes.length + 1
  | .lit _ => 1
  | .nil => 1
  | .ptr d => uptoBulk d + 1
  | .slice elems spare => uptoBulkAll elems + uptoBulkAll spare + 1
  | .agg parts => uptoBulkAll parts + 1
  | .iface _ d => uptoBulk d + 1
  | .map entries => uptoBulkEntries entries + 1
  | .held _ => 1
def uptoBulkAll {H : Type} : List (DataW H) → Nat
  | [] => 0
  | d :: r => uptoBulk d + uptoBulkAll r
def uptoBulkEntries {H : Type} : List (Lit × DataW H) → Nat
  | [] => 0
  | x :: r => uptoBulkEntry x + uptoBulkEntries r
def uptoBulkEntry {H : Type} : Lit × DataW H → Nat
  | (.string bytes, d) => bytes.length + uptoBulk d + 1
  | (_, d) => uptoBulk d + 1
 end
def uptoSmall : (H : Type) → List (DataW H) → Bool := fun _ ds => decide (uptoBulkAll ds ≤ 1048576)
def OpenSpec.upto (s : _root_.Go.ChangeSpec) : _root_.Go.OpenSpec := { _root_.Go.OpenSpec.ofChange s with cond := some uptoSmall }

/-- 'tableaulaw20.SeatTops', WHERE WHAT IT READS IS OF BULK AT MOST 1048576: true; the input reads as it did. -/
def seatTopsUptoRow : OpenClaim := { program := "ytfekldcpjoiipaa", sum := "deb7205b4c2c5790a8a9f2771ed8d11735c78deb9563ba46eb59649b1c9a62ba", func := "tableau/tableaulaw20.SeatTops", spec := "seatTops", unfollowed := true, recurses := true, apart := false, narrowed := true }
def SeatTopsUptoSaid : Prop := seatTopsUptoRow.holds Try.pinned (OpenSpec.upto seatTopsSpec)

/-- 'tableaulaw20.SeatEnters', WHERE WHAT IT READS IS OF BULK AT MOST 1048576: true; the input reads as it did. -/
def seatEntersUptoRow : OpenClaim := { program := "ytfekldcpjoiipaa", sum := "deb7205b4c2c5790a8a9f2771ed8d11735c78deb9563ba46eb59649b1c9a62ba", func := "tableau/tableaulaw20.SeatEnters", spec := "seatEnters", unfollowed := true, recurses := true, apart := false, narrowed := true }
def SeatEntersUptoSaid : Prop := seatEntersUptoRow.holds Try.pinned (OpenSpec.upto seatEntersSpec)

/-- 'tableaulaw20.SeatKeys', WHERE WHAT IT READS IS OF BULK AT MOST 1048576: true; the input reads as it did. -/
def seatKeysUptoRow : OpenClaim := { program := "ytfekldcpjoiipaa", sum := "deb7205b4c2c5790a8a9f2771ed8d11735c78deb9563ba46eb59649b1c9a62ba", func := "tableau/tableaulaw20.SeatKeys", spec := "seatKeys", unfollowed := true, recurses := true, apart := false, narrowed := true }
def SeatKeysUptoSaid : Prop := seatKeysUptoRow.holds Try.pinned (OpenSpec.upto seatKeysSpec)

/-- 'tableaulaw20.SeatPlays', WHERE WHAT IT READS IS OF BULK AT MOST 1048576: true; the input reads as it did. -/
def seatPlaysUptoRow : OpenClaim := { program := "ytfekldcpjoiipaa", sum := "deb7205b4c2c5790a8a9f2771ed8d11735c78deb9563ba46eb59649b1c9a62ba", func := "tableau/tableaulaw20.SeatPlays", spec := "seatPlays", unfollowed := true, recurses := true, apart := false, narrowed := true }
def SeatPlaysUptoSaid : Prop := seatPlaysUptoRow.holds Try.pinned (OpenSpec.upto seatPlaysSpec)

end Rows
end Go.Proofs.Ytfekldcpjoiipaa
