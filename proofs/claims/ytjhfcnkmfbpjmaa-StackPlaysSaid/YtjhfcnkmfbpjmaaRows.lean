/-
  No cell of these rows narrows 'for every input' (looked for: loops, veiled, ifaces, maps, wideKeys, modest, calm, conditions, laid).
  DERIVED. THE GIVEN ROWS OF THIS SEAT. 3 by the template 'for every input the law returns true; each argument reads behind the call as it read before'; 0 by the template 'total and deterministic' (their statements: YtjhfcnkmfbpjmaaTotals.lean).
  GIVEN WITH THE SEED: the statements are not yours to turn. If you find one false, say at which input.
  Laid BY PROGRAM, IN A SANDBOX (cutbox-rows.mjs): the forced cells as the released guide's own fill.sh prints them over the translation 0657a9c06593c38d… (all of the seat's roots in one cut). By AI agents, Wed Nov 11 2026. No macro, syntax, notation, axiom, sorry.
-/
import Derived.Test.YtjhfcnkmfbpjmaaChecked
import GoSem.Claim
import GoSem.ClaimJoined
import GoSem.ClaimMapViews
import Derived.JoinedTies
import Derived.KernelRfl
namespace Go.Proofs.Ytjhfcnkmfbpjmaa
/- THE CELL 'sum', in the pinned program and in every row, IS THE sha256 OF THE DUMP (.gsa) THAT YtjhfcnkmfbpjmaaProg.lean LOADS. Nothing in Lean hashes anything: it is a label: what it is worth is what the hold of that sum in a sandbox is worth. -/
noncomputable def Try.pinned : Pinned := { name := "ytjhfcnkmfbpjmaa", sum := "0657a9c06593c38d1e89c6c6c19824b7bee31d50ac34259b894eaea0b05e8794", checked := Try.checked }
namespace Rows
def none {H : Type} : Left H := { results := [], args := [] }

/-- 'tableaulaw19.StackRounds': WHATEVER THE INPUT: true; the input reads as it did. -/
def stackRoundsSpec : ChangeSpec := { name := "stackRounds", fn := fun _ => fun
  | [d] => { results := [.lit (.bool true)], args := [d] }
  | _ => none }
def stackRoundsRow : OpenClaim := { program := "ytjhfcnkmfbpjmaa", sum := "0657a9c06593c38d1e89c6c6c19824b7bee31d50ac34259b894eaea0b05e8794", func := "tableau/tableaulaw19.StackRounds", spec := "stackRounds", unfollowed := true, recurses := true, apart := false }
def StackRoundsSaid : Prop := stackRoundsRow.holds Try.pinned (OpenSpec.ofChange stackRoundsSpec)

/-- ITS FALSE NEIGHBOUR: 'it returns false'. Refute it at one input. -/
def stackRoundsWrong : ChangeSpec := { name := "stackRounds", fn := fun _ => fun
  | [d] => { results := [.lit (.bool false)], args := [d] }
  | _ => none }
def StackRoundsWrongFalsely : Prop := stackRoundsRow.holds Try.pinned (OpenSpec.ofChange stackRoundsWrong)

/-- 'tableaulaw19.StackPlays': WHATEVER THE INPUT: true; the input reads as it did. -/
def stackPlaysSpec : ChangeSpec := { name := "stackPlays", fn := fun _ => fun
  | [d1, d2] => { results := [.lit (.bool true)], args := [d1, d2] }
  | _ => none }
def stackPlaysRow : OpenClaim := { program := "ytjhfcnkmfbpjmaa", sum := "0657a9c06593c38d1e89c6c6c19824b7bee31d50ac34259b894eaea0b05e8794", func := "tableau/tableaulaw19.StackPlays", spec := "stackPlays", unfollowed := true, recurses := true, apart := false }
def StackPlaysSaid : Prop := stackPlaysRow.holds Try.pinned (OpenSpec.ofChange stackPlaysSpec)

/-- ITS FALSE NEIGHBOUR: 'it returns false'. Refute it at one input. -/
def stackPlaysWrong : ChangeSpec := { name := "stackPlays", fn := fun _ => fun
  | [d1, d2] => { results := [.lit (.bool false)], args := [d1, d2] }
  | _ => none }
def StackPlaysWrongFalsely : Prop := stackPlaysRow.holds Try.pinned (OpenSpec.ofChange stackPlaysWrong)

/-- 'tableaulaw19.StackDrops': WHATEVER THE INPUT: true; the input reads as it did. -/
def stackDropsSpec : ChangeSpec := { name := "stackDrops", fn := fun _ => fun
  | [d1, d2] => { results := [.lit (.bool true)], args := [d1, d2] }
  | _ => none }
def stackDropsRow : OpenClaim := { program := "ytjhfcnkmfbpjmaa", sum := "0657a9c06593c38d1e89c6c6c19824b7bee31d50ac34259b894eaea0b05e8794", func := "tableau/tableaulaw19.StackDrops", spec := "stackDrops", unfollowed := true, recurses := true, apart := false }
def StackDropsSaid : Prop := stackDropsRow.holds Try.pinned (OpenSpec.ofChange stackDropsSpec)

/-- ITS FALSE NEIGHBOUR: 'it returns false'. Refute it at one input. -/
def stackDropsWrong : ChangeSpec := { name := "stackDrops", fn := fun _ => fun
  | [d1, d2] => { results := [.lit (.bool false)], args := [d1, d2] }
  | _ => none }
def StackDropsWrongFalsely : Prop := stackDropsRow.holds Try.pinned (OpenSpec.ofChange stackDropsWrong)

/- THE SECOND FORM. 'bulk': how many values and letters a reading holds, each counted each time it is reached (what is shared counts as often as it is met; a slice's spare places count too). A statement '..UptoSaid' is the law's where the arguments, and the package variables that the reading takes, are together of bulk at most 1048576: NARROWER than '..Said'. Prove '..Said' where nothing that the law and all that it calls make is longer than what came in: it says more and counts as full. Else prove '..UptoSaid'. A law counts once. -/
mutual
def uptoBulk {H : Type} : DataW H → Nat
  | .lit (.string bytes) => bytes.length + 1
  | .lit _ => 1
  | .nil => 1
  | .ptr d => uptoBulk d + 1
  | .slice elems spare => uptoBulkAll elems + uptoBulkAll spare + 1
  | .agg parts => uptoBulkAll parts + 1
  | .iface _ d => uptoBulk d + 1
  | .map entries => uptoBulkEntries entries + 1
  | .held _ => 1
def uptoBulkAll {H : Type} : List (DataW H) → Nat
  | [] => 0
  | d :: r => uptoBulk d + uptoBulkAll r
def uptoBulkEntries {H : Type} : List (Lit × DataW H) → Nat
  | [] => 0
  | x :: r => uptoBulkEntry x + uptoBulkEntries r
def uptoBulkEntry {H : Type} : Lit × DataW H → Nat
  | (.string bytes, d) => bytes.length + uptoBulk d + 1
  | (_, d) => uptoBulk d + 1
 end
def uptoSmall : (H : Type) → List (DataW H) → Bool := fun _ ds => decide (uptoBulkAll ds ≤ 1048576)
def OpenSpec.upto (s : _root_.Go.ChangeSpec) : _root_.Go.OpenSpec := { _root_.Go.OpenSpec.ofChange s with cond := some uptoSmall }

/-- 'tableaulaw19.StackRounds', WHERE WHAT IT READS IS OF BULK AT MOST 1048576: true; the input reads as it did. -/
def stackRoundsUptoRow : OpenClaim := { program := "ytjhfcnkmfbpjmaa", sum := "0657a9c06593c38d1e89c6c6c19824b7bee31d50ac34259b894eaea0b05e8794", func := "tableau/tableaulaw19.StackRounds", spec := "stackRounds", unfollowed := true, recurses := true, apart := false, narrowed := true }
def StackRoundsUptoSaid : Prop := stackRoundsUptoRow.holds Try.pinned (OpenSpec.upto stackRoundsSpec)

/-- 'tableaulaw19.StackPlays', WHERE WHAT IT READS IS OF BULK AT MOST 1048576: true; the input reads as it did. -/
def stackPlaysUptoRow : OpenClaim := { program := "ytjhfcnkmfbpjmaa", sum := "0657a9c06593c38d1e89c6c6c19824b7bee31d50ac34259b894eaea0b05e8794", func := "tableau/tableaulaw19.StackPlays", spec := "stackPlays", unfollowed := true, recurses := true, apart := false, narrowed := true }
def StackPlaysUptoSaid : Prop := stackPlaysUptoRow.holds Try.pinned (OpenSpec.upto stackPlaysSpec)

/-- 'tableaulaw19.StackDrops', WHERE WHAT IT READS IS OF BULK AT MOST 1048576: true; the input reads as it did. -/
def stackDropsUptoRow : OpenClaim := { program := "ytjhfcnkmfbpjmaa", sum := "0657a9c06593c38d1e89c6c6c19824b7bee31d50ac34259b894eaea0b05e8794", func := "tableau/tableaulaw19.StackDrops", spec := "stackDrops", unfollowed := true, recurses := true, apart := false, narrowed := true }
def StackDropsUptoSaid : Prop := stackDropsUptoRow.holds Try.pinned (OpenSpec.upto stackDropsSpec)

end Rows
end Go.Proofs.Ytjhfcnkmfbpjmaa
