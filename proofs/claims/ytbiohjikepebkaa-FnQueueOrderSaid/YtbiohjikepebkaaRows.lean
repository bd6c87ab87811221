/-
  No cell of these rows narrows 'for every input' (looked for: loops, veiled, ifaces, maps, wideKeys, modest, calm, conditions, laid).
  DERIVED. THE GIVEN ROWS OF THIS SEAT. 14 by the template 'for every input the law returns true; each argument reads behind the call as it read before'; 0 by the template 'total and deterministic' (their statements: YtbiohjikepebkaaTotals.lean).
  GIVEN WITH THE SEED: the statements are not yours to turn. If you find one false, say at which input.
  Laid BY PROGRAM, IN A SANDBOX (cutbox-rows.mjs): the forced cells as the released guide's own fill.sh prints them over the translation 1604e2189246d022… (all of the seat's roots in one cut). By AI agents, Wed Nov 11 2026. No macro, syntax, notation, axiom, sorry.
-/
import Derived.Test.YtbiohjikepebkaaChecked
import GoSem.Claim
import GoSem.ClaimJoined
import GoSem.ClaimMapViews
import Derived.JoinedTies
import Derived.KernelRfl
namespace Go.Proofs.Ytbiohjikepebkaa
/- THE CELL 'sum', in the pinned program and in every row, IS THE sha256 OF THE DUMP (.gsa) THAT YtbiohjikepebkaaProg.lean LOADS. Nothing in Lean hashes anything: it is a label: what it is worth is what the hold of that sum in a sandbox is worth. -/
noncomputable def Try.pinned : Pinned := { name := "ytbiohjikepebkaa", sum := "1604e2189246d02252628dd0d6232930dcd17551a50f8548e24c70d72ba059e3", checked := Try.checked }
namespace Rows
def none {H : Type} : Left H := { results := [], args := [] }

/-- 'laws.FnNewQueues': WHATEVER THE INPUT: true; the input reads as it did. -/
def fnNewQueuesSpec : ChangeSpec := { name := "fnNewQueues", fn := fun _ => fun
  | [d] => { results := [.lit (.bool true)], args := [d] }
  | _ => none }
def fnNewQueuesRow : OpenClaim := { program := "ytbiohjikepebkaa", sum := "1604e2189246d02252628dd0d6232930dcd17551a50f8548e24c70d72ba059e3", func := "loop.example/capkernel/laws.FnNewQueues", spec := "fnNewQueues", unfollowed := true, recurses := true, apart := false }
def FnNewQueuesSaid : Prop := fnNewQueuesRow.holds Try.pinned (OpenSpec.ofChange fnNewQueuesSpec)

/-- ITS FALSE NEIGHBOUR: 'it returns false'. Refute it at one input. -/
def fnNewQueuesWrong : ChangeSpec := { name := "fnNewQueues", fn := fun _ => fun
  | [d] => { results := [.lit (.bool false)], args := [d] }
  | _ => none }
def FnNewQueuesWrongFalsely : Prop := fnNewQueuesRow.holds Try.pinned (OpenSpec.ofChange fnNewQueuesWrong)

/-- 'laws.FnExactReadyAdd': WHATEVER THE INPUT: true; the input reads as it did. -/
def fnExactReadyAddSpec : ChangeSpec := { name := "fnExactReadyAdd", fn := fun _ => fun
  | [d1, d2, d3] => { results := [.lit (.bool true)], args := [d1, d2, d3] }
  | _ => none }
def fnExactReadyAddRow : OpenClaim := { program := "ytbiohjikepebkaa", sum := "1604e2189246d02252628dd0d6232930dcd17551a50f8548e24c70d72ba059e3", func := "loop.example/capkernel/laws.FnExactReadyAdd", spec := "fnExactReadyAdd", unfollowed := true, recurses := true, apart := false }
def FnExactReadyAddSaid : Prop := fnExactReadyAddRow.holds Try.pinned (OpenSpec.ofChange fnExactReadyAddSpec)

/-- ITS FALSE NEIGHBOUR: 'it returns false'. Refute it at one input. -/
def fnExactReadyAddWrong : ChangeSpec := { name := "fnExactReadyAdd", fn := fun _ => fun
  | [d1, d2, d3] => { results := [.lit (.bool false)], args := [d1, d2, d3] }
  | _ => none }
def FnExactReadyAddWrongFalsely : Prop := fnExactReadyAddRow.holds Try.pinned (OpenSpec.ofChange fnExactReadyAddWrong)

/-- 'laws.FnExactReadyTurn': WHATEVER THE INPUT: true; the input reads as it did. -/
def fnExactReadyTurnSpec : ChangeSpec := { name := "fnExactReadyTurn", fn := fun _ => fun
  | [d] => { results := [.lit (.bool true)], args := [d] }
  | _ => none }
def fnExactReadyTurnRow : OpenClaim := { program := "ytbiohjikepebkaa", sum := "1604e2189246d02252628dd0d6232930dcd17551a50f8548e24c70d72ba059e3", func := "loop.example/capkernel/laws.FnExactReadyTurn", spec := "fnExactReadyTurn", apart := false }
def FnExactReadyTurnSaid : Prop := fnExactReadyTurnRow.holds Try.pinned (OpenSpec.ofChange fnExactReadyTurnSpec)

/-- ITS FALSE NEIGHBOUR: 'it returns false'. Refute it at one input. -/
def fnExactReadyTurnWrong : ChangeSpec := { name := "fnExactReadyTurn", fn := fun _ => fun
  | [d] => { results := [.lit (.bool false)], args := [d] }
  | _ => none }
def FnExactReadyTurnWrongFalsely : Prop := fnExactReadyTurnRow.holds Try.pinned (OpenSpec.ofChange fnExactReadyTurnWrong)

/-- 'laws.FnExactRunTurns': WHATEVER THE INPUT: true; the input reads as it did. -/
def fnExactRunTurnsSpec : ChangeSpec := { name := "fnExactRunTurns", fn := fun _ => fun
  | [d1, d2] => { results := [.lit (.bool true)], args := [d1, d2] }
  | _ => none }
def fnExactRunTurnsRow : OpenClaim := { program := "ytbiohjikepebkaa", sum := "1604e2189246d02252628dd0d6232930dcd17551a50f8548e24c70d72ba059e3", func := "loop.example/capkernel/laws.FnExactRunTurns", spec := "fnExactRunTurns", apart := false }
def FnExactRunTurnsSaid : Prop := fnExactRunTurnsRow.holds Try.pinned (OpenSpec.ofChange fnExactRunTurnsSpec)

/-- ITS FALSE NEIGHBOUR: 'it returns false'. Refute it at one input. -/
def fnExactRunTurnsWrong : ChangeSpec := { name := "fnExactRunTurns", fn := fun _ => fun
  | [d1, d2] => { results := [.lit (.bool false)], args := [d1, d2] }
  | _ => none }
def FnExactRunTurnsWrongFalsely : Prop := fnExactRunTurnsRow.holds Try.pinned (OpenSpec.ofChange fnExactRunTurnsWrong)

/-- 'laws.FnExactTurnsOf': WHATEVER THE INPUT: true; the input reads as it did. -/
def fnExactTurnsOfSpec : ChangeSpec := { name := "fnExactTurnsOf", fn := fun _ => fun
  | [d1, d2, d3] => { results := [.lit (.bool true)], args := [d1, d2, d3] }
  | _ => none }
def fnExactTurnsOfRow : OpenClaim := { program := "ytbiohjikepebkaa", sum := "1604e2189246d02252628dd0d6232930dcd17551a50f8548e24c70d72ba059e3", func := "loop.example/capkernel/laws.FnExactTurnsOf", spec := "fnExactTurnsOf", apart := false }
def FnExactTurnsOfSaid : Prop := fnExactTurnsOfRow.holds Try.pinned (OpenSpec.ofChange fnExactTurnsOfSpec)

/-- ITS FALSE NEIGHBOUR: 'it returns false'. Refute it at one input. -/
def fnExactTurnsOfWrong : ChangeSpec := { name := "fnExactTurnsOf", fn := fun _ => fun
  | [d1, d2, d3] => { results := [.lit (.bool false)], args := [d1, d2, d3] }
  | _ => none }
def FnExactTurnsOfWrongFalsely : Prop := fnExactTurnsOfRow.holds Try.pinned (OpenSpec.ofChange fnExactTurnsOfWrong)

/-- 'laws.FnExactReadyRemove': WHATEVER THE INPUT: true; the input reads as it did. -/
def fnExactReadyRemoveSpec : ChangeSpec := { name := "fnExactReadyRemove", fn := fun _ => fun
  | [d1, d2] => { results := [.lit (.bool true)], args := [d1, d2] }
  | _ => none }
def fnExactReadyRemoveRow : OpenClaim := { program := "ytbiohjikepebkaa", sum := "1604e2189246d02252628dd0d6232930dcd17551a50f8548e24c70d72ba059e3", func := "loop.example/capkernel/laws.FnExactReadyRemove", spec := "fnExactReadyRemove", unfollowed := true, recurses := true, apart := false }
def FnExactReadyRemoveSaid : Prop := fnExactReadyRemoveRow.holds Try.pinned (OpenSpec.ofChange fnExactReadyRemoveSpec)

/-- ITS FALSE NEIGHBOUR: 'it returns false'. Refute it at one input. -/
def fnExactReadyRemoveWrong : ChangeSpec := { name := "fnExactReadyRemove", fn := fun _ => fun
  | [d1, d2] => { results := [.lit (.bool false)], args := [d1, d2] }
  | _ => none }
def FnExactReadyRemoveWrongFalsely : Prop := fnExactReadyRemoveRow.holds Try.pinned (OpenSpec.ofChange fnExactReadyRemoveWrong)

/-- 'laws.FnReadyAdd': WHATEVER THE INPUT: true; the input reads as it did. -/
def fnReadyAddSpec : ChangeSpec := { name := "fnReadyAdd", fn := fun _ => fun
  | [d] => { results := [.lit (.bool true)], args := [d] }
  | _ => none }
def fnReadyAddRow : OpenClaim := { program := "ytbiohjikepebkaa", sum := "1604e2189246d02252628dd0d6232930dcd17551a50f8548e24c70d72ba059e3", func := "loop.example/capkernel/laws.FnReadyAdd", spec := "fnReadyAdd", inPlace := ["internal/abi.NoEscape"], unfollowed := true, recurses := true, apart := false }
def FnReadyAddSaid : Prop := fnReadyAddRow.holds Try.pinned (OpenSpec.ofChange fnReadyAddSpec)

/-- ITS FALSE NEIGHBOUR: 'it returns false'. Refute it at one input. -/
def fnReadyAddWrong : ChangeSpec := { name := "fnReadyAdd", fn := fun _ => fun
  | [d] => { results := [.lit (.bool false)], args := [d] }
  | _ => none }
def FnReadyAddWrongFalsely : Prop := fnReadyAddRow.holds Try.pinned (OpenSpec.ofChange fnReadyAddWrong)

/-- 'laws.FnReadyTurn': WHATEVER THE INPUT: true; the input reads as it did. -/
def fnReadyTurnSpec : ChangeSpec := { name := "fnReadyTurn", fn := fun _ => fun
  | [d] => { results := [.lit (.bool true)], args := [d] }
  | _ => none }
def fnReadyTurnRow : OpenClaim := { program := "ytbiohjikepebkaa", sum := "1604e2189246d02252628dd0d6232930dcd17551a50f8548e24c70d72ba059e3", func := "loop.example/capkernel/laws.FnReadyTurn", spec := "fnReadyTurn", inPlace := ["internal/abi.NoEscape"], unfollowed := true, recurses := true, apart := false }
def FnReadyTurnSaid : Prop := fnReadyTurnRow.holds Try.pinned (OpenSpec.ofChange fnReadyTurnSpec)

/-- ITS FALSE NEIGHBOUR: 'it returns false'. Refute it at one input. -/
def fnReadyTurnWrong : ChangeSpec := { name := "fnReadyTurn", fn := fun _ => fun
  | [d] => { results := [.lit (.bool false)], args := [d] }
  | _ => none }
def FnReadyTurnWrongFalsely : Prop := fnReadyTurnRow.holds Try.pinned (OpenSpec.ofChange fnReadyTurnWrong)

/-- 'laws.FnQueueFirst': WHATEVER THE INPUT: true; the input reads as it did. -/
def fnQueueFirstSpec : ChangeSpec := { name := "fnQueueFirst", fn := fun _ => fun
  | [d] => { results := [.lit (.bool true)], args := [d] }
  | _ => none }
def fnQueueFirstRow : OpenClaim := { program := "ytbiohjikepebkaa", sum := "1604e2189246d02252628dd0d6232930dcd17551a50f8548e24c70d72ba059e3", func := "loop.example/capkernel/laws.FnQueueFirst", spec := "fnQueueFirst", inPlace := ["internal/abi.NoEscape"], unfollowed := true, recurses := true, apart := false }
def FnQueueFirstSaid : Prop := fnQueueFirstRow.holds Try.pinned (OpenSpec.ofChange fnQueueFirstSpec)

/-- ITS FALSE NEIGHBOUR: 'it returns false'. Refute it at one input. -/
def fnQueueFirstWrong : ChangeSpec := { name := "fnQueueFirst", fn := fun _ => fun
  | [d] => { results := [.lit (.bool false)], args := [d] }
  | _ => none }
def FnQueueFirstWrongFalsely : Prop := fnQueueFirstRow.holds Try.pinned (OpenSpec.ofChange fnQueueFirstWrong)

/-- 'laws.FnLongestWait': WHATEVER THE INPUT: true; the input reads as it did. -/
def fnLongestWaitSpec : ChangeSpec := { name := "fnLongestWait", fn := fun _ => fun
  | [d] => { results := [.lit (.bool true)], args := [d] }
  | _ => none }
def fnLongestWaitRow : OpenClaim := { program := "ytbiohjikepebkaa", sum := "1604e2189246d02252628dd0d6232930dcd17551a50f8548e24c70d72ba059e3", func := "loop.example/capkernel/laws.FnLongestWait", spec := "fnLongestWait", inPlace := ["internal/abi.NoEscape"], unfollowed := true, recurses := true, apart := false }
def FnLongestWaitSaid : Prop := fnLongestWaitRow.holds Try.pinned (OpenSpec.ofChange fnLongestWaitSpec)

/-- ITS FALSE NEIGHBOUR: 'it returns false'. Refute it at one input. -/
def fnLongestWaitWrong : ChangeSpec := { name := "fnLongestWait", fn := fun _ => fun
  | [d] => { results := [.lit (.bool false)], args := [d] }
  | _ => none }
def FnLongestWaitWrongFalsely : Prop := fnLongestWaitRow.holds Try.pinned (OpenSpec.ofChange fnLongestWaitWrong)

/-- 'laws.FnQueueOrder': WHATEVER THE INPUT: true; the input reads as it did. -/
def fnQueueOrderSpec : ChangeSpec := { name := "fnQueueOrder", fn := fun _ => fun
  | [d1, d2] => { results := [.lit (.bool true)], args := [d1, d2] }
  | _ => none }
def fnQueueOrderRow : OpenClaim := { program := "ytbiohjikepebkaa", sum := "1604e2189246d02252628dd0d6232930dcd17551a50f8548e24c70d72ba059e3", func := "loop.example/capkernel/laws.FnQueueOrder", spec := "fnQueueOrder", inPlace := ["internal/abi.NoEscape"], unfollowed := true, recurses := true, apart := false }
def FnQueueOrderSaid : Prop := fnQueueOrderRow.holds Try.pinned (OpenSpec.ofChange fnQueueOrderSpec)

/-- ITS FALSE NEIGHBOUR: 'it returns false'. Refute it at one input. -/
def fnQueueOrderWrong : ChangeSpec := { name := "fnQueueOrder", fn := fun _ => fun
  | [d1, d2] => { results := [.lit (.bool false)], args := [d1, d2] }
  | _ => none }
def FnQueueOrderWrongFalsely : Prop := fnQueueOrderRow.holds Try.pinned (OpenSpec.ofChange fnQueueOrderWrong)

/-- 'laws.FnRunTurns': WHATEVER THE INPUT: true; the input reads as it did. -/
def fnRunTurnsSpec : ChangeSpec := { name := "fnRunTurns", fn := fun _ => fun
  | [d] => { results := [.lit (.bool true)], args := [d] }
  | _ => none }
def fnRunTurnsRow : OpenClaim := { program := "ytbiohjikepebkaa", sum := "1604e2189246d02252628dd0d6232930dcd17551a50f8548e24c70d72ba059e3", func := "loop.example/capkernel/laws.FnRunTurns", spec := "fnRunTurns", inPlace := ["internal/abi.NoEscape"], unfollowed := true, recurses := true, apart := false }
def FnRunTurnsSaid : Prop := fnRunTurnsRow.holds Try.pinned (OpenSpec.ofChange fnRunTurnsSpec)

/-- ITS FALSE NEIGHBOUR: 'it returns false'. Refute it at one input. -/
def fnRunTurnsWrong : ChangeSpec := { name := "fnRunTurns", fn := fun _ => fun
  | [d] => { results := [.lit (.bool false)], args := [d] }
  | _ => none }
def FnRunTurnsWrongFalsely : Prop := fnRunTurnsRow.holds Try.pinned (OpenSpec.ofChange fnRunTurnsWrong)

/-- 'laws.FnReadyRemove': WHATEVER THE INPUT: true; the input reads as it did. -/
def fnReadyRemoveSpec : ChangeSpec := { name := "fnReadyRemove", fn := fun _ => fun
  | [d] => { results := [.lit (.bool true)], args := [d] }
  | _ => none }
def fnReadyRemoveRow : OpenClaim := { program := "ytbiohjikepebkaa", sum := "1604e2189246d02252628dd0d6232930dcd17551a50f8548e24c70d72ba059e3", func := "loop.example/capkernel/laws.FnReadyRemove", spec := "fnReadyRemove", inPlace := ["internal/abi.NoEscape"], unfollowed := true, recurses := true, apart := false }
def FnReadyRemoveSaid : Prop := fnReadyRemoveRow.holds Try.pinned (OpenSpec.ofChange fnReadyRemoveSpec)

/-- ITS FALSE NEIGHBOUR: 'it returns false'. Refute it at one input. -/
def fnReadyRemoveWrong : ChangeSpec := { name := "fnReadyRemove", fn := fun _ => fun
  | [d] => { results := [.lit (.bool false)], args := [d] }
  | _ => none }
def FnReadyRemoveWrongFalsely : Prop := fnReadyRemoveRow.holds Try.pinned (OpenSpec.ofChange fnReadyRemoveWrong)

/-- 'laws.FnTurnsOf': WHATEVER THE INPUT: true; the input reads as it did. -/
def fnTurnsOfSpec : ChangeSpec := { name := "fnTurnsOf", fn := fun _ => fun
  | [d] => { results := [.lit (.bool true)], args := [d] }
  | _ => none }
def fnTurnsOfRow : OpenClaim := { program := "ytbiohjikepebkaa", sum := "1604e2189246d02252628dd0d6232930dcd17551a50f8548e24c70d72ba059e3", func := "loop.example/capkernel/laws.FnTurnsOf", spec := "fnTurnsOf", inPlace := ["internal/abi.NoEscape"], unfollowed := true, recurses := true, apart := false }
def FnTurnsOfSaid : Prop := fnTurnsOfRow.holds Try.pinned (OpenSpec.ofChange fnTurnsOfSpec)

/-- ITS FALSE NEIGHBOUR: 'it returns false'. Refute it at one input. -/
def fnTurnsOfWrong : ChangeSpec := { name := "fnTurnsOf", fn := fun _ => fun
  | [d] => { results := [.lit (.bool false)], args := [d] }
  | _ => none }
def FnTurnsOfWrongFalsely : Prop := fnTurnsOfRow.holds Try.pinned (OpenSpec.ofChange fnTurnsOfWrong)

/- THE SECOND FORM. 'bulk': how many values and letters a reading holds, each counted each time it is reached (what is shared counts as often as it is met; a slice's spare places count too). A statement '..UptoSaid' is the law's where the arguments, and the package variables that the reading takes, are together of bulk at most 1048576: NARROWER than '..Said'. Prove '..Said' where nothing that the law and all that it calls make is longer than what came in: it says more and counts as full. Else prove '..UptoSaid'. A law counts once. -/
mutual
def uptoBulk {H : Type} : DataW H → Nat
  | .lit (.string bytes) => bytes.length + 1
  | .lit _ => 1
  | .nil => 1
  | .ptr d => uptoBulk d + 1
  | .slice elems spare => uptoBulkAll elems + uptoBulkAll spare + 1
  | .agg parts => uptoBulkAll parts + 1
  | .iface _ d => uptoBulk d + 1
  | .map entries => uptoBulkEntries entries + 1
  | .held _ => 1
def uptoBulkAll {H : Type} : List (DataW H) → Nat
  | [] => 0
  | d :: r => uptoBulk d + uptoBulkAll r
def uptoBulkEntries {H : Type} : List (Lit × DataW H) → Nat
  | [] => 0
  | x :: r => uptoBulkEntry x + uptoBulkEntries r
def uptoBulkEntry {H : Type} : Lit × DataW H → Nat
  | (.string bytes, d) => bytes.length + uptoBulk d + 1
  | (_, d) => uptoBulk d + 1
 end
def uptoSmall : (H : Type) → List (DataW H) → Bool := fun _ ds => decide (uptoBulkAll ds ≤ 1048576)
def OpenSpec.upto (s : _root_.Go.ChangeSpec) : _root_.Go.OpenSpec := { _root_.Go.OpenSpec.ofChange s with cond := some uptoSmall }

/-- 'laws.FnNewQueues', WHERE WHAT IT READS IS OF BULK AT MOST 1048576: true; the input reads as it did. -/
def fnNewQueuesUptoRow : OpenClaim := { program := "ytbiohjikepebkaa", sum := "1604e2189246d02252628dd0d6232930dcd17551a50f8548e24c70d72ba059e3", func := "loop.example/capkernel/laws.FnNewQueues", spec := "fnNewQueues", unfollowed := true, recurses := true, apart := false, narrowed := true }
def FnNewQueuesUptoSaid : Prop := fnNewQueuesUptoRow.holds Try.pinned (OpenSpec.upto fnNewQueuesSpec)

/-- 'laws.FnExactReadyAdd', WHERE WHAT IT READS IS OF BULK AT MOST 1048576: true; the input reads as it did. -/
def fnExactReadyAddUptoRow : OpenClaim := { program := "ytbiohjikepebkaa", sum := "1604e2189246d02252628dd0d6232930dcd17551a50f8548e24c70d72ba059e3", func := "loop.example/capkernel/laws.FnExactReadyAdd", spec := "fnExactReadyAdd", unfollowed := true, recurses := true, apart := false, narrowed := true }
def FnExactReadyAddUptoSaid : Prop := fnExactReadyAddUptoRow.holds Try.pinned (OpenSpec.upto fnExactReadyAddSpec)

/-- 'laws.FnExactReadyTurn', WHERE WHAT IT READS IS OF BULK AT MOST 1048576: true; the input reads as it did. -/
def fnExactReadyTurnUptoRow : OpenClaim := { program := "ytbiohjikepebkaa", sum := "1604e2189246d02252628dd0d6232930dcd17551a50f8548e24c70d72ba059e3", func := "loop.example/capkernel/laws.FnExactReadyTurn", spec := "fnExactReadyTurn", apart := false, narrowed := true }
def FnExactReadyTurnUptoSaid : Prop := fnExactReadyTurnUptoRow.holds Try.pinned (OpenSpec.upto fnExactReadyTurnSpec)

/-- 'laws.FnExactRunTurns', WHERE WHAT IT READS IS OF BULK AT MOST 1048576: true; the input reads as it did. -/
def fnExactRunTurnsUptoRow : OpenClaim := { program := "ytbiohjikepebkaa", sum := "1604e2189246d02252628dd0d6232930dcd17551a50f8548e24c70d72ba059e3", func := "loop.example/capkernel/laws.FnExactRunTurns", spec := "fnExactRunTurns", apart := false, narrowed := true }
def FnExactRunTurnsUptoSaid : Prop := fnExactRunTurnsUptoRow.holds Try.pinned (OpenSpec.upto fnExactRunTurnsSpec)

/-- 'laws.FnExactTurnsOf', WHERE WHAT IT READS IS OF BULK AT MOST 1048576: true; the input reads as it did. -/
def fnExactTurnsOfUptoRow : OpenClaim := { program := "ytbiohjikepebkaa", sum := "1604e2189246d02252628dd0d6232930dcd17551a50f8548e24c70d72ba059e3", func := "loop.example/capkernel/laws.FnExactTurnsOf", spec := "fnExactTurnsOf", apart := false, narrowed := true }
def FnExactTurnsOfUptoSaid : Prop := fnExactTurnsOfUptoRow.holds Try.pinned (OpenSpec.upto fnExactTurnsOfSpec)

/-- 'laws.FnExactReadyRemove', WHERE WHAT IT READS IS OF BULK AT MOST 1048576: true; the input reads as it did. -/
def fnExactReadyRemoveUptoRow : OpenClaim := { program := "ytbiohjikepebkaa", sum := "1604e2189246d02252628dd0d6232930dcd17551a50f8548e24c70d72ba059e3", func := "loop.example/capkernel/laws.FnExactReadyRemove", spec := "fnExactReadyRemove", unfollowed := true, recurses := true, apart := false, narrowed := true }
def FnExactReadyRemoveUptoSaid : Prop := fnExactReadyRemoveUptoRow.holds Try.pinned (OpenSpec.upto fnExactReadyRemoveSpec)

/-- 'laws.FnReadyAdd', WHERE WHAT IT READS IS OF BULK AT MOST 1048576: true; the input reads as it did. -/
def fnReadyAddUptoRow : OpenClaim := { program := "ytbiohjikepebkaa", sum := "1604e2189246d02252628dd0d6232930dcd17551a50f8548e24c70d72ba059e3", func := "loop.example/capkernel/laws.FnReadyAdd", spec := "fnReadyAdd", inPlace := ["internal/abi.NoEscape"], unfollowed := true, recurses := true, apart := false, narrowed := true }
def FnReadyAddUptoSaid : Prop := fnReadyAddUptoRow.holds Try.pinned (OpenSpec.upto fnReadyAddSpec)

/-- 'laws.FnReadyTurn', WHERE WHAT IT READS IS OF BULK AT MOST 1048576: true; the input reads as it did. -/
def fnReadyTurnUptoRow : OpenClaim := { program := "ytbiohjikepebkaa", sum := "1604e2189246d02252628dd0d6232930dcd17551a50f8548e24c70d72ba059e3", func := "loop.example/capkernel/laws.FnReadyTurn", spec := "fnReadyTurn", inPlace := ["internal/abi.NoEscape"], unfollowed := true, recurses := true, apart := false, narrowed := true }
def FnReadyTurnUptoSaid : Prop := fnReadyTurnUptoRow.holds Try.pinned (OpenSpec.upto fnReadyTurnSpec)

/-- 'laws.FnQueueFirst', WHERE WHAT IT READS IS OF BULK AT MOST 1048576: true; the input reads as it did. -/
def fnQueueFirstUptoRow : OpenClaim := { program := "ytbiohjikepebkaa", sum := "1604e2189246d02252628dd0d6232930dcd17551a50f8548e24c70d72ba059e3", func := "loop.example/capkernel/laws.FnQueueFirst", spec := "fnQueueFirst", inPlace := ["internal/abi.NoEscape"], unfollowed := true, recurses := true, apart := false, narrowed := true }
def FnQueueFirstUptoSaid : Prop := fnQueueFirstUptoRow.holds Try.pinned (OpenSpec.upto fnQueueFirstSpec)

/-- 'laws.FnLongestWait', WHERE WHAT IT READS IS OF BULK AT MOST 1048576: true; the input reads as it did. -/
def fnLongestWaitUptoRow : OpenClaim := { program := "ytbiohjikepebkaa", sum := "1604e2189246d02252628dd0d6232930dcd17551a50f8548e24c70d72ba059e3", func := "loop.example/capkernel/laws.FnLongestWait", spec := "fnLongestWait", inPlace := ["internal/abi.NoEscape"], unfollowed := true, recurses := true, apart := false, narrowed := true }
def FnLongestWaitUptoSaid : Prop := fnLongestWaitUptoRow.holds Try.pinned (OpenSpec.upto fnLongestWaitSpec)

/-- 'laws.FnQueueOrder', WHERE WHAT IT READS IS OF BULK AT MOST 1048576: true; the input reads as it did. -/
def fnQueueOrderUptoRow : OpenClaim := { program := "ytbiohjikepebkaa", sum := "1604e2189246d02252628dd0d6232930dcd17551a50f8548e24c70d72ba059e3", func := "loop.example/capkernel/laws.FnQueueOrder", spec := "fnQueueOrder", inPlace := ["internal/abi.NoEscape"], unfollowed := true, recurses := true, apart := false, narrowed := true }
def FnQueueOrderUptoSaid : Prop := fnQueueOrderUptoRow.holds Try.pinned (OpenSpec.upto fnQueueOrderSpec)

/-- 'laws.FnRunTurns', WHERE WHAT IT READS IS OF BULK AT MOST 1048576: true; the input reads as it did. -/
def fnRunTurnsUptoRow : OpenClaim := { program := "ytbiohjikepebkaa", sum := "1604e2189246d02252628dd0d6232930dcd17551a50f8548e24c70d72ba059e3", func := "loop.example/capkernel/laws.FnRunTurns", spec := "fnRunTurns", inPlace := ["internal/abi.NoEscape"], unfollowed := true, recurses := true, apart := false, narrowed := true }
def FnRunTurnsUptoSaid : Prop := fnRunTurnsUptoRow.holds Try.pinned (OpenSpec.upto fnRunTurnsSpec)

/-- 'laws.FnReadyRemove', WHERE WHAT IT READS IS OF BULK AT MOST 1048576: true; the input reads as it did. -/
def fnReadyRemoveUptoRow : OpenClaim := { program := "ytbiohjikepebkaa", sum := "1604e2189246d02252628dd0d6232930dcd17551a50f8548e24c70d72ba059e3", func := "loop.example/capkernel/laws.FnReadyRemove", spec := "fnReadyRemove", inPlace := ["internal/abi.NoEscape"], unfollowed := true, recurses := true, apart := false, narrowed := true }
def FnReadyRemoveUptoSaid : Prop := fnReadyRemoveUptoRow.holds Try.pinned (OpenSpec.upto fnReadyRemoveSpec)

/-- 'laws.FnTurnsOf', WHERE WHAT IT READS IS OF BULK AT MOST 1048576: true; the input reads as it did. -/
def fnTurnsOfUptoRow : OpenClaim := { program := "ytbiohjikepebkaa", sum := "1604e2189246d02252628dd0d6232930dcd17551a50f8548e24c70d72ba059e3", func := "loop.example/capkernel/laws.FnTurnsOf", spec := "fnTurnsOf", inPlace := ["internal/abi.NoEscape"], unfollowed := true, recurses := true, apart := false, narrowed := true }
def FnTurnsOfUptoSaid : Prop := fnTurnsOfUptoRow.holds Try.pinned (OpenSpec.upto fnTurnsOfSpec)

end Rows
end Go.Proofs.Ytbiohjikepebkaa
