/-
  No cell of these rows narrows 'for every input' (looked for: loops, veiled, ifaces, maps, wideKeys, modest, calm, conditions, laid).
  DERIVED. THE GIVEN ROWS OF THIS SEAT. 10 by the template 'for every input the law returns true; each argument reads behind the call as it read before'; 0 by the template 'total and deterministic' (their statements: YtabemkafgnhddaaTotals.lean).
  GIVEN WITH THE SEED: the statements are not yours to turn. If you find one false, say at which input.
  Laid BY PROGRAM, IN A SANDBOX (cutbox-rows.mjs): the forced cells as the released guide's own fill.sh prints them over the translation aeb8edef2c2153aa… (all of the seat's roots in one cut). By AI agents, Wed Nov 11 2026. No macro, syntax, notation, axiom, sorry.
-/
import Derived.Test.YtabemkafgnhddaaChecked
import GoSem.Claim
import GoSem.ClaimJoined
import GoSem.ClaimMapViews
import Derived.JoinedTies
import Derived.KernelRfl
namespace Go.Proofs.Ytabemkafgnhddaa
/- THE CELL 'sum', in the pinned program and in every row, IS THE sha256 OF THE DUMP (.gsa) THAT YtabemkafgnhddaaProg.lean LOADS. Nothing in Lean hashes anything: it is a label: what it is worth is what the hold of that sum in a sandbox is worth. -/
noncomputable def Try.pinned : Pinned := { name := "ytabemkafgnhddaa", sum := "aeb8edef2c2153aa89696f236ceadb71e06f8e486bd339ae3ffd30f124d6babd", checked := Try.checked }
namespace Rows
def none {H : Type} : Left H := { results := [], args := [] }

/-- 'laws.FnExactEndpointValid': WHATEVER THE INPUT: true; the input reads as it did. -/
def fnExactEndpointValidSpec : ChangeSpec := { name := "fnExactEndpointValid", fn := fun _ => fun
  | [d] => { results := [.lit (.bool true)], args := [d] }
  | _ => none }
def fnExactEndpointValidRow : OpenClaim := { program := "ytabemkafgnhddaa", sum := "aeb8edef2c2153aa89696f236ceadb71e06f8e486bd339ae3ffd30f124d6babd", func := "loop.example/capkernel/laws.FnExactEndpointValid", spec := "fnExactEndpointValid", unfollowed := true, recurses := true, apart := false }
def FnExactEndpointValidSaid : Prop := fnExactEndpointValidRow.holds Try.pinned (OpenSpec.ofChange fnExactEndpointValidSpec)

/-- ITS FALSE NEIGHBOUR: 'it returns false'. Refute it at one input. -/
def fnExactEndpointValidWrong : ChangeSpec := { name := "fnExactEndpointValid", fn := fun _ => fun
  | [d] => { results := [.lit (.bool false)], args := [d] }
  | _ => none }
def FnExactEndpointValidWrongFalsely : Prop := fnExactEndpointValidRow.holds Try.pinned (OpenSpec.ofChange fnExactEndpointValidWrong)

/-- 'laws.FnEndpointValid': WHATEVER THE INPUT: true; the input reads as it did. -/
def fnEndpointValidSpec : ChangeSpec := { name := "fnEndpointValid", fn := fun _ => fun
  | [d] => { results := [.lit (.bool true)], args := [d] }
  | _ => none }
def fnEndpointValidRow : OpenClaim := { program := "ytabemkafgnhddaa", sum := "aeb8edef2c2153aa89696f236ceadb71e06f8e486bd339ae3ffd30f124d6babd", func := "loop.example/capkernel/laws.FnEndpointValid", spec := "fnEndpointValid", inPlace := ["internal/abi.NoEscape"], unfollowed := true, recurses := true, apart := false }
def FnEndpointValidSaid : Prop := fnEndpointValidRow.holds Try.pinned (OpenSpec.ofChange fnEndpointValidSpec)

/-- ITS FALSE NEIGHBOUR: 'it returns false'. Refute it at one input. -/
def fnEndpointValidWrong : ChangeSpec := { name := "fnEndpointValid", fn := fun _ => fun
  | [d] => { results := [.lit (.bool false)], args := [d] }
  | _ => none }
def FnEndpointValidWrongFalsely : Prop := fnEndpointValidRow.holds Try.pinned (OpenSpec.ofChange fnEndpointValidWrong)

/-- 'laws.FnExactEndpointCancel': WHATEVER THE INPUT: true; the input reads as it did. -/
def fnExactEndpointCancelSpec : ChangeSpec := { name := "fnExactEndpointCancel", fn := fun _ => fun
  | [d1, d2] => { results := [.lit (.bool true)], args := [d1, d2] }
  | _ => none }
def fnExactEndpointCancelRow : OpenClaim := { program := "ytabemkafgnhddaa", sum := "aeb8edef2c2153aa89696f236ceadb71e06f8e486bd339ae3ffd30f124d6babd", func := "loop.example/capkernel/laws.FnExactEndpointCancel", spec := "fnExactEndpointCancel", unfollowed := true, recurses := true, apart := false }
def FnExactEndpointCancelSaid : Prop := fnExactEndpointCancelRow.holds Try.pinned (OpenSpec.ofChange fnExactEndpointCancelSpec)

/-- ITS FALSE NEIGHBOUR: 'it returns false'. Refute it at one input. -/
def fnExactEndpointCancelWrong : ChangeSpec := { name := "fnExactEndpointCancel", fn := fun _ => fun
  | [d1, d2] => { results := [.lit (.bool false)], args := [d1, d2] }
  | _ => none }
def FnExactEndpointCancelWrongFalsely : Prop := fnExactEndpointCancelRow.holds Try.pinned (OpenSpec.ofChange fnExactEndpointCancelWrong)

/-- 'laws.FnEndpointCancel': WHATEVER THE INPUT: true; the input reads as it did. -/
def fnEndpointCancelSpec : ChangeSpec := { name := "fnEndpointCancel", fn := fun _ => fun
  | [d] => { results := [.lit (.bool true)], args := [d] }
  | _ => none }
def fnEndpointCancelRow : OpenClaim := { program := "ytabemkafgnhddaa", sum := "aeb8edef2c2153aa89696f236ceadb71e06f8e486bd339ae3ffd30f124d6babd", func := "loop.example/capkernel/laws.FnEndpointCancel", spec := "fnEndpointCancel", inPlace := ["internal/abi.NoEscape"], unfollowed := true, recurses := true, apart := false }
def FnEndpointCancelSaid : Prop := fnEndpointCancelRow.holds Try.pinned (OpenSpec.ofChange fnEndpointCancelSpec)

/-- ITS FALSE NEIGHBOUR: 'it returns false'. Refute it at one input. -/
def fnEndpointCancelWrong : ChangeSpec := { name := "fnEndpointCancel", fn := fun _ => fun
  | [d] => { results := [.lit (.bool false)], args := [d] }
  | _ => none }
def FnEndpointCancelWrongFalsely : Prop := fnEndpointCancelRow.holds Try.pinned (OpenSpec.ofChange fnEndpointCancelWrong)

/-- 'laws.FnExactEndpointSend': WHATEVER THE INPUT: true; the input reads as it did. -/
def fnExactEndpointSendSpec : ChangeSpec := { name := "fnExactEndpointSend", fn := fun _ => fun
  | [d1, d2] => { results := [.lit (.bool true)], args := [d1, d2] }
  | _ => none }
def fnExactEndpointSendRow : OpenClaim := { program := "ytabemkafgnhddaa", sum := "aeb8edef2c2153aa89696f236ceadb71e06f8e486bd339ae3ffd30f124d6babd", func := "loop.example/capkernel/laws.FnExactEndpointSend", spec := "fnExactEndpointSend", inPlace := ["slices.overlaps[loop.example/capkernel/impl.Waiter]"], unfollowed := true, recurses := true, apart := false }
def FnExactEndpointSendSaid : Prop := fnExactEndpointSendRow.holds Try.pinned (OpenSpec.ofChange fnExactEndpointSendSpec)

/-- ITS FALSE NEIGHBOUR: 'it returns false'. Refute it at one input. -/
def fnExactEndpointSendWrong : ChangeSpec := { name := "fnExactEndpointSend", fn := fun _ => fun
  | [d1, d2] => { results := [.lit (.bool false)], args := [d1, d2] }
  | _ => none }
def FnExactEndpointSendWrongFalsely : Prop := fnExactEndpointSendRow.holds Try.pinned (OpenSpec.ofChange fnExactEndpointSendWrong)

/-- 'laws.FnExactEndpointTake': WHATEVER THE INPUT: true; the input reads as it did. -/
def fnExactEndpointTakeSpec : ChangeSpec := { name := "fnExactEndpointTake", fn := fun _ => fun
  | [d1, d2, d3] => { results := [.lit (.bool true)], args := [d1, d2, d3] }
  | _ => none }
def fnExactEndpointTakeRow : OpenClaim := { program := "ytabemkafgnhddaa", sum := "aeb8edef2c2153aa89696f236ceadb71e06f8e486bd339ae3ffd30f124d6babd", func := "loop.example/capkernel/laws.FnExactEndpointTake", spec := "fnExactEndpointTake", inPlace := ["slices.overlaps[loop.example/capkernel/impl.Waiter]"], unfollowed := true, recurses := true, apart := false }
def FnExactEndpointTakeSaid : Prop := fnExactEndpointTakeRow.holds Try.pinned (OpenSpec.ofChange fnExactEndpointTakeSpec)

/-- ITS FALSE NEIGHBOUR: 'it returns false'. Refute it at one input. -/
def fnExactEndpointTakeWrong : ChangeSpec := { name := "fnExactEndpointTake", fn := fun _ => fun
  | [d1, d2, d3] => { results := [.lit (.bool false)], args := [d1, d2, d3] }
  | _ => none }
def FnExactEndpointTakeWrongFalsely : Prop := fnExactEndpointTakeRow.holds Try.pinned (OpenSpec.ofChange fnExactEndpointTakeWrong)

/-- 'laws.FnEndpointOrder': WHATEVER THE INPUT: true; the input reads as it did. -/
def fnEndpointOrderSpec : ChangeSpec := { name := "fnEndpointOrder", fn := fun _ => fun
  | [d] => { results := [.lit (.bool true)], args := [d] }
  | _ => none }
def fnEndpointOrderRow : OpenClaim := { program := "ytabemkafgnhddaa", sum := "aeb8edef2c2153aa89696f236ceadb71e06f8e486bd339ae3ffd30f124d6babd", func := "loop.example/capkernel/laws.FnEndpointOrder", spec := "fnEndpointOrder", inPlace := ["slices.overlaps[loop.example/capkernel/impl.Waiter]", "internal/abi.NoEscape"], unfollowed := true, recurses := true, apart := false }
def FnEndpointOrderSaid : Prop := fnEndpointOrderRow.holds Try.pinned (OpenSpec.ofChange fnEndpointOrderSpec)

/-- ITS FALSE NEIGHBOUR: 'it returns false'. Refute it at one input. -/
def fnEndpointOrderWrong : ChangeSpec := { name := "fnEndpointOrder", fn := fun _ => fun
  | [d] => { results := [.lit (.bool false)], args := [d] }
  | _ => none }
def FnEndpointOrderWrongFalsely : Prop := fnEndpointOrderRow.holds Try.pinned (OpenSpec.ofChange fnEndpointOrderWrong)

/-- 'laws.FnEndpointPair': WHATEVER THE INPUT: true; the input reads as it did. -/
def fnEndpointPairSpec : ChangeSpec := { name := "fnEndpointPair", fn := fun _ => fun
  | [d] => { results := [.lit (.bool true)], args := [d] }
  | _ => none }
def fnEndpointPairRow : OpenClaim := { program := "ytabemkafgnhddaa", sum := "aeb8edef2c2153aa89696f236ceadb71e06f8e486bd339ae3ffd30f124d6babd", func := "loop.example/capkernel/laws.FnEndpointPair", spec := "fnEndpointPair", inPlace := ["slices.overlaps[loop.example/capkernel/impl.Waiter]", "internal/abi.NoEscape"], unfollowed := true, recurses := true, apart := false }
def FnEndpointPairSaid : Prop := fnEndpointPairRow.holds Try.pinned (OpenSpec.ofChange fnEndpointPairSpec)

/-- ITS FALSE NEIGHBOUR: 'it returns false'. Refute it at one input. -/
def fnEndpointPairWrong : ChangeSpec := { name := "fnEndpointPair", fn := fun _ => fun
  | [d] => { results := [.lit (.bool false)], args := [d] }
  | _ => none }
def FnEndpointPairWrongFalsely : Prop := fnEndpointPairRow.holds Try.pinned (OpenSpec.ofChange fnEndpointPairWrong)

/-- 'laws.FnEndpointSend': WHATEVER THE INPUT: true; the input reads as it did. -/
def fnEndpointSendSpec : ChangeSpec := { name := "fnEndpointSend", fn := fun _ => fun
  | [d] => { results := [.lit (.bool true)], args := [d] }
  | _ => none }
def fnEndpointSendRow : OpenClaim := { program := "ytabemkafgnhddaa", sum := "aeb8edef2c2153aa89696f236ceadb71e06f8e486bd339ae3ffd30f124d6babd", func := "loop.example/capkernel/laws.FnEndpointSend", spec := "fnEndpointSend", inPlace := ["slices.overlaps[loop.example/capkernel/impl.Waiter]", "internal/abi.NoEscape"], unfollowed := true, recurses := true, apart := false }
def FnEndpointSendSaid : Prop := fnEndpointSendRow.holds Try.pinned (OpenSpec.ofChange fnEndpointSendSpec)

/-- ITS FALSE NEIGHBOUR: 'it returns false'. Refute it at one input. -/
def fnEndpointSendWrong : ChangeSpec := { name := "fnEndpointSend", fn := fun _ => fun
  | [d] => { results := [.lit (.bool false)], args := [d] }
  | _ => none }
def FnEndpointSendWrongFalsely : Prop := fnEndpointSendRow.holds Try.pinned (OpenSpec.ofChange fnEndpointSendWrong)

/-- 'laws.FnEndpointTake': WHATEVER THE INPUT: true; the input reads as it did. -/
def fnEndpointTakeSpec : ChangeSpec := { name := "fnEndpointTake", fn := fun _ => fun
  | [d] => { results := [.lit (.bool true)], args := [d] }
  | _ => none }
def fnEndpointTakeRow : OpenClaim := { program := "ytabemkafgnhddaa", sum := "aeb8edef2c2153aa89696f236ceadb71e06f8e486bd339ae3ffd30f124d6babd", func := "loop.example/capkernel/laws.FnEndpointTake", spec := "fnEndpointTake", inPlace := ["slices.overlaps[loop.example/capkernel/impl.Waiter]", "internal/abi.NoEscape"], unfollowed := true, recurses := true, apart := false }
def FnEndpointTakeSaid : Prop := fnEndpointTakeRow.holds Try.pinned (OpenSpec.ofChange fnEndpointTakeSpec)

/-- ITS FALSE NEIGHBOUR: 'it returns false'. Refute it at one input. -/
def fnEndpointTakeWrong : ChangeSpec := { name := "fnEndpointTake", fn := fun _ => fun
  | [d] => { results := [.lit (.bool false)], args := [d] }
  | _ => none }
def FnEndpointTakeWrongFalsely : Prop := fnEndpointTakeRow.holds Try.pinned (OpenSpec.ofChange fnEndpointTakeWrong)

/- THE SECOND FORM. 'bulk': how many values and letters a reading holds, each counted each time it is reached (what is shared counts as often as it is met; a slice's spare places count too). A statement '..UptoSaid' is the law's where the arguments, and the package variables that the reading takes, are together of bulk at most 1048576: NARROWER than '..Said'. Prove '..Said' where nothing that the law and all that it calls make is longer than what came in: it says more and counts as full. Else prove '..UptoSaid'. A law counts once. -/
mutual
def uptoBulk {H : Type} : DataW H → Nat
  | .lit (.string bytes) => bytes.length + 1
  | .lit _ => 1
  | .nil => 1
  | .ptr d => uptoBulk d + 1
  | .slice elems spare => uptoBulkAll elems + uptoBulkAll spare + 1
  | .agg parts => uptoBulkAll parts + 1
  | .iface _ d => uptoBulk d + 1
  | .map entries => uptoBulkEntries entries + 1
  | .held _ => 1
def uptoBulkAll {H : Type} : List (DataW H) → Nat
  | [] => 0
  | d :: r => uptoBulk d + uptoBulkAll r
def uptoBulkEntries {H : Type} : List (Lit × DataW H) → Nat
  | [] => 0
  | x :: r => uptoBulkEntry x + uptoBulkEntries r
def uptoBulkEntry {H : Type} : Lit × DataW H → Nat
  | (.string bytes, d) => bytes.length + uptoBulk d + 1
  | (_, d) => uptoBulk d + 1
 end
def uptoSmall : (H : Type) → List (DataW H) → Bool := fun _ ds => decide (uptoBulkAll ds ≤ 1048576)
def OpenSpec.upto (s : _root_.Go.ChangeSpec) : _root_.Go.OpenSpec := { _root_.Go.OpenSpec.ofChange s with cond := some uptoSmall }

/-- 'laws.FnExactEndpointValid', WHERE WHAT IT READS IS OF BULK AT MOST 1048576: true; the input reads as it did. -/
def fnExactEndpointValidUptoRow : OpenClaim := { program := "ytabemkafgnhddaa", sum := "aeb8edef2c2153aa89696f236ceadb71e06f8e486bd339ae3ffd30f124d6babd", func := "loop.example/capkernel/laws.FnExactEndpointValid", spec := "fnExactEndpointValid", unfollowed := true, recurses := true, apart := false, narrowed := true }
def FnExactEndpointValidUptoSaid : Prop := fnExactEndpointValidUptoRow.holds Try.pinned (OpenSpec.upto fnExactEndpointValidSpec)

/-- 'laws.FnEndpointValid', WHERE WHAT IT READS IS OF BULK AT MOST 1048576: true; the input reads as it did. -/
def fnEndpointValidUptoRow : OpenClaim := { program := "ytabemkafgnhddaa", sum := "aeb8edef2c2153aa89696f236ceadb71e06f8e486bd339ae3ffd30f124d6babd", func := "loop.example/capkernel/laws.FnEndpointValid", spec := "fnEndpointValid", inPlace := ["internal/abi.NoEscape"], unfollowed := true, recurses := true, apart := false, narrowed := true }
def FnEndpointValidUptoSaid : Prop := fnEndpointValidUptoRow.holds Try.pinned (OpenSpec.upto fnEndpointValidSpec)

/-- 'laws.FnExactEndpointCancel', WHERE WHAT IT READS IS OF BULK AT MOST 1048576: true; the input reads as it did. -/
def fnExactEndpointCancelUptoRow : OpenClaim := { program := "ytabemkafgnhddaa", sum := "aeb8edef2c2153aa89696f236ceadb71e06f8e486bd339ae3ffd30f124d6babd", func := "loop.example/capkernel/laws.FnExactEndpointCancel", spec := "fnExactEndpointCancel", unfollowed := true, recurses := true, apart := false, narrowed := true }
def FnExactEndpointCancelUptoSaid : Prop := fnExactEndpointCancelUptoRow.holds Try.pinned (OpenSpec.upto fnExactEndpointCancelSpec)

/-- 'laws.FnEndpointCancel', WHERE WHAT IT READS IS OF BULK AT MOST 1048576: true; the input reads as it did. -/
def fnEndpointCancelUptoRow : OpenClaim := { program := "ytabemkafgnhddaa", sum := "aeb8edef2c2153aa89696f236ceadb71e06f8e486bd339ae3ffd30f124d6babd", func := "loop.example/capkernel/laws.FnEndpointCancel", spec := "fnEndpointCancel", inPlace := ["internal/abi.NoEscape"], unfollowed := true, recurses := true, apart := false, narrowed := true }
def FnEndpointCancelUptoSaid : Prop := fnEndpointCancelUptoRow.holds Try.pinned (OpenSpec.upto fnEndpointCancelSpec)

/-- 'laws.FnExactEndpointSend', WHERE WHAT IT READS IS OF BULK AT MOST 1048576: true; the input reads as it did. -/
def fnExactEndpointSendUptoRow : OpenClaim := { program := "ytabemkafgnhddaa", sum := "aeb8edef2c2153aa89696f236ceadb71e06f8e486bd339ae3ffd30f124d6babd", func := "loop.example/capkernel/laws.FnExactEndpointSend", spec := "fnExactEndpointSend", inPlace := ["slices.overlaps[loop.example/capkernel/impl.Waiter]"], unfollowed := true, recurses := true, apart := false, narrowed := true }
def FnExactEndpointSendUptoSaid : Prop := fnExactEndpointSendUptoRow.holds Try.pinned (OpenSpec.upto fnExactEndpointSendSpec)

/-- 'laws.FnExactEndpointTake', WHERE WHAT IT READS IS OF BULK AT MOST 1048576: true; the input reads as it did. -/
def fnExactEndpointTakeUptoRow : OpenClaim := { program := "ytabemkafgnhddaa", sum := "aeb8edef2c2153aa89696f236ceadb71e06f8e486bd339ae3ffd30f124d6babd", func := "loop.example/capkernel/laws.FnExactEndpointTake", spec := "fnExactEndpointTake", inPlace := ["slices.overlaps[loop.example/capkernel/impl.Waiter]"], unfollowed := true, recurses := true, apart := false, narrowed := true }
def FnExactEndpointTakeUptoSaid : Prop := fnExactEndpointTakeUptoRow.holds Try.pinned (OpenSpec.upto fnExactEndpointTakeSpec)

/-- 'laws.FnEndpointOrder', WHERE WHAT IT READS IS OF BULK AT MOST 1048576: true; the input reads as it did. -/
def fnEndpointOrderUptoRow : OpenClaim := { program := "ytabemkafgnhddaa", sum := "aeb8edef2c2153aa89696f236ceadb71e06f8e486bd339ae3ffd30f124d6babd", func := "loop.example/capkernel/laws.FnEndpointOrder", spec := "fnEndpointOrder", inPlace := ["slices.overlaps[loop.example/capkernel/impl.Waiter]", "internal/abi.NoEscape"], unfollowed := true, recurses := true, apart := false, narrowed := true }
def FnEndpointOrderUptoSaid : Prop := fnEndpointOrderUptoRow.holds Try.pinned (OpenSpec.upto fnEndpointOrderSpec)

/-- 'laws.FnEndpointPair', WHERE WHAT IT READS IS OF BULK AT MOST 1048576: true; the input reads as it did. -/
def fnEndpointPairUptoRow : OpenClaim := { program := "ytabemkafgnhddaa", sum := "aeb8edef2c2153aa89696f236ceadb71e06f8e486bd339ae3ffd30f124d6babd", func := "loop.example/capkernel/laws.FnEndpointPair", spec := "fnEndpointPair", inPlace := ["slices.overlaps[loop.example/capkernel/impl.Waiter]", "internal/abi.NoEscape"], unfollowed := true, recurses := true, apart := false, narrowed := true }
def FnEndpointPairUptoSaid : Prop := fnEndpointPairUptoRow.holds Try.pinned (OpenSpec.upto fnEndpointPairSpec)

/-- 'laws.FnEndpointSend', WHERE WHAT IT READS IS OF BULK AT MOST 1048576: true; the input reads as it did. -/
def fnEndpointSendUptoRow : OpenClaim := { program := "ytabemkafgnhddaa", sum := "aeb8edef2c2153aa89696f236ceadb71e06f8e486bd339ae3ffd30f124d6babd", func := "loop.example/capkernel/laws.FnEndpointSend", spec := "fnEndpointSend", inPlace := ["slices.overlaps[loop.example/capkernel/impl.Waiter]", "internal/abi.NoEscape"], unfollowed := true, recurses := true, apart := false, narrowed := true }
def FnEndpointSendUptoSaid : Prop := fnEndpointSendUptoRow.holds Try.pinned (OpenSpec.upto fnEndpointSendSpec)

/-- 'laws.FnEndpointTake', WHERE WHAT IT READS IS OF BULK AT MOST 1048576: true; the input reads as it did. -/
def fnEndpointTakeUptoRow : OpenClaim := { program := "ytabemkafgnhddaa", sum := "aeb8edef2c2153aa89696f236ceadb71e06f8e486bd339ae3ffd30f124d6babd", func := "loop.example/capkernel/laws.FnEndpointTake", spec := "fnEndpointTake", inPlace := ["slices.overlaps[loop.example/capkernel/impl.Waiter]", "internal/abi.NoEscape"], unfollowed := true, recurses := true, apart := false, narrowed := true }
def FnEndpointTakeUptoSaid : Prop := fnEndpointTakeUptoRow.holds Try.pinned (OpenSpec.upto fnEndpointTakeSpec)

end Rows
end Go.Proofs.Ytabemkafgnhddaa
