/-
  No cell of these rows narrows 'for every input' (looked for: loops, veiled, ifaces, maps, wideKeys, modest, calm, conditions, laid).
  DERIVED. THE GIVEN ROWS OF THIS SEAT. 16 by the template 'for every input the law returns true; each argument reads behind the call as it read before'; 0 by the template 'total and deterministic' (their statements: YtlogfpbcogihkaaTotals.lean).
  GIVEN WITH THE SEED: the statements are not yours to turn. If you find one false, say at which input.
  Laid BY PROGRAM, IN A SANDBOX (cutbox-rows.mjs): the forced cells as the released guide's own fill.sh prints them over the translation 8dc94d0d6fbca58a… (all of the seat's roots in one cut). By AI agents, Wed Nov 11 2026. No macro, syntax, notation, axiom, sorry.
-/
import Derived.Test.YtlogfpbcogihkaaChecked
import GoSem.Claim
import GoSem.ClaimJoined
import GoSem.ClaimMapViews
import Derived.JoinedTies
import Derived.KernelRfl
namespace Go.Proofs.Ytlogfpbcogihkaa
/- THE CELL 'sum', in the pinned program and in every row, IS THE sha256 OF THE DUMP (.gsa) THAT YtlogfpbcogihkaaProg.lean LOADS. Nothing in Lean hashes anything: it is a label: what it is worth is what the hold of that sum in a sandbox is worth. -/
noncomputable def Try.pinned : Pinned := { name := "ytlogfpbcogihkaa", sum := "8dc94d0d6fbca58a48cf9ca8f92c3992ff12a8b6e8e6e0cb3473241fa2473d9b", checked := Try.checked }
namespace Rows
def none {H : Type} : Left H := { results := [], args := [] }

/-- 'laws.FnSysMint': WHATEVER THE INPUT: true; the input reads as it did. -/
def fnSysMintSpec : ChangeSpec := { name := "fnSysMint", fn := fun _ => fun
  | [d] => { results := [.lit (.bool true)], args := [d] }
  | _ => none }
def fnSysMintRow : OpenClaim := { program := "ytlogfpbcogihkaa", sum := "8dc94d0d6fbca58a48cf9ca8f92c3992ff12a8b6e8e6e0cb3473241fa2473d9b", func := "loop.example/capkernel/laws.FnSysMint", spec := "fnSysMint", inPlace := ["internal/abi.NoEscape"], unfollowed := true, recurses := true, apart := false }
def FnSysMintSaid : Prop := fnSysMintRow.holds Try.pinned (OpenSpec.ofChange fnSysMintSpec)

/-- ITS FALSE NEIGHBOUR: 'it returns false'. Refute it at one input. -/
def fnSysMintWrong : ChangeSpec := { name := "fnSysMint", fn := fun _ => fun
  | [d] => { results := [.lit (.bool false)], args := [d] }
  | _ => none }
def FnSysMintWrongFalsely : Prop := fnSysMintRow.holds Try.pinned (OpenSpec.ofChange fnSysMintWrong)

/-- 'laws.FnSysRetype': WHATEVER THE INPUT: true; the input reads as it did. -/
def fnSysRetypeSpec : ChangeSpec := { name := "fnSysRetype", fn := fun _ => fun
  | [d] => { results := [.lit (.bool true)], args := [d] }
  | _ => none }
def fnSysRetypeRow : OpenClaim := { program := "ytlogfpbcogihkaa", sum := "8dc94d0d6fbca58a48cf9ca8f92c3992ff12a8b6e8e6e0cb3473241fa2473d9b", func := "loop.example/capkernel/laws.FnSysRetype", spec := "fnSysRetype", inPlace := ["internal/abi.NoEscape"], unfollowed := true, recurses := true, apart := false }
def FnSysRetypeSaid : Prop := fnSysRetypeRow.holds Try.pinned (OpenSpec.ofChange fnSysRetypeSpec)

/-- ITS FALSE NEIGHBOUR: 'it returns false'. Refute it at one input. -/
def fnSysRetypeWrong : ChangeSpec := { name := "fnSysRetype", fn := fun _ => fun
  | [d] => { results := [.lit (.bool false)], args := [d] }
  | _ => none }
def FnSysRetypeWrongFalsely : Prop := fnSysRetypeRow.holds Try.pinned (OpenSpec.ofChange fnSysRetypeWrong)

/-- 'laws.FnExactNewKernel': WHATEVER THE INPUT: true; the input reads as it did. -/
def fnExactNewKernelSpec : ChangeSpec := { name := "fnExactNewKernel", fn := fun _ => fun
  | [d1, d2] => { results := [.lit (.bool true)], args := [d1, d2] }
  | _ => none }
def fnExactNewKernelRow : OpenClaim := { program := "ytlogfpbcogihkaa", sum := "8dc94d0d6fbca58a48cf9ca8f92c3992ff12a8b6e8e6e0cb3473241fa2473d9b", func := "loop.example/capkernel/laws.FnExactNewKernel", spec := "fnExactNewKernel", apart := false }
def FnExactNewKernelSaid : Prop := fnExactNewKernelRow.holds Try.pinned (OpenSpec.ofChange fnExactNewKernelSpec)

/-- ITS FALSE NEIGHBOUR: 'it returns false'. Refute it at one input. -/
def fnExactNewKernelWrong : ChangeSpec := { name := "fnExactNewKernel", fn := fun _ => fun
  | [d1, d2] => { results := [.lit (.bool false)], args := [d1, d2] }
  | _ => none }
def FnExactNewKernelWrongFalsely : Prop := fnExactNewKernelRow.holds Try.pinned (OpenSpec.ofChange fnExactNewKernelWrong)

/-- 'laws.FnKernelRevoke': WHATEVER THE INPUT: true; the input reads as it did. -/
def fnKernelRevokeSpec : ChangeSpec := { name := "fnKernelRevoke", fn := fun _ => fun
  | [d] => { results := [.lit (.bool true)], args := [d] }
  | _ => none }
def fnKernelRevokeRow : OpenClaim := { program := "ytlogfpbcogihkaa", sum := "8dc94d0d6fbca58a48cf9ca8f92c3992ff12a8b6e8e6e0cb3473241fa2473d9b", func := "loop.example/capkernel/laws.FnKernelRevoke", spec := "fnKernelRevoke", inPlace := ["internal/abi.NoEscape"], unfollowed := true, recurses := true, apart := false }
def FnKernelRevokeSaid : Prop := fnKernelRevokeRow.holds Try.pinned (OpenSpec.ofChange fnKernelRevokeSpec)

/-- ITS FALSE NEIGHBOUR: 'it returns false'. Refute it at one input. -/
def fnKernelRevokeWrong : ChangeSpec := { name := "fnKernelRevoke", fn := fun _ => fun
  | [d] => { results := [.lit (.bool false)], args := [d] }
  | _ => none }
def FnKernelRevokeWrongFalsely : Prop := fnKernelRevokeRow.holds Try.pinned (OpenSpec.ofChange fnKernelRevokeWrong)

/-- 'laws.FnKernelNew': WHATEVER THE INPUT: true; the input reads as it did. -/
def fnKernelNewSpec : ChangeSpec := { name := "fnKernelNew", fn := fun _ => fun
  | [d] => { results := [.lit (.bool true)], args := [d] }
  | _ => none }
def fnKernelNewRow : OpenClaim := { program := "ytlogfpbcogihkaa", sum := "8dc94d0d6fbca58a48cf9ca8f92c3992ff12a8b6e8e6e0cb3473241fa2473d9b", func := "loop.example/capkernel/laws.FnKernelNew", spec := "fnKernelNew", unfollowed := true, recurses := true, apart := false }
def FnKernelNewSaid : Prop := fnKernelNewRow.holds Try.pinned (OpenSpec.ofChange fnKernelNewSpec)

/-- ITS FALSE NEIGHBOUR: 'it returns false'. Refute it at one input. -/
def fnKernelNewWrong : ChangeSpec := { name := "fnKernelNew", fn := fun _ => fun
  | [d] => { results := [.lit (.bool false)], args := [d] }
  | _ => none }
def FnKernelNewWrongFalsely : Prop := fnKernelNewRow.holds Try.pinned (OpenSpec.ofChange fnKernelNewWrong)

/-- 'laws.FnExactKernelValid': WHATEVER THE INPUT: true; the input reads as it did. -/
def fnExactKernelValidSpec : ChangeSpec := { name := "fnExactKernelValid", fn := fun _ => fun
  | [d] => { results := [.lit (.bool true)], args := [d] }
  | _ => none }
def fnExactKernelValidRow : OpenClaim := { program := "ytlogfpbcogihkaa", sum := "8dc94d0d6fbca58a48cf9ca8f92c3992ff12a8b6e8e6e0cb3473241fa2473d9b", func := "loop.example/capkernel/laws.FnExactKernelValid", spec := "fnExactKernelValid", unfollowed := true, recurses := true, apart := false }
def FnExactKernelValidSaid : Prop := fnExactKernelValidRow.holds Try.pinned (OpenSpec.ofChange fnExactKernelValidSpec)

/-- ITS FALSE NEIGHBOUR: 'it returns false'. Refute it at one input. -/
def fnExactKernelValidWrong : ChangeSpec := { name := "fnExactKernelValid", fn := fun _ => fun
  | [d] => { results := [.lit (.bool false)], args := [d] }
  | _ => none }
def FnExactKernelValidWrongFalsely : Prop := fnExactKernelValidRow.holds Try.pinned (OpenSpec.ofChange fnExactKernelValidWrong)

/-- 'laws.FnNewKernel': WHATEVER THE INPUT: true; the input reads as it did. -/
def fnNewKernelSpec : ChangeSpec := { name := "fnNewKernel", fn := fun _ => fun
  | [d] => { results := [.lit (.bool true)], args := [d] }
  | _ => none }
def fnNewKernelRow : OpenClaim := { program := "ytlogfpbcogihkaa", sum := "8dc94d0d6fbca58a48cf9ca8f92c3992ff12a8b6e8e6e0cb3473241fa2473d9b", func := "loop.example/capkernel/laws.FnNewKernel", spec := "fnNewKernel", inPlace := ["internal/abi.NoEscape"], unfollowed := true, recurses := true, apart := false }
def FnNewKernelSaid : Prop := fnNewKernelRow.holds Try.pinned (OpenSpec.ofChange fnNewKernelSpec)

/-- ITS FALSE NEIGHBOUR: 'it returns false'. Refute it at one input. -/
def fnNewKernelWrong : ChangeSpec := { name := "fnNewKernel", fn := fun _ => fun
  | [d] => { results := [.lit (.bool false)], args := [d] }
  | _ => none }
def FnNewKernelWrongFalsely : Prop := fnNewKernelRow.holds Try.pinned (OpenSpec.ofChange fnNewKernelWrong)

/-- 'laws.FnExactSysMove': WHATEVER THE INPUT: true; the input reads as it did. -/
def fnExactSysMoveSpec : ChangeSpec := { name := "fnExactSysMove", fn := fun _ => fun
  | [d1, d2, d3] => { results := [.lit (.bool true)], args := [d1, d2, d3] }
  | _ => none }
def fnExactSysMoveRow : OpenClaim := { program := "ytlogfpbcogihkaa", sum := "8dc94d0d6fbca58a48cf9ca8f92c3992ff12a8b6e8e6e0cb3473241fa2473d9b", func := "loop.example/capkernel/laws.FnExactSysMove", spec := "fnExactSysMove", unfollowed := true, recurses := true, apart := false }
def FnExactSysMoveSaid : Prop := fnExactSysMoveRow.holds Try.pinned (OpenSpec.ofChange fnExactSysMoveSpec)

/-- ITS FALSE NEIGHBOUR: 'it returns false'. Refute it at one input. -/
def fnExactSysMoveWrong : ChangeSpec := { name := "fnExactSysMove", fn := fun _ => fun
  | [d1, d2, d3] => { results := [.lit (.bool false)], args := [d1, d2, d3] }
  | _ => none }
def FnExactSysMoveWrongFalsely : Prop := fnExactSysMoveRow.holds Try.pinned (OpenSpec.ofChange fnExactSysMoveWrong)

/-- 'laws.FnKernelValid': WHATEVER THE INPUT: true; the input reads as it did. -/
def fnKernelValidSpec : ChangeSpec := { name := "fnKernelValid", fn := fun _ => fun
  | [d] => { results := [.lit (.bool true)], args := [d] }
  | _ => none }
def fnKernelValidRow : OpenClaim := { program := "ytlogfpbcogihkaa", sum := "8dc94d0d6fbca58a48cf9ca8f92c3992ff12a8b6e8e6e0cb3473241fa2473d9b", func := "loop.example/capkernel/laws.FnKernelValid", spec := "fnKernelValid", inPlace := ["internal/abi.NoEscape"], unfollowed := true, recurses := true, apart := false }
def FnKernelValidSaid : Prop := fnKernelValidRow.holds Try.pinned (OpenSpec.ofChange fnKernelValidSpec)

/-- ITS FALSE NEIGHBOUR: 'it returns false'. Refute it at one input. -/
def fnKernelValidWrong : ChangeSpec := { name := "fnKernelValid", fn := fun _ => fun
  | [d] => { results := [.lit (.bool false)], args := [d] }
  | _ => none }
def FnKernelValidWrongFalsely : Prop := fnKernelValidRow.holds Try.pinned (OpenSpec.ofChange fnKernelValidWrong)

/-- 'laws.FnExactSysDelete': WHATEVER THE INPUT: true; the input reads as it did. -/
def fnExactSysDeleteSpec : ChangeSpec := { name := "fnExactSysDelete", fn := fun _ => fun
  | [d1, d2] => { results := [.lit (.bool true)], args := [d1, d2] }
  | _ => none }
def fnExactSysDeleteRow : OpenClaim := { program := "ytlogfpbcogihkaa", sum := "8dc94d0d6fbca58a48cf9ca8f92c3992ff12a8b6e8e6e0cb3473241fa2473d9b", func := "loop.example/capkernel/laws.FnExactSysDelete", spec := "fnExactSysDelete", unfollowed := true, recurses := true, apart := false }
def FnExactSysDeleteSaid : Prop := fnExactSysDeleteRow.holds Try.pinned (OpenSpec.ofChange fnExactSysDeleteSpec)

/-- ITS FALSE NEIGHBOUR: 'it returns false'. Refute it at one input. -/
def fnExactSysDeleteWrong : ChangeSpec := { name := "fnExactSysDelete", fn := fun _ => fun
  | [d1, d2] => { results := [.lit (.bool false)], args := [d1, d2] }
  | _ => none }
def FnExactSysDeleteWrongFalsely : Prop := fnExactSysDeleteRow.holds Try.pinned (OpenSpec.ofChange fnExactSysDeleteWrong)

/-- 'laws.FnExactSysMint': WHATEVER THE INPUT: true; the input reads as it did. -/
def fnExactSysMintSpec : ChangeSpec := { name := "fnExactSysMint", fn := fun _ => fun
  | [d1, d2, d3, d4, d5] => { results := [.lit (.bool true)], args := [d1, d2, d3, d4, d5] }
  | _ => none }
def fnExactSysMintRow : OpenClaim := { program := "ytlogfpbcogihkaa", sum := "8dc94d0d6fbca58a48cf9ca8f92c3992ff12a8b6e8e6e0cb3473241fa2473d9b", func := "loop.example/capkernel/laws.FnExactSysMint", spec := "fnExactSysMint", unfollowed := true, recurses := true, apart := false }
def FnExactSysMintSaid : Prop := fnExactSysMintRow.holds Try.pinned (OpenSpec.ofChange fnExactSysMintSpec)

/-- ITS FALSE NEIGHBOUR: 'it returns false'. Refute it at one input. -/
def fnExactSysMintWrong : ChangeSpec := { name := "fnExactSysMint", fn := fun _ => fun
  | [d1, d2, d3, d4, d5] => { results := [.lit (.bool false)], args := [d1, d2, d3, d4, d5] }
  | _ => none }
def FnExactSysMintWrongFalsely : Prop := fnExactSysMintRow.holds Try.pinned (OpenSpec.ofChange fnExactSysMintWrong)

/-- 'laws.FnExactSysRevoke': WHATEVER THE INPUT: true; the input reads as it did. -/
def fnExactSysRevokeSpec : ChangeSpec := { name := "fnExactSysRevoke", fn := fun _ => fun
  | [d1, d2] => { results := [.lit (.bool true)], args := [d1, d2] }
  | _ => none }
def fnExactSysRevokeRow : OpenClaim := { program := "ytlogfpbcogihkaa", sum := "8dc94d0d6fbca58a48cf9ca8f92c3992ff12a8b6e8e6e0cb3473241fa2473d9b", func := "loop.example/capkernel/laws.FnExactSysRevoke", spec := "fnExactSysRevoke", unfollowed := true, recurses := true, apart := false }
def FnExactSysRevokeSaid : Prop := fnExactSysRevokeRow.holds Try.pinned (OpenSpec.ofChange fnExactSysRevokeSpec)

/-- ITS FALSE NEIGHBOUR: 'it returns false'. Refute it at one input. -/
def fnExactSysRevokeWrong : ChangeSpec := { name := "fnExactSysRevoke", fn := fun _ => fun
  | [d1, d2] => { results := [.lit (.bool false)], args := [d1, d2] }
  | _ => none }
def FnExactSysRevokeWrongFalsely : Prop := fnExactSysRevokeRow.holds Try.pinned (OpenSpec.ofChange fnExactSysRevokeWrong)

/-- 'laws.FnExactSysRetype': WHATEVER THE INPUT: true; the input reads as it did. -/
def fnExactSysRetypeSpec : ChangeSpec := { name := "fnExactSysRetype", fn := fun _ => fun
  | [d1, d2, d3] => { results := [.lit (.bool true)], args := [d1, d2, d3] }
  | _ => none }
def fnExactSysRetypeRow : OpenClaim := { program := "ytlogfpbcogihkaa", sum := "8dc94d0d6fbca58a48cf9ca8f92c3992ff12a8b6e8e6e0cb3473241fa2473d9b", func := "loop.example/capkernel/laws.FnExactSysRetype", spec := "fnExactSysRetype", unfollowed := true, recurses := true, apart := false }
def FnExactSysRetypeSaid : Prop := fnExactSysRetypeRow.holds Try.pinned (OpenSpec.ofChange fnExactSysRetypeSpec)

/-- ITS FALSE NEIGHBOUR: 'it returns false'. Refute it at one input. -/
def fnExactSysRetypeWrong : ChangeSpec := { name := "fnExactSysRetype", fn := fun _ => fun
  | [d1, d2, d3] => { results := [.lit (.bool false)], args := [d1, d2, d3] }
  | _ => none }
def FnExactSysRetypeWrongFalsely : Prop := fnExactSysRetypeRow.holds Try.pinned (OpenSpec.ofChange fnExactSysRetypeWrong)

/-- 'laws.FnSysDelete': WHATEVER THE INPUT: true; the input reads as it did. -/
def fnSysDeleteSpec : ChangeSpec := { name := "fnSysDelete", fn := fun _ => fun
  | [d] => { results := [.lit (.bool true)], args := [d] }
  | _ => none }
def fnSysDeleteRow : OpenClaim := { program := "ytlogfpbcogihkaa", sum := "8dc94d0d6fbca58a48cf9ca8f92c3992ff12a8b6e8e6e0cb3473241fa2473d9b", func := "loop.example/capkernel/laws.FnSysDelete", spec := "fnSysDelete", inPlace := ["internal/abi.NoEscape"], unfollowed := true, recurses := true, apart := false }
def FnSysDeleteSaid : Prop := fnSysDeleteRow.holds Try.pinned (OpenSpec.ofChange fnSysDeleteSpec)

/-- ITS FALSE NEIGHBOUR: 'it returns false'. Refute it at one input. -/
def fnSysDeleteWrong : ChangeSpec := { name := "fnSysDelete", fn := fun _ => fun
  | [d] => { results := [.lit (.bool false)], args := [d] }
  | _ => none }
def FnSysDeleteWrongFalsely : Prop := fnSysDeleteRow.holds Try.pinned (OpenSpec.ofChange fnSysDeleteWrong)

/-- 'laws.FnSysMove': WHATEVER THE INPUT: true; the input reads as it did. -/
def fnSysMoveSpec : ChangeSpec := { name := "fnSysMove", fn := fun _ => fun
  | [d] => { results := [.lit (.bool true)], args := [d] }
  | _ => none }
def fnSysMoveRow : OpenClaim := { program := "ytlogfpbcogihkaa", sum := "8dc94d0d6fbca58a48cf9ca8f92c3992ff12a8b6e8e6e0cb3473241fa2473d9b", func := "loop.example/capkernel/laws.FnSysMove", spec := "fnSysMove", inPlace := ["internal/abi.NoEscape"], unfollowed := true, recurses := true, apart := false }
def FnSysMoveSaid : Prop := fnSysMoveRow.holds Try.pinned (OpenSpec.ofChange fnSysMoveSpec)

/-- ITS FALSE NEIGHBOUR: 'it returns false'. Refute it at one input. -/
def fnSysMoveWrong : ChangeSpec := { name := "fnSysMove", fn := fun _ => fun
  | [d] => { results := [.lit (.bool false)], args := [d] }
  | _ => none }
def FnSysMoveWrongFalsely : Prop := fnSysMoveRow.holds Try.pinned (OpenSpec.ofChange fnSysMoveWrong)

/-- 'laws.FnSysRevoke': WHATEVER THE INPUT: true; the input reads as it did. -/
def fnSysRevokeSpec : ChangeSpec := { name := "fnSysRevoke", fn := fun _ => fun
  | [d] => { results := [.lit (.bool true)], args := [d] }
  | _ => none }
def fnSysRevokeRow : OpenClaim := { program := "ytlogfpbcogihkaa", sum := "8dc94d0d6fbca58a48cf9ca8f92c3992ff12a8b6e8e6e0cb3473241fa2473d9b", func := "loop.example/capkernel/laws.FnSysRevoke", spec := "fnSysRevoke", inPlace := ["internal/abi.NoEscape"], unfollowed := true, recurses := true, apart := false }
def FnSysRevokeSaid : Prop := fnSysRevokeRow.holds Try.pinned (OpenSpec.ofChange fnSysRevokeSpec)

/-- ITS FALSE NEIGHBOUR: 'it returns false'. Refute it at one input. -/
def fnSysRevokeWrong : ChangeSpec := { name := "fnSysRevoke", fn := fun _ => fun
  | [d] => { results := [.lit (.bool false)], args := [d] }
  | _ => none }
def FnSysRevokeWrongFalsely : Prop := fnSysRevokeRow.holds Try.pinned (OpenSpec.ofChange fnSysRevokeWrong)

/- THE SECOND FORM. 'bulk': how many values and letters a reading holds, each counted each time it is reached (what is shared counts as often as it is met; a slice's spare places count too). A statement '..UptoSaid' is the law's where the arguments, and the package variables that the reading takes, are together of bulk at most 1048576: NARROWER than '..Said'. Prove '..Said' where nothing that the law and all that it calls make is longer than what came in: it says more and counts as full. Else prove '..UptoSaid'. A law counts once. -/
mutual
def uptoBulk {H : Type} : DataW H → Nat
  | .lit (.string bytes) => bytes.length + 1
  | .lit _ => 1
  | .nil => 1
  | .ptr d => uptoBulk d + 1
  | .slice elems spare => uptoBulkAll elems + uptoBulkAll spare + 1
  | .agg parts => uptoBulkAll parts + 1
  | .iface _ d => uptoBulk d + 1
  | .map entries => uptoBulkEntries entries + 1
  | .held _ => 1
def uptoBulkAll {H : Type} : List (DataW H) → Nat
  | [] => 0
  | d :: r => uptoBulk d + uptoBulkAll r
def uptoBulkEntries {H : Type} : List (Lit × DataW H) → Nat
  | [] => 0
  | x :: r => uptoBulkEntry x + uptoBulkEntries r
def uptoBulkEntry {H : Type} : Lit × DataW H → Nat
  | (.string bytes, d) => bytes.length + uptoBulk d + 1
  | (_, d) => uptoBulk d + 1
 end
def uptoSmall : (H : Type) → List (DataW H) → Bool := fun _ ds => decide (uptoBulkAll ds ≤ 1048576)
def OpenSpec.upto (s : _root_.Go.ChangeSpec) : _root_.Go.OpenSpec := { _root_.Go.OpenSpec.ofChange s with cond := some uptoSmall }

/-- 'laws.FnSysMint', WHERE WHAT IT READS IS OF BULK AT MOST 1048576: true; the input reads as it did. -/
def fnSysMintUptoRow : OpenClaim := { program := "ytlogfpbcogihkaa", sum := "8dc94d0d6fbca58a48cf9ca8f92c3992ff12a8b6e8e6e0cb3473241fa2473d9b", func := "loop.example/capkernel/laws.FnSysMint", spec := "fnSysMint", inPlace := ["internal/abi.NoEscape"], unfollowed := true, recurses := true, apart := false, narrowed := true }
def FnSysMintUptoSaid : Prop := fnSysMintUptoRow.holds Try.pinned (OpenSpec.upto fnSysMintSpec)

/-- 'laws.FnSysRetype', WHERE WHAT IT READS IS OF BULK AT MOST 1048576: true; the input reads as it did. -/
def fnSysRetypeUptoRow : OpenClaim := { program := "ytlogfpbcogihkaa", sum := "8dc94d0d6fbca58a48cf9ca8f92c3992ff12a8b6e8e6e0cb3473241fa2473d9b", func := "loop.example/capkernel/laws.FnSysRetype", spec := "fnSysRetype", inPlace := ["internal/abi.NoEscape"], unfollowed := true, recurses := true, apart := false, narrowed := true }
def FnSysRetypeUptoSaid : Prop := fnSysRetypeUptoRow.holds Try.pinned (OpenSpec.upto fnSysRetypeSpec)

/-- 'laws.FnExactNewKernel', WHERE WHAT IT READS IS OF BULK AT MOST 1048576: true; the input reads as it did. -/
def fnExactNewKernelUptoRow : OpenClaim := { program := "ytlogfpbcogihkaa", sum := "8dc94d0d6fbca58a48cf9ca8f92c3992ff12a8b6e8e6e0cb3473241fa2473d9b", func := "loop.example/capkernel/laws.FnExactNewKernel", spec := "fnExactNewKernel", apart := false, narrowed := true }
def FnExactNewKernelUptoSaid : Prop := fnExactNewKernelUptoRow.holds Try.pinned (OpenSpec.upto fnExactNewKernelSpec)

/-- 'laws.FnKernelRevoke', WHERE WHAT IT READS IS OF BULK AT MOST 1048576: true; the input reads as it did. -/
def fnKernelRevokeUptoRow : OpenClaim := { program := "ytlogfpbcogihkaa", sum := "8dc94d0d6fbca58a48cf9ca8f92c3992ff12a8b6e8e6e0cb3473241fa2473d9b", func := "loop.example/capkernel/laws.FnKernelRevoke", spec := "fnKernelRevoke", inPlace := ["internal/abi.NoEscape"], unfollowed := true, recurses := true, apart := false, narrowed := true }
def FnKernelRevokeUptoSaid : Prop := fnKernelRevokeUptoRow.holds Try.pinned (OpenSpec.upto fnKernelRevokeSpec)

/-- 'laws.FnKernelNew', WHERE WHAT IT READS IS OF BULK AT MOST 1048576: true; the input reads as it did. -/
def fnKernelNewUptoRow : OpenClaim := { program := "ytlogfpbcogihkaa", sum := "8dc94d0d6fbca58a48cf9ca8f92c3992ff12a8b6e8e6e0cb3473241fa2473d9b", func := "loop.example/capkernel/laws.FnKernelNew", spec := "fnKernelNew", unfollowed := true, recurses := true, apart := false, narrowed := true }
def FnKernelNewUptoSaid : Prop := fnKernelNewUptoRow.holds Try.pinned (OpenSpec.upto fnKernelNewSpec)

/-- 'laws.FnExactKernelValid', WHERE WHAT IT READS IS OF BULK AT MOST 1048576: true; the input reads as it did. -/
def fnExactKernelValidUptoRow : OpenClaim := { program := "ytlogfpbcogihkaa", sum := "8dc94d0d6fbca58a48cf9ca8f92c3992ff12a8b6e8e6e0cb3473241fa2473d9b", func := "loop.example/capkernel/laws.FnExactKernelValid", spec := "fnExactKernelValid", unfollowed := true, recurses := true, apart := false, narrowed := true }
def FnExactKernelValidUptoSaid : Prop := fnExactKernelValidUptoRow.holds Try.pinned (OpenSpec.upto fnExactKernelValidSpec)

/-- 'laws.FnNewKernel', WHERE WHAT IT READS IS OF BULK AT MOST 1048576: true; the input reads as it did. -/
def fnNewKernelUptoRow : OpenClaim := { program := "ytlogfpbcogihkaa", sum := "8dc94d0d6fbca58a48cf9ca8f92c3992ff12a8b6e8e6e0cb3473241fa2473d9b", func := "loop.example/capkernel/laws.FnNewKernel", spec := "fnNewKernel", inPlace := ["internal/abi.NoEscape"], unfollowed := true, recurses := true, apart := false, narrowed := true }
def FnNewKernelUptoSaid : Prop := fnNewKernelUptoRow.holds Try.pinned (OpenSpec.upto fnNewKernelSpec)

/-- 'laws.FnExactSysMove', WHERE WHAT IT READS IS OF BULK AT MOST 1048576: true; the input reads as it did. -/
def fnExactSysMoveUptoRow : OpenClaim := { program := "ytlogfpbcogihkaa", sum := "8dc94d0d6fbca58a48cf9ca8f92c3992ff12a8b6e8e6e0cb3473241fa2473d9b", func := "loop.example/capkernel/laws.FnExactSysMove", spec := "fnExactSysMove", unfollowed := true, recurses := true, apart := false, narrowed := true }
def FnExactSysMoveUptoSaid : Prop := fnExactSysMoveUptoRow.holds Try.pinned (OpenSpec.upto fnExactSysMoveSpec)

/-- 'laws.FnKernelValid', WHERE WHAT IT READS IS OF BULK AT MOST 1048576: true; the input reads as it did. -/
def fnKernelValidUptoRow : OpenClaim := { program := "ytlogfpbcogihkaa", sum := "8dc94d0d6fbca58a48cf9ca8f92c3992ff12a8b6e8e6e0cb3473241fa2473d9b", func := "loop.example/capkernel/laws.FnKernelValid", spec := "fnKernelValid", inPlace := ["internal/abi.NoEscape"], unfollowed := true, recurses := true, apart := false, narrowed := true }
def FnKernelValidUptoSaid : Prop := fnKernelValidUptoRow.holds Try.pinned (OpenSpec.upto fnKernelValidSpec)

/-- 'laws.FnExactSysDelete', WHERE WHAT IT READS IS OF BULK AT MOST 1048576: true; the input reads as it did. -/
def fnExactSysDeleteUptoRow : OpenClaim := { program := "ytlogfpbcogihkaa", sum := "8dc94d0d6fbca58a48cf9ca8f92c3992ff12a8b6e8e6e0cb3473241fa2473d9b", func := "loop.example/capkernel/laws.FnExactSysDelete", spec := "fnExactSysDelete", unfollowed := true, recurses := true, apart := false, narrowed := true }
def FnExactSysDeleteUptoSaid : Prop := fnExactSysDeleteUptoRow.holds Try.pinned (OpenSpec.upto fnExactSysDeleteSpec)

/-- 'laws.FnExactSysMint', WHERE WHAT IT READS IS OF BULK AT MOST 1048576: true; the input reads as it did. -/
def fnExactSysMintUptoRow : OpenClaim := { program := "ytlogfpbcogihkaa", sum := "8dc94d0d6fbca58a48cf9ca8f92c3992ff12a8b6e8e6e0cb3473241fa2473d9b", func := "loop.example/capkernel/laws.FnExactSysMint", spec := "fnExactSysMint", unfollowed := true, recurses := true, apart := false, narrowed := true }
def FnExactSysMintUptoSaid : Prop := fnExactSysMintUptoRow.holds Try.pinned (OpenSpec.upto fnExactSysMintSpec)

/-- 'laws.FnExactSysRevoke', WHERE WHAT IT READS IS OF BULK AT MOST 1048576: true; the input reads as it did. -/
def fnExactSysRevokeUptoRow : OpenClaim := { program := "ytlogfpbcogihkaa", sum := "8dc94d0d6fbca58a48cf9ca8f92c3992ff12a8b6e8e6e0cb3473241fa2473d9b", func := "loop.example/capkernel/laws.FnExactSysRevoke", spec := "fnExactSysRevoke", unfollowed := true, recurses := true, apart := false, narrowed := true }
def FnExactSysRevokeUptoSaid : Prop := fnExactSysRevokeUptoRow.holds Try.pinned (OpenSpec.upto fnExactSysRevokeSpec)

/-- 'laws.FnExactSysRetype', WHERE WHAT IT READS IS OF BULK AT MOST 1048576: true; the input reads as it did. -/
def fnExactSysRetypeUptoRow : OpenClaim := { program := "ytlogfpbcogihkaa", sum := "8dc94d0d6fbca58a48cf9ca8f92c3992ff12a8b6e8e6e0cb3473241fa2473d9b", func := "loop.example/capkernel/laws.FnExactSysRetype", spec := "fnExactSysRetype", unfollowed := true, recurses := true, apart := false, narrowed := true }
def FnExactSysRetypeUptoSaid : Prop := fnExactSysRetypeUptoRow.holds Try.pinned (OpenSpec.upto fnExactSysRetypeSpec)

/-- 'laws.FnSysDelete', WHERE WHAT IT READS IS OF BULK AT MOST 1048576: true; the input reads as it did. -/
def fnSysDeleteUptoRow : OpenClaim := { program := "ytlogfpbcogihkaa", sum := "8dc94d0d6fbca58a48cf9ca8f92c3992ff12a8b6e8e6e0cb3473241fa2473d9b", func := "loop.example/capkernel/laws.FnSysDelete", spec := "fnSysDelete", inPlace := ["internal/abi.NoEscape"], unfollowed := true, recurses := true, apart := false, narrowed := true }
def FnSysDeleteUptoSaid : Prop := fnSysDeleteUptoRow.holds Try.pinned (OpenSpec.upto fnSysDeleteSpec)

/-- 'laws.FnSysMove', WHERE WHAT IT READS IS OF BULK AT MOST 1048576: true; the input reads as it did. -/
def fnSysMoveUptoRow : OpenClaim := { program := "ytlogfpbcogihkaa", sum := "8dc94d0d6fbca58a48cf9ca8f92c3992ff12a8b6e8e6e0cb3473241fa2473d9b", func := "loop.example/capkernel/laws.FnSysMove", spec := "fnSysMove", inPlace := ["internal/abi.NoEscape"], unfollowed := true, recurses := true, apart := false, narrowed := true }
def FnSysMoveUptoSaid : Prop := fnSysMoveUptoRow.holds Try.pinned (OpenSpec.upto fnSysMoveSpec)

/-- 'laws.FnSysRevoke', WHERE WHAT IT READS IS OF BULK AT MOST 1048576: true; the input reads as it did. -/
def fnSysRevokeUptoRow : OpenClaim := { program := "ytlogfpbcogihkaa", sum := "8dc94d0d6fbca58a48cf9ca8f92c3992ff12a8b6e8e6e0cb3473241fa2473d9b", func := "loop.example/capkernel/laws.FnSysRevoke", spec := "fnSysRevoke", inPlace := ["internal/abi.NoEscape"], unfollowed := true, recurses := true, apart := false, narrowed := true }
def FnSysRevokeUptoSaid : Prop := fnSysRevokeUptoRow.holds Try.pinned (OpenSpec.upto fnSysRevokeSpec)

end Rows
end Go.Proofs.Ytlogfpbcogihkaa
