/-
  No cell of these rows narrows 'for every input' (looked for: loops, veiled, ifaces, maps, wideKeys, modest, calm, conditions, laid).
  DERIVED. THE GIVEN ROWS OF THIS SEAT. 4 by the template 'for every input the law returns true; each argument reads behind the call as it read before'; 0 by the template 'total and deterministic' (their statements: YtbkkjmhmcnfhpaaTotals.lean).
  GIVEN WITH THE SEED: the statements are not yours to turn. If you find one false, say at which input.
  Laid BY PROGRAM, IN A SANDBOX (cutbox-rows.mjs): the forced cells as the released guide's own fill.sh prints them over the translation c20cf6c7379814d8… (all of the seat's roots in one cut). By AI agents, Wed Nov 11 2026. No macro, syntax, notation, axiom, sorry.
-/
import Derived.Test.YtbkkjmhmcnfhpaaChecked
import GoSem.Claim
import GoSem.ClaimJoined
import GoSem.ClaimMapViews
import Derived.JoinedTies
import Derived.KernelRfl
namespace Go.Proofs.Ytbkkjmhmcnfhpaa
/- THE CELL 'sum', in the pinned program and in every row, IS THE sha256 OF THE DUMP (.gsa) THAT YtbkkjmhmcnfhpaaProg.lean LOADS. Nothing in Lean hashes anything: it is a label: what it is worth is what the hold of that sum in a sandbox is worth. -/
noncomputable def Try.pinned : Pinned := { name := "ytbkkjmhmcnfhpaa", sum := "c20cf6c7379814d80b3913fc314f148871fcfeb3e19ad37a3e4d57476c57da7f", checked := Try.checked }
namespace Rows
def none {H : Type} : Left H := { results := [], args := [] }

/-- 'laws.FnExactPackTable': WHATEVER THE INPUT: true; the input reads as it did. -/
def fnExactPackTableSpec : ChangeSpec := { name := "fnExactPackTable", fn := fun _ => fun
  | [d] => { results := [.lit (.bool true)], args := [d] }
  | _ => none }
def fnExactPackTableRow : OpenClaim := { program := "ytbkkjmhmcnfhpaa", sum := "c20cf6c7379814d80b3913fc314f148871fcfeb3e19ad37a3e4d57476c57da7f", func := "loop.example/capkernel/laws.FnExactPackTable", spec := "fnExactPackTable", unfollowed := true, recurses := true, apart := false }
def FnExactPackTableSaid : Prop := fnExactPackTableRow.holds Try.pinned (OpenSpec.ofChange fnExactPackTableSpec)

/-- ITS FALSE NEIGHBOUR: 'it returns false'. Refute it at one input. -/
def fnExactPackTableWrong : ChangeSpec := { name := "fnExactPackTable", fn := fun _ => fun
  | [d] => { results := [.lit (.bool false)], args := [d] }
  | _ => none }
def FnExactPackTableWrongFalsely : Prop := fnExactPackTableRow.holds Try.pinned (OpenSpec.ofChange fnExactPackTableWrong)

/-- 'laws.FnExactUnpackTable': WHATEVER THE INPUT: true; the input reads as it did. -/
def fnExactUnpackTableSpec : ChangeSpec := { name := "fnExactUnpackTable", fn := fun _ => fun
  | [d] => { results := [.lit (.bool true)], args := [d] }
  | _ => none }
def fnExactUnpackTableRow : OpenClaim := { program := "ytbkkjmhmcnfhpaa", sum := "c20cf6c7379814d80b3913fc314f148871fcfeb3e19ad37a3e4d57476c57da7f", func := "loop.example/capkernel/laws.FnExactUnpackTable", spec := "fnExactUnpackTable", unfollowed := true, recurses := true, apart := false }
def FnExactUnpackTableSaid : Prop := fnExactUnpackTableRow.holds Try.pinned (OpenSpec.ofChange fnExactUnpackTableSpec)

/-- ITS FALSE NEIGHBOUR: 'it returns false'. Refute it at one input. -/
def fnExactUnpackTableWrong : ChangeSpec := { name := "fnExactUnpackTable", fn := fun _ => fun
  | [d] => { results := [.lit (.bool false)], args := [d] }
  | _ => none }
def FnExactUnpackTableWrongFalsely : Prop := fnExactUnpackTableRow.holds Try.pinned (OpenSpec.ofChange fnExactUnpackTableWrong)

/-- 'laws.FnPackTable': WHATEVER THE INPUT: true; the input reads as it did. -/
def fnPackTableSpec : ChangeSpec := { name := "fnPackTable", fn := fun _ => fun
  | [d] => { results := [.lit (.bool true)], args := [d] }
  | _ => none }
def fnPackTableRow : OpenClaim := { program := "ytbkkjmhmcnfhpaa", sum := "c20cf6c7379814d80b3913fc314f148871fcfeb3e19ad37a3e4d57476c57da7f", func := "loop.example/capkernel/laws.FnPackTable", spec := "fnPackTable", inPlace := ["internal/abi.NoEscape"], unfollowed := true, recurses := true, apart := false }
def FnPackTableSaid : Prop := fnPackTableRow.holds Try.pinned (OpenSpec.ofChange fnPackTableSpec)

/-- ITS FALSE NEIGHBOUR: 'it returns false'. Refute it at one input. -/
def fnPackTableWrong : ChangeSpec := { name := "fnPackTable", fn := fun _ => fun
  | [d] => { results := [.lit (.bool false)], args := [d] }
  | _ => none }
def FnPackTableWrongFalsely : Prop := fnPackTableRow.holds Try.pinned (OpenSpec.ofChange fnPackTableWrong)

/-- 'laws.FnUnpackTable': WHATEVER THE INPUT: true; the input reads as it did. -/
def fnUnpackTableSpec : ChangeSpec := { name := "fnUnpackTable", fn := fun _ => fun
  | [d] => { results := [.lit (.bool true)], args := [d] }
  | _ => none }
def fnUnpackTableRow : OpenClaim := { program := "ytbkkjmhmcnfhpaa", sum := "c20cf6c7379814d80b3913fc314f148871fcfeb3e19ad37a3e4d57476c57da7f", func := "loop.example/capkernel/laws.FnUnpackTable", spec := "fnUnpackTable", inPlace := ["internal/abi.NoEscape"], unfollowed := true, recurses := true, apart := false }
def FnUnpackTableSaid : Prop := fnUnpackTableRow.holds Try.pinned (OpenSpec.ofChange fnUnpackTableSpec)

/-- ITS FALSE NEIGHBOUR: 'it returns false'. Refute it at one input. -/
def fnUnpackTableWrong : ChangeSpec := { name := "fnUnpackTable", fn := fun _ => fun
  | [d] => { results := [.lit (.bool false)], args := [d] }
  | _ => none }
def FnUnpackTableWrongFalsely : Prop := fnUnpackTableRow.holds Try.pinned (OpenSpec.ofChange fnUnpackTableWrong)

/- THE SECOND FORM. 'bulk': how many values and letters a reading holds, each counted each time it is reached (what is shared counts as often as it is met; a slice's spare places count too). A statement '..UptoSaid' is the law's where the arguments, and the package variables that the reading takes, are together of bulk at most 1048576: NARROWER than '..Said'. Prove '..Said' where nothing that the law and all that it calls make is longer than what came in: it says more and counts as full. Else prove '..UptoSaid'. A law counts once. -/
mutual
def uptoBulk {H : Type} : DataW H → Nat
  | .lit (.string bytes) => bytes.length + 1
  | .lit _ => 1
  | .nil => 1
  | .ptr d => uptoBulk d + 1
  | .slice elems spare => uptoBulkAll elems + uptoBulkAll spare + 1
  | .agg parts => uptoBulkAll parts + 1
  | .iface _ d => uptoBulk d + 1
  | .map entries => uptoBulkEntries entries + 1
  | .held _ => 1
def uptoBulkAll {H : Type} : List (DataW H) → Nat
  | [] => 0
  | d :: r => uptoBulk d + uptoBulkAll r
def uptoBulkEntries {H : Type} : List (Lit × DataW H) → Nat
  | [] => 0
  | x :: r => uptoBulkEntry x + uptoBulkEntries r
def uptoBulkEntry {H : Type} : Lit × DataW H → Nat
  | (.string bytes, d) => bytes.length + uptoBulk d + 1
  | (_, d) => uptoBulk d + 1
 end
def uptoSmall : (H : Type) → List (DataW H) → Bool := fun _ ds => decide (uptoBulkAll ds ≤ 1048576)
def OpenSpec.upto (s : _root_.Go.ChangeSpec) : _root_.Go.OpenSpec := { _root_.Go.OpenSpec.ofChange s with cond := some uptoSmall }

/-- 'laws.FnExactPackTable', WHERE WHAT IT READS IS OF BULK AT MOST 1048576: true; the input reads as it did. -/
def fnExactPackTableUptoRow : OpenClaim := { program := "ytbkkjmhmcnfhpaa", sum := "c20cf6c7379814d80b3913fc314f148871fcfeb3e19ad37a3e4d57476c57da7f", func := "loop.example/capkernel/laws.FnExactPackTable", spec := "fnExactPackTable", unfollowed := true, recurses := true, apart := false, narrowed := true }
def FnExactPackTableUptoSaid : Prop := fnExactPackTableUptoRow.holds Try.pinned (OpenSpec.upto fnExactPackTableSpec)

/-- 'laws.FnExactUnpackTable', WHERE WHAT IT READS IS OF BULK AT MOST 1048576: true; the input reads as it did. -/
def fnExactUnpackTableUptoRow : OpenClaim := { program := "ytbkkjmhmcnfhpaa", sum := "c20cf6c7379814d80b3913fc314f148871fcfeb3e19ad37a3e4d57476c57da7f", func := "loop.example/capkernel/laws.FnExactUnpackTable", spec := "fnExactUnpackTable", unfollowed := true, recurses := true, apart := false, narrowed := true }
def FnExactUnpackTableUptoSaid : Prop := fnExactUnpackTableUptoRow.holds Try.pinned (OpenSpec.upto fnExactUnpackTableSpec)

/-- 'laws.FnPackTable', WHERE WHAT IT READS IS OF BULK AT MOST 1048576: true; the input reads as it did. -/
def fnPackTableUptoRow : OpenClaim := { program := "ytbkkjmhmcnfhpaa", sum := "c20cf6c7379814d80b3913fc314f148871fcfeb3e19ad37a3e4d57476c57da7f", func := "loop.example/capkernel/laws.FnPackTable", spec := "fnPackTable", inPlace := ["internal/abi.NoEscape"], unfollowed := true, recurses := true, apart := false, narrowed := true }
def FnPackTableUptoSaid : Prop := fnPackTableUptoRow.holds Try.pinned (OpenSpec.upto fnPackTableSpec)

/-- 'laws.FnUnpackTable', WHERE WHAT IT READS IS OF BULK AT MOST 1048576: true; the input reads as it did. -/
def fnUnpackTableUptoRow : OpenClaim := { program := "ytbkkjmhmcnfhpaa", sum := "c20cf6c7379814d80b3913fc314f148871fcfeb3e19ad37a3e4d57476c57da7f", func := "loop.example/capkernel/laws.FnUnpackTable", spec := "fnUnpackTable", inPlace := ["internal/abi.NoEscape"], unfollowed := true, recurses := true, apart := false, narrowed := true }
def FnUnpackTableUptoSaid : Prop := fnUnpackTableUptoRow.holds Try.pinned (OpenSpec.upto fnUnpackTableSpec)

end Rows
end Go.Proofs.Ytbkkjmhmcnfhpaa
