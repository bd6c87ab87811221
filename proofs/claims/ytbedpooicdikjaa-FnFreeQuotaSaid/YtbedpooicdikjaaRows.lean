/-
  No cell of these rows narrows 'for every input' (looked for: loops, veiled, ifaces, maps, wideKeys, modest, calm, conditions, laid).
  DERIVED. THE GIVEN ROWS OF THIS SEAT. 9 by the template 'for every input the law returns true; each argument reads behind the call as it read before'; 0 by the template 'total and deterministic' (their statements: YtbedpooicdikjaaTotals.lean).
  GIVEN WITH THE SEED: the statements are not yours to turn. If you find one false, say at which input.
  Laid BY PROGRAM, IN A SANDBOX (cutbox-rows.mjs): the forced cells as the released guide's own fill.sh prints them over the translation e9c265424759c6b2… (all of the seat's roots in one cut). By AI agents, Wed Nov 11 2026. No macro, syntax, notation, axiom, sorry.
-/
import Derived.Test.YtbedpooicdikjaaChecked
import GoSem.Claim
import GoSem.ClaimJoined
import GoSem.ClaimMapViews
import Derived.JoinedTies
import Derived.KernelRfl
namespace Go.Proofs.Ytbedpooicdikjaa
/- THE CELL 'sum', in the pinned program and in every row, IS THE sha256 OF THE DUMP (.gsa) THAT YtbedpooicdikjaaProg.lean LOADS. Nothing in Lean hashes anything: it is a label: what it is worth is what the hold of that sum in a sandbox is worth. -/
noncomputable def Try.pinned : Pinned := { name := "ytbedpooicdikjaa", sum := "e9c265424759c6b2ca4bfe8635815d5fbe8ce6245f088a68fe2599b10ab2c21b", checked := Try.checked }
namespace Rows
def none {H : Type} : Left H := { results := [], args := [] }

/-- 'laws.FnExactQuotasValid': WHATEVER THE INPUT: true; the input reads as it did. -/
def fnExactQuotasValidSpec : ChangeSpec := { name := "fnExactQuotasValid", fn := fun _ => fun
  | [d] => { results := [.lit (.bool true)], args := [d] }
  | _ => none }
def fnExactQuotasValidRow : OpenClaim := { program := "ytbedpooicdikjaa", sum := "e9c265424759c6b2ca4bfe8635815d5fbe8ce6245f088a68fe2599b10ab2c21b", func := "loop.example/capkernel/laws.FnExactQuotasValid", spec := "fnExactQuotasValid", apart := false }
def FnExactQuotasValidSaid : Prop := fnExactQuotasValidRow.holds Try.pinned (OpenSpec.ofChange fnExactQuotasValidSpec)

/-- ITS FALSE NEIGHBOUR: 'it returns false'. Refute it at one input. -/
def fnExactQuotasValidWrong : ChangeSpec := { name := "fnExactQuotasValid", fn := fun _ => fun
  | [d] => { results := [.lit (.bool false)], args := [d] }
  | _ => none }
def FnExactQuotasValidWrongFalsely : Prop := fnExactQuotasValidRow.holds Try.pinned (OpenSpec.ofChange fnExactQuotasValidWrong)

/-- 'laws.FnExactQuotaRoom': WHATEVER THE INPUT: true; the input reads as it did. -/
def fnExactQuotaRoomSpec : ChangeSpec := { name := "fnExactQuotaRoom", fn := fun _ => fun
  | [d1, d2] => { results := [.lit (.bool true)], args := [d1, d2] }
  | _ => none }
def fnExactQuotaRoomRow : OpenClaim := { program := "ytbedpooicdikjaa", sum := "e9c265424759c6b2ca4bfe8635815d5fbe8ce6245f088a68fe2599b10ab2c21b", func := "loop.example/capkernel/laws.FnExactQuotaRoom", spec := "fnExactQuotaRoom", apart := false }
def FnExactQuotaRoomSaid : Prop := fnExactQuotaRoomRow.holds Try.pinned (OpenSpec.ofChange fnExactQuotaRoomSpec)

/-- ITS FALSE NEIGHBOUR: 'it returns false'. Refute it at one input. -/
def fnExactQuotaRoomWrong : ChangeSpec := { name := "fnExactQuotaRoom", fn := fun _ => fun
  | [d1, d2] => { results := [.lit (.bool false)], args := [d1, d2] }
  | _ => none }
def FnExactQuotaRoomWrongFalsely : Prop := fnExactQuotaRoomRow.holds Try.pinned (OpenSpec.ofChange fnExactQuotaRoomWrong)

/-- 'laws.FnQuotasValid': WHATEVER THE INPUT: true; the input reads as it did. -/
def fnQuotasValidSpec : ChangeSpec := { name := "fnQuotasValid", fn := fun _ => fun
  | [d] => { results := [.lit (.bool true)], args := [d] }
  | _ => none }
def fnQuotasValidRow : OpenClaim := { program := "ytbedpooicdikjaa", sum := "e9c265424759c6b2ca4bfe8635815d5fbe8ce6245f088a68fe2599b10ab2c21b", func := "loop.example/capkernel/laws.FnQuotasValid", spec := "fnQuotasValid", inPlace := ["internal/abi.NoEscape"], apart := false }
def FnQuotasValidSaid : Prop := fnQuotasValidRow.holds Try.pinned (OpenSpec.ofChange fnQuotasValidSpec)

/-- ITS FALSE NEIGHBOUR: 'it returns false'. Refute it at one input. -/
def fnQuotasValidWrong : ChangeSpec := { name := "fnQuotasValid", fn := fun _ => fun
  | [d] => { results := [.lit (.bool false)], args := [d] }
  | _ => none }
def FnQuotasValidWrongFalsely : Prop := fnQuotasValidRow.holds Try.pinned (OpenSpec.ofChange fnQuotasValidWrong)

/-- 'laws.FnExactFreeQuota': WHATEVER THE INPUT: true; the input reads as it did. -/
def fnExactFreeQuotaSpec : ChangeSpec := { name := "fnExactFreeQuota", fn := fun _ => fun
  | [d1, d2, d3] => { results := [.lit (.bool true)], args := [d1, d2, d3] }
  | _ => none }
def fnExactFreeQuotaRow : OpenClaim := { program := "ytbedpooicdikjaa", sum := "e9c265424759c6b2ca4bfe8635815d5fbe8ce6245f088a68fe2599b10ab2c21b", func := "loop.example/capkernel/laws.FnExactFreeQuota", spec := "fnExactFreeQuota", apart := false }
def FnExactFreeQuotaSaid : Prop := fnExactFreeQuotaRow.holds Try.pinned (OpenSpec.ofChange fnExactFreeQuotaSpec)

/-- ITS FALSE NEIGHBOUR: 'it returns false'. Refute it at one input. -/
def fnExactFreeQuotaWrong : ChangeSpec := { name := "fnExactFreeQuota", fn := fun _ => fun
  | [d1, d2, d3] => { results := [.lit (.bool false)], args := [d1, d2, d3] }
  | _ => none }
def FnExactFreeQuotaWrongFalsely : Prop := fnExactFreeQuotaRow.holds Try.pinned (OpenSpec.ofChange fnExactFreeQuotaWrong)

/-- 'laws.FnExactUseQuota': WHATEVER THE INPUT: true; the input reads as it did. -/
def fnExactUseQuotaSpec : ChangeSpec := { name := "fnExactUseQuota", fn := fun _ => fun
  | [d1, d2, d3] => { results := [.lit (.bool true)], args := [d1, d2, d3] }
  | _ => none }
def fnExactUseQuotaRow : OpenClaim := { program := "ytbedpooicdikjaa", sum := "e9c265424759c6b2ca4bfe8635815d5fbe8ce6245f088a68fe2599b10ab2c21b", func := "loop.example/capkernel/laws.FnExactUseQuota", spec := "fnExactUseQuota", apart := false }
def FnExactUseQuotaSaid : Prop := fnExactUseQuotaRow.holds Try.pinned (OpenSpec.ofChange fnExactUseQuotaSpec)

/-- ITS FALSE NEIGHBOUR: 'it returns false'. Refute it at one input. -/
def fnExactUseQuotaWrong : ChangeSpec := { name := "fnExactUseQuota", fn := fun _ => fun
  | [d1, d2, d3] => { results := [.lit (.bool false)], args := [d1, d2, d3] }
  | _ => none }
def FnExactUseQuotaWrongFalsely : Prop := fnExactUseQuotaRow.holds Try.pinned (OpenSpec.ofChange fnExactUseQuotaWrong)

/-- 'laws.FnQuotaRoom': WHATEVER THE INPUT: true; the input reads as it did. -/
def fnQuotaRoomSpec : ChangeSpec := { name := "fnQuotaRoom", fn := fun _ => fun
  | [d] => { results := [.lit (.bool true)], args := [d] }
  | _ => none }
def fnQuotaRoomRow : OpenClaim := { program := "ytbedpooicdikjaa", sum := "e9c265424759c6b2ca4bfe8635815d5fbe8ce6245f088a68fe2599b10ab2c21b", func := "loop.example/capkernel/laws.FnQuotaRoom", spec := "fnQuotaRoom", inPlace := ["internal/abi.NoEscape"], apart := false }
def FnQuotaRoomSaid : Prop := fnQuotaRoomRow.holds Try.pinned (OpenSpec.ofChange fnQuotaRoomSpec)

/-- ITS FALSE NEIGHBOUR: 'it returns false'. Refute it at one input. -/
def fnQuotaRoomWrong : ChangeSpec := { name := "fnQuotaRoom", fn := fun _ => fun
  | [d] => { results := [.lit (.bool false)], args := [d] }
  | _ => none }
def FnQuotaRoomWrongFalsely : Prop := fnQuotaRoomRow.holds Try.pinned (OpenSpec.ofChange fnQuotaRoomWrong)

/-- 'laws.FnQuotaShrinks': WHATEVER THE INPUT: true; the input reads as it did. -/
def fnQuotaShrinksSpec : ChangeSpec := { name := "fnQuotaShrinks", fn := fun _ => fun
  | [d] => { results := [.lit (.bool true)], args := [d] }
  | _ => none }
def fnQuotaShrinksRow : OpenClaim := { program := "ytbedpooicdikjaa", sum := "e9c265424759c6b2ca4bfe8635815d5fbe8ce6245f088a68fe2599b10ab2c21b", func := "loop.example/capkernel/laws.FnQuotaShrinks", spec := "fnQuotaShrinks", inPlace := ["internal/abi.NoEscape"], apart := false }
def FnQuotaShrinksSaid : Prop := fnQuotaShrinksRow.holds Try.pinned (OpenSpec.ofChange fnQuotaShrinksSpec)

/-- ITS FALSE NEIGHBOUR: 'it returns false'. Refute it at one input. -/
def fnQuotaShrinksWrong : ChangeSpec := { name := "fnQuotaShrinks", fn := fun _ => fun
  | [d] => { results := [.lit (.bool false)], args := [d] }
  | _ => none }
def FnQuotaShrinksWrongFalsely : Prop := fnQuotaShrinksRow.holds Try.pinned (OpenSpec.ofChange fnQuotaShrinksWrong)

/-- 'laws.FnUseQuota': WHATEVER THE INPUT: true; the input reads as it did. -/
def fnUseQuotaSpec : ChangeSpec := { name := "fnUseQuota", fn := fun _ => fun
  | [d] => { results := [.lit (.bool true)], args := [d] }
  | _ => none }
def fnUseQuotaRow : OpenClaim := { program := "ytbedpooicdikjaa", sum := "e9c265424759c6b2ca4bfe8635815d5fbe8ce6245f088a68fe2599b10ab2c21b", func := "loop.example/capkernel/laws.FnUseQuota", spec := "fnUseQuota", inPlace := ["internal/abi.NoEscape"], apart := false }
def FnUseQuotaSaid : Prop := fnUseQuotaRow.holds Try.pinned (OpenSpec.ofChange fnUseQuotaSpec)

/-- ITS FALSE NEIGHBOUR: 'it returns false'. Refute it at one input. -/
def fnUseQuotaWrong : ChangeSpec := { name := "fnUseQuota", fn := fun _ => fun
  | [d] => { results := [.lit (.bool false)], args := [d] }
  | _ => none }
def FnUseQuotaWrongFalsely : Prop := fnUseQuotaRow.holds Try.pinned (OpenSpec.ofChange fnUseQuotaWrong)

/-- 'laws.FnFreeQuota': WHATEVER THE INPUT: true; the input reads as it did. -/
def fnFreeQuotaSpec : ChangeSpec := { name := "fnFreeQuota", fn := fun _ => fun
  | [d] => { results := [.lit (.bool true)], args := [d] }
  | _ => none }
def fnFreeQuotaRow : OpenClaim := { program := "ytbedpooicdikjaa", sum := "e9c265424759c6b2ca4bfe8635815d5fbe8ce6245f088a68fe2599b10ab2c21b", func := "loop.example/capkernel/laws.FnFreeQuota", spec := "fnFreeQuota", inPlace := ["internal/abi.NoEscape"], apart := false }
def FnFreeQuotaSaid : Prop := fnFreeQuotaRow.holds Try.pinned (OpenSpec.ofChange fnFreeQuotaSpec)

/-- ITS FALSE NEIGHBOUR: 'it returns false'. Refute it at one input. -/
def fnFreeQuotaWrong : ChangeSpec := { name := "fnFreeQuota", fn := fun _ => fun
  | [d] => { results := [.lit (.bool false)], args := [d] }
  | _ => none }
def FnFreeQuotaWrongFalsely : Prop := fnFreeQuotaRow.holds Try.pinned (OpenSpec.ofChange fnFreeQuotaWrong)

/- THE SECOND FORM. 'bulk': how many values and letters a reading holds, each counted each time it is reached (what is shared counts as often as it is met; a slice's spare places count too). A statement '..UptoSaid' is the law's where the arguments, and the package variables that the reading takes, are together of bulk at most 1048576: NARROWER than '..Said'. Prove '..Said' where nothing that the law and all that it calls make is longer than what came in: it says more and counts as full. Else prove '..UptoSaid'. A law counts once. -/
mutual
def uptoBulk {H : Type} : DataW H → Nat
  | .lit (.string bytes) => bytes.length + 1
  | .lit _ => 1
  | .nil => 1
  | .ptr d => uptoBulk d + 1
  | .slice elems spare => uptoBulkAll elems + uptoBulkAll spare + 1
  | .agg parts => uptoBulkAll parts + 1
  | .iface _ d => uptoBulk d + 1
  | .map entries => uptoBulkEntries entries + 1
  | .held _ => 1
def uptoBulkAll {H : Type} : List (DataW H) → Nat
  | [] => 0
  | d :: r => uptoBulk d + uptoBulkAll r
def uptoBulkEntries {H : Type} : List (Lit × DataW H) → Nat
  | [] => 0
  | x :: r => uptoBulkEntry x + uptoBulkEntries r
def uptoBulkEntry {H : Type} : Lit × DataW H → Nat
  | (.string bytes, d) => bytes.length + uptoBulk d + 1
  | (_, d) => uptoBulk d + 1
 end
def uptoSmall : (H : Type) → List (DataW H) → Bool := fun _ ds => decide (uptoBulkAll ds ≤ 1048576)
def OpenSpec.upto (s : _root_.Go.ChangeSpec) : _root_.Go.OpenSpec := { _root_.Go.OpenSpec.ofChange s with cond := some uptoSmall }

/-- 'laws.FnExactQuotasValid', WHERE WHAT IT READS IS OF BULK AT MOST 1048576: true; the input reads as it did. -/
def fnExactQuotasValidUptoRow : OpenClaim := { program := "ytbedpooicdikjaa", sum := "e9c265424759c6b2ca4bfe8635815d5fbe8ce6245f088a68fe2599b10ab2c21b", func := "loop.example/capkernel/laws.FnExactQuotasValid", spec := "fnExactQuotasValid", apart := false, narrowed := true }
def FnExactQuotasValidUptoSaid : Prop := fnExactQuotasValidUptoRow.holds Try.pinned (OpenSpec.upto fnExactQuotasValidSpec)

/-- 'laws.FnExactQuotaRoom', WHERE WHAT IT READS IS OF BULK AT MOST 1048576: true; the input reads as it did. -/
def fnExactQuotaRoomUptoRow : OpenClaim := { program := "ytbedpooicdikjaa", sum := "e9c265424759c6b2ca4bfe8635815d5fbe8ce6245f088a68fe2599b10ab2c21b", func := "loop.example/capkernel/laws.FnExactQuotaRoom", spec := "fnExactQuotaRoom", apart := false, narrowed := true }
def FnExactQuotaRoomUptoSaid : Prop := fnExactQuotaRoomUptoRow.holds Try.pinned (OpenSpec.upto fnExactQuotaRoomSpec)

/-- 'laws.FnQuotasValid', WHERE WHAT IT READS IS OF BULK AT MOST 1048576: true; the input reads as it did. -/
def fnQuotasValidUptoRow : OpenClaim := { program := "ytbedpooicdikjaa", sum := "e9c265424759c6b2ca4bfe8635815d5fbe8ce6245f088a68fe2599b10ab2c21b", func := "loop.example/capkernel/laws.FnQuotasValid", spec := "fnQuotasValid", inPlace := ["internal/abi.NoEscape"], apart := false, narrowed := true }
def FnQuotasValidUptoSaid : Prop := fnQuotasValidUptoRow.holds Try.pinned (OpenSpec.upto fnQuotasValidSpec)

/-- 'laws.FnExactFreeQuota', WHERE WHAT IT READS IS OF BULK AT MOST 1048576: true; the input reads as it did. -/
def fnExactFreeQuotaUptoRow : OpenClaim := { program := "ytbedpooicdikjaa", sum := "e9c265424759c6b2ca4bfe8635815d5fbe8ce6245f088a68fe2599b10ab2c21b", func := "loop.example/capkernel/laws.FnExactFreeQuota", spec := "fnExactFreeQuota", apart := false, narrowed := true }
def FnExactFreeQuotaUptoSaid : Prop := fnExactFreeQuotaUptoRow.holds Try.pinned (OpenSpec.upto fnExactFreeQuotaSpec)

/-- 'laws.FnExactUseQuota', WHERE WHAT IT READS IS OF BULK AT MOST 1048576: true; the input reads as it did. -/
def fnExactUseQuotaUptoRow : OpenClaim := { program := "ytbedpooicdikjaa", sum := "e9c265424759c6b2ca4bfe8635815d5fbe8ce6245f088a68fe2599b10ab2c21b", func := "loop.example/capkernel/laws.FnExactUseQuota", spec := "fnExactUseQuota", apart := false, narrowed := true }
def FnExactUseQuotaUptoSaid : Prop := fnExactUseQuotaUptoRow.holds Try.pinned (OpenSpec.upto fnExactUseQuotaSpec)

/-- 'laws.FnQuotaRoom', WHERE WHAT IT READS IS OF BULK AT MOST 1048576: true; the input reads as it did. -/
def fnQuotaRoomUptoRow : OpenClaim := { program := "ytbedpooicdikjaa", sum := "e9c265424759c6b2ca4bfe8635815d5fbe8ce6245f088a68fe2599b10ab2c21b", func := "loop.example/capkernel/laws.FnQuotaRoom", spec := "fnQuotaRoom", inPlace := ["internal/abi.NoEscape"], apart := false, narrowed := true }
def FnQuotaRoomUptoSaid : Prop := fnQuotaRoomUptoRow.holds Try.pinned (OpenSpec.upto fnQuotaRoomSpec)

/-- 'laws.FnQuotaShrinks', WHERE WHAT IT READS IS OF BULK AT MOST 1048576: true; the input reads as it did. -/
def fnQuotaShrinksUptoRow : OpenClaim := { program := "ytbedpooicdikjaa", sum := "e9c265424759c6b2ca4bfe8635815d5fbe8ce6245f088a68fe2599b10ab2c21b", func := "loop.example/capkernel/laws.FnQuotaShrinks", spec := "fnQuotaShrinks", inPlace := ["internal/abi.NoEscape"], apart := false, narrowed := true }
def FnQuotaShrinksUptoSaid : Prop := fnQuotaShrinksUptoRow.holds Try.pinned (OpenSpec.upto fnQuotaShrinksSpec)

/-- 'laws.FnUseQuota', WHERE WHAT IT READS IS OF BULK AT MOST 1048576: true; the input reads as it did. -/
def fnUseQuotaUptoRow : OpenClaim := { program := "ytbedpooicdikjaa", sum := "e9c265424759c6b2ca4bfe8635815d5fbe8ce6245f088a68fe2599b10ab2c21b", func := "loop.example/capkernel/laws.FnUseQuota", spec := "fnUseQuota", inPlace := ["internal/abi.NoEscape"], apart := false, narrowed := true }
def FnUseQuotaUptoSaid : Prop := fnUseQuotaUptoRow.holds Try.pinned (OpenSpec.upto fnUseQuotaSpec)

/-- 'laws.FnFreeQuota', WHERE WHAT IT READS IS OF BULK AT MOST 1048576: true; the input reads as it did. -/
def fnFreeQuotaUptoRow : OpenClaim := { program := "ytbedpooicdikjaa", sum := "e9c265424759c6b2ca4bfe8635815d5fbe8ce6245f088a68fe2599b10ab2c21b", func := "loop.example/capkernel/laws.FnFreeQuota", spec := "fnFreeQuota", inPlace := ["internal/abi.NoEscape"], apart := false, narrowed := true }
def FnFreeQuotaUptoSaid : Prop := fnFreeQuotaUptoRow.holds Try.pinned (OpenSpec.upto fnFreeQuotaSpec)

end Rows
end Go.Proofs.Ytbedpooicdikjaa
