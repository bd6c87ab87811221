/-
  No cell of these rows narrows 'for every input' (looked for: loops, veiled, ifaces, maps, wideKeys, modest, calm, conditions, laid).
  DERIVED. THE GIVEN ROWS OF THIS SEAT. 8 by the template 'for every input the law returns true; each argument reads behind the call as it read before'; 0 by the template 'total and deterministic' (their statements: YtmflmnknhlippaaTotals.lean).
  GIVEN WITH THE SEED: the statements are not yours to turn. If you find one false, say at which input.
  Laid BY PROGRAM, IN A SANDBOX (cutbox-rows.mjs): the forced cells as the released guide's own fill.sh prints them over the translation cc69c61ff0bbecaa… (all of the seat's roots in one cut). By AI agents, Wed Nov 11 2026. No macro, syntax, notation, axiom, sorry.
-/
import Derived.Test.YtmflmnknhlippaaChecked
import GoSem.Claim
import GoSem.ClaimJoined
import GoSem.ClaimMapViews
import Derived.JoinedTies
import Derived.KernelRfl
namespace Go.Proofs.Ytmflmnknhlippaa
/- THE CELL 'sum', in the pinned program and in every row, IS THE sha256 OF THE DUMP (.gsa) THAT YtmflmnknhlippaaProg.lean LOADS. Nothing in Lean hashes anything: it is a label: what it is worth is what the hold of that sum in a sandbox is worth. -/
noncomputable def Try.pinned : Pinned := { name := "ytmflmnknhlippaa", sum := "cc69c61ff0bbecaa5179155c3bc2b7f7c4aa4bc92588017650bb1941f940ff41", checked := Try.checked }
namespace Rows
def none {H : Type} : Left H := { results := [], args := [] }

/-- 'laws.FnNamesValid': WHATEVER THE INPUT: true; the input reads as it did. -/
def fnNamesValidSpec : ChangeSpec := { name := "fnNamesValid", fn := fun _ => fun
  | [d] => { results := [.lit (.bool true)], args := [d] }
  | _ => none }
def fnNamesValidRow : OpenClaim := { program := "ytmflmnknhlippaa", sum := "cc69c61ff0bbecaa5179155c3bc2b7f7c4aa4bc92588017650bb1941f940ff41", func := "loop.example/capkernel/laws.FnNamesValid", spec := "fnNamesValid", inPlace := ["internal/abi.NoEscape"], apart := false }
def FnNamesValidSaid : Prop := fnNamesValidRow.holds Try.pinned (OpenSpec.ofChange fnNamesValidSpec)

/-- ITS FALSE NEIGHBOUR: 'it returns false'. Refute it at one input. -/
def fnNamesValidWrong : ChangeSpec := { name := "fnNamesValid", fn := fun _ => fun
  | [d] => { results := [.lit (.bool false)], args := [d] }
  | _ => none }
def FnNamesValidWrongFalsely : Prop := fnNamesValidRow.holds Try.pinned (OpenSpec.ofChange fnNamesValidWrong)

/-- 'laws.FnExactFindName': WHATEVER THE INPUT: true; the input reads as it did. -/
def fnExactFindNameSpec : ChangeSpec := { name := "fnExactFindName", fn := fun _ => fun
  | [d1, d2] => { results := [.lit (.bool true)], args := [d1, d2] }
  | _ => none }
def fnExactFindNameRow : OpenClaim := { program := "ytmflmnknhlippaa", sum := "cc69c61ff0bbecaa5179155c3bc2b7f7c4aa4bc92588017650bb1941f940ff41", func := "loop.example/capkernel/laws.FnExactFindName", spec := "fnExactFindName", unfollowed := true, recurses := true, apart := false }
def FnExactFindNameSaid : Prop := fnExactFindNameRow.holds Try.pinned (OpenSpec.ofChange fnExactFindNameSpec)

/-- ITS FALSE NEIGHBOUR: 'it returns false'. Refute it at one input. -/
def fnExactFindNameWrong : ChangeSpec := { name := "fnExactFindName", fn := fun _ => fun
  | [d1, d2] => { results := [.lit (.bool false)], args := [d1, d2] }
  | _ => none }
def FnExactFindNameWrongFalsely : Prop := fnExactFindNameRow.holds Try.pinned (OpenSpec.ofChange fnExactFindNameWrong)

/-- 'laws.FnExactDropNames': WHATEVER THE INPUT: true; the input reads as it did. -/
def fnExactDropNamesSpec : ChangeSpec := { name := "fnExactDropNames", fn := fun _ => fun
  | [d1, d2] => { results := [.lit (.bool true)], args := [d1, d2] }
  | _ => none }
def fnExactDropNamesRow : OpenClaim := { program := "ytmflmnknhlippaa", sum := "cc69c61ff0bbecaa5179155c3bc2b7f7c4aa4bc92588017650bb1941f940ff41", func := "loop.example/capkernel/laws.FnExactDropNames", spec := "fnExactDropNames", unfollowed := true, recurses := true, apart := false }
def FnExactDropNamesSaid : Prop := fnExactDropNamesRow.holds Try.pinned (OpenSpec.ofChange fnExactDropNamesSpec)

/-- ITS FALSE NEIGHBOUR: 'it returns false'. Refute it at one input. -/
def fnExactDropNamesWrong : ChangeSpec := { name := "fnExactDropNames", fn := fun _ => fun
  | [d1, d2] => { results := [.lit (.bool false)], args := [d1, d2] }
  | _ => none }
def FnExactDropNamesWrongFalsely : Prop := fnExactDropNamesRow.holds Try.pinned (OpenSpec.ofChange fnExactDropNamesWrong)

/-- 'laws.FnFindName': WHATEVER THE INPUT: true; the input reads as it did. -/
def fnFindNameSpec : ChangeSpec := { name := "fnFindName", fn := fun _ => fun
  | [d] => { results := [.lit (.bool true)], args := [d] }
  | _ => none }
def fnFindNameRow : OpenClaim := { program := "ytmflmnknhlippaa", sum := "cc69c61ff0bbecaa5179155c3bc2b7f7c4aa4bc92588017650bb1941f940ff41", func := "loop.example/capkernel/laws.FnFindName", spec := "fnFindName", inPlace := ["internal/abi.NoEscape"], unfollowed := true, recurses := true, apart := false }
def FnFindNameSaid : Prop := fnFindNameRow.holds Try.pinned (OpenSpec.ofChange fnFindNameSpec)

/-- ITS FALSE NEIGHBOUR: 'it returns false'. Refute it at one input. -/
def fnFindNameWrong : ChangeSpec := { name := "fnFindName", fn := fun _ => fun
  | [d] => { results := [.lit (.bool false)], args := [d] }
  | _ => none }
def FnFindNameWrongFalsely : Prop := fnFindNameRow.holds Try.pinned (OpenSpec.ofChange fnFindNameWrong)

/-- 'laws.FnDropNames': WHATEVER THE INPUT: true; the input reads as it did. -/
def fnDropNamesSpec : ChangeSpec := { name := "fnDropNames", fn := fun _ => fun
  | [d] => { results := [.lit (.bool true)], args := [d] }
  | _ => none }
def fnDropNamesRow : OpenClaim := { program := "ytmflmnknhlippaa", sum := "cc69c61ff0bbecaa5179155c3bc2b7f7c4aa4bc92588017650bb1941f940ff41", func := "loop.example/capkernel/laws.FnDropNames", spec := "fnDropNames", inPlace := ["internal/abi.NoEscape"], unfollowed := true, recurses := true, apart := false }
def FnDropNamesSaid : Prop := fnDropNamesRow.holds Try.pinned (OpenSpec.ofChange fnDropNamesSpec)

/-- ITS FALSE NEIGHBOUR: 'it returns false'. Refute it at one input. -/
def fnDropNamesWrong : ChangeSpec := { name := "fnDropNames", fn := fun _ => fun
  | [d] => { results := [.lit (.bool false)], args := [d] }
  | _ => none }
def FnDropNamesWrongFalsely : Prop := fnDropNamesRow.holds Try.pinned (OpenSpec.ofChange fnDropNamesWrong)

/-- 'laws.FnExactPutName': WHATEVER THE INPUT: true; the input reads as it did. -/
def fnExactPutNameSpec : ChangeSpec := { name := "fnExactPutName", fn := fun _ => fun
  | [d1, d2] => { results := [.lit (.bool true)], args := [d1, d2] }
  | _ => none }
def fnExactPutNameRow : OpenClaim := { program := "ytmflmnknhlippaa", sum := "cc69c61ff0bbecaa5179155c3bc2b7f7c4aa4bc92588017650bb1941f940ff41", func := "loop.example/capkernel/laws.FnExactPutName", spec := "fnExactPutName", inPlace := ["slices.overlaps[loop.example/capkernel/impl.Name]"], unfollowed := true, recurses := true, apart := false }
def FnExactPutNameSaid : Prop := fnExactPutNameRow.holds Try.pinned (OpenSpec.ofChange fnExactPutNameSpec)

/-- ITS FALSE NEIGHBOUR: 'it returns false'. Refute it at one input. -/
def fnExactPutNameWrong : ChangeSpec := { name := "fnExactPutName", fn := fun _ => fun
  | [d1, d2] => { results := [.lit (.bool false)], args := [d1, d2] }
  | _ => none }
def FnExactPutNameWrongFalsely : Prop := fnExactPutNameRow.holds Try.pinned (OpenSpec.ofChange fnExactPutNameWrong)

/-- 'laws.FnPutName': WHATEVER THE INPUT: true; the input reads as it did. -/
def fnPutNameSpec : ChangeSpec := { name := "fnPutName", fn := fun _ => fun
  | [d] => { results := [.lit (.bool true)], args := [d] }
  | _ => none }
def fnPutNameRow : OpenClaim := { program := "ytmflmnknhlippaa", sum := "cc69c61ff0bbecaa5179155c3bc2b7f7c4aa4bc92588017650bb1941f940ff41", func := "loop.example/capkernel/laws.FnPutName", spec := "fnPutName", inPlace := ["slices.overlaps[loop.example/capkernel/impl.Name]", "internal/abi.NoEscape"], unfollowed := true, recurses := true, apart := false }
def FnPutNameSaid : Prop := fnPutNameRow.holds Try.pinned (OpenSpec.ofChange fnPutNameSpec)

/-- ITS FALSE NEIGHBOUR: 'it returns false'. Refute it at one input. -/
def fnPutNameWrong : ChangeSpec := { name := "fnPutName", fn := fun _ => fun
  | [d] => { results := [.lit (.bool false)], args := [d] }
  | _ => none }
def FnPutNameWrongFalsely : Prop := fnPutNameRow.holds Try.pinned (OpenSpec.ofChange fnPutNameWrong)

/-- 'laws.FnNamesBack': WHATEVER THE INPUT: true; the input reads as it did. -/
def fnNamesBackSpec : ChangeSpec := { name := "fnNamesBack", fn := fun _ => fun
  | [d] => { results := [.lit (.bool true)], args := [d] }
  | _ => none }
def fnNamesBackRow : OpenClaim := { program := "ytmflmnknhlippaa", sum := "cc69c61ff0bbecaa5179155c3bc2b7f7c4aa4bc92588017650bb1941f940ff41", func := "loop.example/capkernel/laws.FnNamesBack", spec := "fnNamesBack", inPlace := ["slices.overlaps[loop.example/capkernel/impl.Name]", "internal/abi.NoEscape"], unfollowed := true, recurses := true, apart := false }
def FnNamesBackSaid : Prop := fnNamesBackRow.holds Try.pinned (OpenSpec.ofChange fnNamesBackSpec)

/-- ITS FALSE NEIGHBOUR: 'it returns false'. Refute it at one input. -/
def fnNamesBackWrong : ChangeSpec := { name := "fnNamesBack", fn := fun _ => fun
  | [d] => { results := [.lit (.bool false)], args := [d] }
  | _ => none }
def FnNamesBackWrongFalsely : Prop := fnNamesBackRow.holds Try.pinned (OpenSpec.ofChange fnNamesBackWrong)

/- THE SECOND FORM. 'bulk': how many values and letters a reading holds, each counted each time it is reached (what is shared counts as often as it is met; a slice's spare places count too). A statement '..UptoSaid' is the law's where the arguments, and the package variables that the reading takes, are together of bulk at most 1048576: NARROWER than '..Said'. Prove '..Said' where nothing that the law and all that it calls make is longer than what came in: it says more and counts as full. Else prove '..UptoSaid'. A law counts once. -/
mutual
def uptoBulk {H : Type} : DataW H → Nat
  | .lit (.string bytes) => bytes.length + 1
  | .lit _ => 1
  | .nil => 1
  | .ptr d => uptoBulk d + 1
  | .slice elems spare => uptoBulkAll elems + uptoBulkAll spare + 1
  | .agg parts => uptoBulkAll parts + 1
  | .iface _ d => uptoBulk d + 1
  | .map entries => uptoBulkEntries entries + 1
  | .held _ => 1
def uptoBulkAll {H : Type} : List (DataW H) → Nat
  | [] => 0
  | d :: r => uptoBulk d + uptoBulkAll r
def uptoBulkEntries {H : Type} : List (Lit × DataW H) → Nat
  | [] => 0
  | x :: r => uptoBulkEntry x + uptoBulkEntries r
def uptoBulkEntry {H : Type} : Lit × DataW H → Nat
  | (.string bytes, d) => bytes.length + uptoBulk d + 1
  | (_, d) => uptoBulk d + 1
 end
def uptoSmall : (H : Type) → List (DataW H) → Bool := fun _ ds => decide (uptoBulkAll ds ≤ 1048576)
def OpenSpec.upto (s : _root_.Go.ChangeSpec) : _root_.Go.OpenSpec := { _root_.Go.OpenSpec.ofChange s with cond := some uptoSmall }

/-- 'laws.FnNamesValid', WHERE WHAT IT READS IS OF BULK AT MOST 1048576: true; the input reads as it did. -/
def fnNamesValidUptoRow : OpenClaim := { program := "ytmflmnknhlippaa", sum := "cc69c61ff0bbecaa5179155c3bc2b7f7c4aa4bc92588017650bb1941f940ff41", func := "loop.example/capkernel/laws.FnNamesValid", spec := "fnNamesValid", inPlace := ["internal/abi.NoEscape"], apart := false, narrowed := true }
def FnNamesValidUptoSaid : Prop := fnNamesValidUptoRow.holds Try.pinned (OpenSpec.upto fnNamesValidSpec)

/-- 'laws.FnExactFindName', WHERE WHAT IT READS IS OF BULK AT MOST 1048576: true; the input reads as it did. -/
def fnExactFindNameUptoRow : OpenClaim := { program := "ytmflmnknhlippaa", sum := "cc69c61ff0bbecaa5179155c3bc2b7f7c4aa4bc92588017650bb1941f940ff41", func := "loop.example/capkernel/laws.FnExactFindName", spec := "fnExactFindName", unfollowed := true, recurses := true, apart := false, narrowed := true }
def FnExactFindNameUptoSaid : Prop := fnExactFindNameUptoRow.holds Try.pinned (OpenSpec.upto fnExactFindNameSpec)

/-- 'laws.FnExactDropNames', WHERE WHAT IT READS IS OF BULK AT MOST 1048576: true; the input reads as it did. -/
def fnExactDropNamesUptoRow : OpenClaim := { program := "ytmflmnknhlippaa", sum := "cc69c61ff0bbecaa5179155c3bc2b7f7c4aa4bc92588017650bb1941f940ff41", func := "loop.example/capkernel/laws.FnExactDropNames", spec := "fnExactDropNames", unfollowed := true, recurses := true, apart := false, narrowed := true }
def FnExactDropNamesUptoSaid : Prop := fnExactDropNamesUptoRow.holds Try.pinned (OpenSpec.upto fnExactDropNamesSpec)

/-- 'laws.FnFindName', WHERE WHAT IT READS IS OF BULK AT MOST 1048576: true; the input reads as it did. -/
def fnFindNameUptoRow : OpenClaim := { program := "ytmflmnknhlippaa", sum := "cc69c61ff0bbecaa5179155c3bc2b7f7c4aa4bc92588017650bb1941f940ff41", func := "loop.example/capkernel/laws.FnFindName", spec := "fnFindName", inPlace := ["internal/abi.NoEscape"], unfollowed := true, recurses := true, apart := false, narrowed := true }
def FnFindNameUptoSaid : Prop := fnFindNameUptoRow.holds Try.pinned (OpenSpec.upto fnFindNameSpec)

/-- 'laws.FnDropNames', WHERE WHAT IT READS IS OF BULK AT MOST 1048576: true; the input reads as it did. -/
def fnDropNamesUptoRow : OpenClaim := { program := "ytmflmnknhlippaa", sum := "cc69c61ff0bbecaa5179155c3bc2b7f7c4aa4bc92588017650bb1941f940ff41", func := "loop.example/capkernel/laws.FnDropNames", spec := "fnDropNames", inPlace := ["internal/abi.NoEscape"], unfollowed := true, recurses := true, apart := false, narrowed := true }
def FnDropNamesUptoSaid : Prop := fnDropNamesUptoRow.holds Try.pinned (OpenSpec.upto fnDropNamesSpec)

/-- 'laws.FnExactPutName', WHERE WHAT IT READS IS OF BULK AT MOST 1048576: true; the input reads as it did. -/
def fnExactPutNameUptoRow : OpenClaim := { program := "ytmflmnknhlippaa", sum := "cc69c61ff0bbecaa5179155c3bc2b7f7c4aa4bc92588017650bb1941f940ff41", func := "loop.example/capkernel/laws.FnExactPutName", spec := "fnExactPutName", inPlace := ["slices.overlaps[loop.example/capkernel/impl.Name]"], unfollowed := true, recurses := true, apart := false, narrowed := true }
def FnExactPutNameUptoSaid : Prop := fnExactPutNameUptoRow.holds Try.pinned (OpenSpec.upto fnExactPutNameSpec)

/-- 'laws.FnPutName', WHERE WHAT IT READS IS OF BULK AT MOST 1048576: true; the input reads as it did. -/
def fnPutNameUptoRow : OpenClaim := { program := "ytmflmnknhlippaa", sum := "cc69c61ff0bbecaa5179155c3bc2b7f7c4aa4bc92588017650bb1941f940ff41", func := "loop.example/capkernel/laws.FnPutName", spec := "fnPutName", inPlace := ["slices.overlaps[loop.example/capkernel/impl.Name]", "internal/abi.NoEscape"], unfollowed := true, recurses := true, apart := false, narrowed := true }
def FnPutNameUptoSaid : Prop := fnPutNameUptoRow.holds Try.pinned (OpenSpec.upto fnPutNameSpec)

/-- 'laws.FnNamesBack', WHERE WHAT IT READS IS OF BULK AT MOST 1048576: true; the input reads as it did. -/
def fnNamesBackUptoRow : OpenClaim := { program := "ytmflmnknhlippaa", sum := "cc69c61ff0bbecaa5179155c3bc2b7f7c4aa4bc92588017650bb1941f940ff41", func := "loop.example/capkernel/laws.FnNamesBack", spec := "fnNamesBack", inPlace := ["slices.overlaps[loop.example/capkernel/impl.Name]", "internal/abi.NoEscape"], unfollowed := true, recurses := true, apart := false, narrowed := true }
def FnNamesBackUptoSaid : Prop := fnNamesBackUptoRow.holds Try.pinned (OpenSpec.upto fnNamesBackSpec)

end Rows
end Go.Proofs.Ytmflmnknhlippaa
