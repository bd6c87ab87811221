/-
  Three facts of the program that every row of it asks for, reckoned once.
-/
import Derived.Test.YtbiohjikepebkaaRows
import Derived.WalkKit
import Derived.ProofKit
import Derived.OpenShut
namespace Go.Ev
open Go.Proofs Go.Proofs.Ytbiohjikepebkaa
def fRow : OpenClaim := Rows.fnNewQueuesRow
theorem fMayEnter : Try.pinned.checked.prog.mayEnter = true := by kernel_rfl
theorem fLifts : Try.pinned.checked.prog.liftsFinal = fRow.lifted := by kernel_rfl
theorem fMake : (Try.pinned.checked.prog.make == some fRow.make) = true := by kernel_rfl
end Go.Ev
