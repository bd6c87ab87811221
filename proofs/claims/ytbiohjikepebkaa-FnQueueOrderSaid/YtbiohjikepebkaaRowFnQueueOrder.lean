/-
  The law FnQueueOrder returns true for every input, and the input reads afterwards as it did: no condition.
-/
import Derived.Test.YtbiohjikepebkaaRows
import Derived.Test.YtbiohjikepebkaaWalk
import Derived.Test.YtbiohjikepebkaaLaw9
import Derived.WalkKit
import Derived.ProofKit
import Derived.OpenShut
import Derived.Test.YtbiohjikepebkaaFacts
namespace Go.Proofs.Ytbiohjikepebkaa.fnQueueOrder
open Go.ChangeShapes Go.WideShapes Go.ChangeAt Go.RowKit Go.Ev
set_option linter.unusedVariables false
set_option maxRecDepth 100000

theorem pr : Try.checked.prog = Try.prog := rfl

theorem own : ownKnob Try.prog.godebug = none := by kernel_rfl

theorem call (x : (((.cons (.sl (.int .u8)) (.cons (.sl (.int .u8)) .nil)) : Ty)).D) (hx : WfD (.cons (.sl (.int .u8)) (.cons (.sl (.int .u8)) .nil)) x) : SemCall Try.prog 13 (unpackA (.cons (.sl (.int .u8)) (.cons (.sl (.int .u8)) .nil)) x) [] (.d .bool true) [] :=
  sem_94 x true (FnQueueOrder_law x.1 x.2.1 hx)

theorem contract (H : Type) (enc : TypeId × Value → H) (W : World) (base : Nat) (args : Array Value) (ds gs : List (DataW H)) (before : List MemPlace)
    (hval : ∀ (j : Nat) t v, Try.f13.params[j]? = some t → args[j]? = some v → Value.okWide Try.prog W .any base t v)
    (hW : DataW.Whole enc Try.prog Try.f13.params.toList Rows.fnQueueOrderSpec.vars false W args.toList ds gs before) :
    Calls Try.prog 13 args W fun e W' => ∃ v, e = .returned v ∧ Rows.fnQueueOrderSpec.post enc Try.prog Try.f13 false true false false W args v W' :=
  row_contract (A := (.cons (.sl (.int .u8)) (.cons (.sl (.int .u8)) .nil))) (tb := 4) (by kernel_rfl) (Nat.zero_le _) Try.underlying4 (by kernel_rfl) (by kernel_rfl) (by kernel_rfl) rfl
    (fun ds hd => by
      have hd' : ds.length = 2 := hd
      match ds, hd' with
      | [d0, d1], _ => rfl)
    (fun x hx => call x hx) ⟨_, _, Try.func13, rfl, by kernel_rfl⟩ W base args ds gs before hval hW

theorem lifted (os : Os) (started : os.Started) (H : Type) (enc : TypeId × Value → H) :
    ReturnsInHanded {} Try.checked os 13 .any (Rows.fnQueueOrderSpec.pre6 enc Try.prog Try.f13 Rows.fnQueueOrderRow.domain false) (Rows.fnQueueOrderSpec.post enc Try.prog Try.f13 false true false false) := by
  refine returnsInHanded_of_change (C := Try.checked) own started (by kernel_rfl) Try.func13
    (ChangeSpec.witness6 (enc := enc) (C := Try.checked) false ⟨#[], #[.slice none 0 0, .slice none 0 0], []⟩ 8 (by kernel_rfl) (by kernel_rfl) (by kernel_rfl) (by kernel_rfl)) ?_
  intro W base args ds gs before hval hW _ _
  rw [pr] at hval hW ⊢
  have h := contract H enc W base args ds gs before hval hW
  exact h

theorem closed : joinedFacts Try.pinned.checked.prog 13 Try.f13 Rows.fnQueueOrderSpec Rows.fnQueueOrderRow = true := by
  unfold joinedFacts
  simp only [Bool.and_eq_true]
  refine ⟨⟨⟨⟨⟨⟨⟨⟨⟨⟨⟨⟨⟨⟨⟨⟨⟨⟨⟨⟨⟨⟨⟨⟨⟨⟨⟨⟨⟨⟨⟨?_, ?_⟩, ?_⟩, ?_⟩, ?_⟩, ?_⟩, ?_⟩, ?_⟩, ?_⟩, ?_⟩, ?_⟩, ?_⟩, ?_⟩, ?_⟩, ?_⟩, ?_⟩, ?_⟩, ?_⟩, ?_⟩, ?_⟩, ?_⟩, ?_⟩, ?_⟩, ?_⟩, ?_⟩, fMayEnter⟩, (by rw [fLifts]; rfl)⟩, (show (Try.pinned.checked.prog.make == some fRow.make) = true from fMake)⟩, ?_⟩, ?_⟩, ?_⟩, ?_⟩ <;> (as_aux_lemma => kernel_rfl)

theorem proved : Rows.FnQueueOrderSaid :=
  OpenClaim.holds_of_wide 13 Try.f13 rfl rfl rfl rfl rfl rfl rfl ⟨rfl, rfl, rfl, rfl, rfl⟩ rfl rfl rfl rfl rfl (by kernel_rfl) Try.func13 closed
    (of_decide_eq_true (by kernel_rfl)) (by unfold Func.isWrapper; first | (rw [if_pos (by decide +kernel)]; kernel_rfl) | (rw [if_neg (by decide +kernel)]; exact ⟨rfl, rfl⟩))
    (fun os started H enc _ => lifted os started H enc)

end Go.Proofs.Ytbiohjikepebkaa.fnQueueOrder
