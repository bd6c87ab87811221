/-
  The law FnExactEndpointSend returns true for every input, and the input reads afterwards as it did: no condition.
-/
import Derived.Test.YtabemkafgnhddaaRows
import Derived.Test.YtabemkafgnhddaaWalk
import Derived.Test.YtabemkafgnhddaaLaw8
import Derived.WalkKit
import Derived.ProofKit
import Derived.OpenShut
namespace Go.Proofs.Ytabemkafgnhddaa.fnExactEndpointSend
open Go.ChangeShapes Go.WideShapes Go.ChangeAt Go.RowKit Go.Ev
set_option linter.unusedVariables false
set_option maxRecDepth 100000

theorem pr : Try.checked.prog = Try.prog := rfl

theorem own : ownKnob Try.prog.godebug = none := by kernel_rfl

theorem call (x : (((.cons tEndpoint (.cons tWaiter .nil)) : Ty)).D) (hx : WfD (.cons tEndpoint (.cons tWaiter .nil)) x) : SemCall Try.prog 7 (unpackA (.cons tEndpoint (.cons tWaiter .nil)) x) [] (.d .bool true) [] :=
  sem_52 x true (FnExactEndpointSend_law x.1 x.2.1 hx)

theorem contract (H : Type) (enc : TypeId × Value → H) (W : World) (base : Nat) (args : Array Value) (ds gs : List (DataW H)) (before : List MemPlace)
    (hval : ∀ (j : Nat) t v, Try.f7.params[j]? = some t → args[j]? = some v → Value.okWide Try.prog W .any base t v)
    (hW : DataW.Whole enc Try.prog Try.f7.params.toList Rows.fnExactEndpointSendSpec.vars false W args.toList ds gs before) :
    Calls Try.prog 7 args W fun e W' => ∃ v, e = .returned v ∧ Rows.fnExactEndpointSendSpec.post enc Try.prog Try.f7 false true false false W args v W' :=
  row_contract (A := (.cons tEndpoint (.cons tWaiter .nil))) (tb := 4) (by kernel_rfl) (Nat.zero_le _) Try.underlying4 (by kernel_rfl) (by kernel_rfl) (by kernel_rfl) rfl
    (fun ds hd => by
      have hd' : ds.length = 2 := hd
      match ds, hd' with
      | [d0, d1], _ => rfl)
    (fun x hx => call x hx) ⟨_, _, Try.func7, rfl, by kernel_rfl⟩ W base args ds gs before hval hW

theorem lifted (os : Os) (started : os.Started) (H : Type) (enc : TypeId × Value → H) :
    ReturnsInHanded {} Try.checked os 7 .any (Rows.fnExactEndpointSendSpec.pre6 enc Try.prog Try.f7 Rows.fnExactEndpointSendRow.domain false) (Rows.fnExactEndpointSendSpec.post enc Try.prog Try.f7 false true false false) := by
  refine returnsInHanded_of_change (C := Try.checked) own started (by kernel_rfl) Try.func7
    (ChangeSpec.witness6 (enc := enc) (C := Try.checked) false ⟨#[], #[.agg #[.bool false, .slice none 0 0], .agg #[.int .i64 0, .int .i64 0, .int .i64 0, .int .i64 0]], []⟩ 8 (by kernel_rfl) (by kernel_rfl) (by kernel_rfl) (by kernel_rfl)) ?_
  intro W base args ds gs before hval hW _ _
  rw [pr] at hval hW ⊢
  have h := contract H enc W base args ds gs before hval hW
  exact h

theorem proved : Rows.FnExactEndpointSendSaid :=
  OpenClaim.holds_of_wide 7 Try.f7 rfl rfl rfl rfl rfl rfl rfl ⟨rfl, rfl, rfl, rfl, rfl⟩ rfl rfl rfl rfl rfl (by kernel_rfl) Try.func7 (by kernel_rfl)
    (of_decide_eq_true (by kernel_rfl)) (by unfold Func.isWrapper; first | (rw [if_pos (by decide +kernel)]; kernel_rfl) | (rw [if_neg (by decide +kernel)]; exact ⟨rfl, rfl⟩))
    (fun os started H enc _ => lifted os started H enc)

end Go.Proofs.Ytabemkafgnhddaa.fnExactEndpointSend
