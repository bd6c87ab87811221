/-
  Sending: the program does what the reference does.
-/
import Derived.Test.YtabemkafgnhddaaLaw4
namespace Go.Ev
set_option linter.unusedVariables false
set_option linter.unusedSimpArgs false
set_option maxRecDepth 100000
set_option synthInstance.maxSize 2000
set_option synthInstance.maxHeartbeats 400000
/-! ### sending: the program does what the reference does -/

theorem FnExactEndpointSend_law (e : DEndpoint) (w : DWaiter) (h : WfD (.cons tEndpoint (.cons tWaiter .nil)) (e, w, ())) : laws_FnExactEndpointSend e w = some true := by
  have hl : e.2.1.length ≤ 9223372036854775807 := by have := h.1.2.1.1; simp only [maxLen] at this; omega
  have em : (e.1, e.2.1, ()) = e := rfl
  have ew : (w.1, w.2.1, w.2.2.1, w.2.2.2.1, ()) = w := rfl
  have hw : laws_toWaiter w = some w := rfl
  unfold laws_FnExactEndpointSend laws_FnExactEndpointSendK
  rw [em, ew, szEndpoint_ok e hl]
  by_cases hs : e.2.1.length ≤ 1048576
  · have h0 : ¬ (1048576 - (e.2.1.length : Int) < 0) := by omega
    have hc := sendE_length e w
    have k1 : ¬ ((1 : Int) + 4 * ((sendE e w).2.2.length : Int) < 0) := by omega
    have k2 : ¬ ((1 : Int) + 4 * (e.2.1.length : Int) < 0) := by omega
    simp [hs, h0, hw, toEndpoint_ok e (by omega), impl_EndpointSend_ok e w (by omega), spec_EndpointSend_ok e w (by omega), eqEndpoint_ok e e (by omega), eqEndpoint_ok ((sendE e w).1, (sendE e w).2.2, ()) ((sendE e w).1, (sendE e w).2.2, ()) (show (sendE e w).2.2.length ≤ 1048577 by omega),
      markEndpoint_ok e.1 e.2.1 (by omega), markEndpoint_ok (sendE e w).1 (sendE e w).2.2 (by omega), heldEndpoint_ok (sendE e w).1 (sendE e w).2.2.length (by omega), k1, k2]
  · simp [hs]

end Go.Ev
