/-
  Endpoints: the check of what was drawn.
-/
import Derived.Test.YtabemkafgnhddaaLaw3
namespace Go.Ev
set_option linter.unusedVariables false
set_option linter.unusedSimpArgs false
set_option maxRecDepth 100000
set_option synthInstance.maxSize 2000
set_option synthInstance.maxHeartbeats 400000
/-! ### the check: the law of what was drawn -/

theorem DrawEndpointValid_ok (code : List Int) (hc : ∀ x ∈ code, 0 ≤ x ∧ x ≤ 255) : ∃ s xs, spec_DrawEndpointValid code = some (s, xs) ∧ xs.length ≤ 12 := by
  unfold spec_DrawEndpointValid spec_DrawEndpointValidK
  obtain ⟨b, e, hb⟩ := openE code hc
  obtain ⟨s, b1, xs, e1, hb1, hl⟩ := l20Endpoint_ok 2 b (by omega) (hb.mono (by omega))
  simp only [e, e1, some_bind']
  exact ⟨s, xs, rfl, hl⟩

theorem vE_take {s : Bool} {xs : List DWaiter} (h : vE s xs) (h0 : 0 < xs.length) : vE s (xs.take 1) := by
  obtain ⟨h1, h2, h3, _⟩ := h
  exact ⟨fun x hx => h1 x (List.mem_of_mem_take hx), h2.sublist (List.take_sublist 1 xs), h3.sublist (List.take_sublist 1 xs), .inl (by simp; omega)⟩

theorem vE_twice {s : Bool} {xs : List DWaiter} {x : DWaiter} (hx : x ∈ xs) : validE (s, xs ++ [x], ()) = false := by
  cases h : validE (s, xs ++ [x], ()) with
  | false => rfl
  | true =>
    obtain ⟨_, _, h3, _⟩ := validE_iff.1 h
    have := (List.pairwise_append.1 h3).2.2 x hx x (by simp)
    exact absurd rfl this

theorem FnEndpointValid_law (code : List Int) (h : WfD (.cons (.sl (.int .u8)) .nil) (code, ())) : laws_FnEndpointValid code = some true := by
  have hc : ∀ x ∈ code, 0 ≤ x ∧ x ≤ 255 := fun x hx => h.1.2 x hx
  unfold laws_FnEndpointValid laws_FnEndpointValidK
  by_cases hl : ((code.length : Int) > 1048576)
  · simp [hl]
  · obtain ⟨s, xs, hs, hl12⟩ := DrawEndpointValid_ok code hc
    simp only [hl, decide_false, cond_false, hs, some_bind', impl_EndpointValid_ok (s, xs, ()) (show xs.length ≤ 1048577 by omega), spec_EndpointValid_ok (s, xs, ()) (show xs.length ≤ 1048577 by omega), beq_self_eq_true, Bool.not_true]
    cases hv : validE (s, xs, ()) with
    | false => simp [alive_ok]
    | true =>
      have hve := validE_iff.1 hv
      simp only [Bool.not_true, Bool.not_false, cond_true]
      by_cases h0 : xs.length = 0
      · rw [show ((xs.length : Int) == (0 : Int)) = true by simp [h0]]
        rfl
      · rw [show ((xs.length : Int) == (0 : Int)) = false from beq_eq_false_iff_ne.mpr (by omega)]
        have hw : IntKind.wrap .i64 ((xs.length : Int) - 1) = ((xs.length - 1 : Nat) : Int) := by rw [wrap64 (by omega) (by omega)]; omega
        have hlt : xs.length - 1 < xs.length := by omega
        have hg : xs[xs.length - 1]? = some xs[xs.length - 1] := List.getElem?_eq_getElem hlt
        have ht : validE (s, xs.take 1, ()) = true := validE_iff.2 (vE_take hve (by omega))
        simp only [cond_false, hw, nnK_nat, getK_some hg, chk_pos (show xs.length ≤ bigRow by simp only [bigRow]; omega), chk_pos (show xs.length + 1 ≤ bigRow by simp only [bigRow]; omega), chk_pos (show 1 ≤ xs.length by omega),
          impl_EndpointValid_ok (s, xs.take 1, ()) (show (xs.take 1).length ≤ 1048577 by simp; omega), impl_EndpointValid_ok (s, xs ++ [xs[xs.length - 1]], ()) (show (xs ++ [xs[xs.length - 1]]).length ≤ 1048577 by simp; omega), ht, vE_twice (List.getElem_mem hlt), some_bind', cond_true]
        rfl

end Go.Ev
