/-
  Endpoints: pairs and order of what was drawn.
-/
import Derived.Test.YtabemkafgnhddaaLaw4
namespace Go.Ev
set_option linter.unusedVariables false
set_option linter.unusedSimpArgs false
set_option maxRecDepth 100000
set_option synthInstance.maxSize 2000
set_option synthInstance.maxHeartbeats 400000
/-! ### what a line is after somebody joined -/

theorem any_false {xs : List DWaiter} {n : Int} (h : (xs.any fun x => decide (x.1 = n)) = false) : ∀ x ∈ xs, x.1 ≠ n := fun x hx => by
  have := List.any_eq_false.1 h x hx
  simpa using this

theorem queue_valid {s : Bool} {xs : List DWaiter} {w : DWaiter} (h1 : ∀ x ∈ xs, mayW x = true ∧ (s = true ∨ x.2.2.1 = 0 ∧ x.2.2.2.1 = 0)) (h2 : xs.Pairwise (fun a b => b.2.1 ≤ a.2.1)) (h3 : xs.Pairwise (fun a b => b.1 ≠ a.1))
    (hm : mayW w = true) (hz : s = true ∨ w.2.2.1 = 0 ∧ w.2.2.2.1 = 0) (hh : ∀ x ∈ xs, x.1 ≠ w.1) : vE s (queueL xs w) := by
  have ha := qAt_le xs w.2.1 xs.length
  have hge := qAt_ge xs w.2.1 h2 xs.length (Nat.le_refl _)
  have hlt := qAt_lt xs w.2.1 xs.length (Nat.le_refl _)
  have hlen := queueL_length xs w
  unfold queueL at hlen ⊢
  generalize qAt xs w.2.1 xs.length = a at ha hge hlt hlen ⊢
  have hT : ∀ x ∈ xs.take a, w.2.1 ≤ x.2.1 := fun x hx => by
    obtain ⟨m, hm, rfl⟩ := List.mem_take_iff_getElem.1 hx
    exact hge m (by omega) (by omega)
  have hD : ∀ x ∈ xs.drop a, x.2.1 < w.2.1 := fun x hx => by
    obtain ⟨m, hm⟩ := List.getElem?_of_mem hx
    rw [List.getElem?_drop] at hm
    have hl := get_lt hm
    have hxm : xs[a + m] = x := (List.getElem?_eq_some_iff.1 hm).2
    have := hlt (a + m) hl (by omega) hl
    rwa [hxm] at this
  have mT : ∀ x ∈ xs.take a, x ∈ xs := fun x hx => List.mem_of_mem_take hx
  have mD : ∀ x ∈ xs.drop a, x ∈ xs := fun x hx => List.mem_of_mem_drop hx
  refine ⟨fun x hx => ?_, ?_, ?_, .inl (by omega)⟩
  · simp only [List.mem_append, List.mem_singleton] at hx
    rcases hx with (hx | rfl) | hx
    · exact h1 x (mT x hx)
    · exact ⟨hm, hz⟩
    · exact h1 x (mD x hx)
  · rw [← List.take_append_drop a xs, List.pairwise_append] at h2
    obtain ⟨k1, k2, k3⟩ := h2
    rw [List.append_assoc, List.pairwise_append]
    refine ⟨k1, List.pairwise_cons.2 ⟨fun b hb => Int.le_of_lt (hD b hb), k2⟩, fun x hx y hy => ?_⟩
    rcases List.mem_cons.1 hy with rfl | hy
    · exact hT x hx
    · exact k3 x hx y hy
  · rw [← List.take_append_drop a xs, List.pairwise_append] at h3
    obtain ⟨k1, k2, k3⟩ := h3
    rw [List.append_assoc, List.pairwise_append]
    refine ⟨k1, List.pairwise_cons.2 ⟨fun b hb => hh b (mD b hb), k2⟩, fun x hx y hy => ?_⟩
    rcases List.mem_cons.1 hy with rfl | hy
    · exact fun e => hh x (mT x hx) e.symm
    · exact k3 x hx y hy

theorem queue_filter {xs : List DWaiter} {w : DWaiter} (hh : ∀ x ∈ xs, x.1 ≠ w.1) : ((queueL xs w).filter fun x => !decide (x.1 = w.1)) = xs := by
  unfold queueL
  generalize qAt xs w.2.1 xs.length = a
  have ha : (xs.take a).filter (fun y => !decide (y.1 = w.1)) = xs.take a := List.filter_eq_self.2 fun y hy => by
    have := hh y (List.mem_of_mem_take hy)
    simpa using this
  have hb : (xs.drop a).filter (fun y => !decide (y.1 = w.1)) = xs.drop a := List.filter_eq_self.2 fun y hy => by
    have := hh y (List.mem_of_mem_drop hy)
    simpa using this
  rw [List.filter_append, List.filter_append, ha, hb]
  simp

theorem cancel_queue {s : Bool} {xs : List DWaiter} {w : DWaiter} (hv : vE s (queueL xs w)) (hh : ∀ x ∈ xs, x.1 ≠ w.1) : cancE (s, queueL xs w, ()) w.1 = (s && decide (0 < xs.length), true, xs) := by
  have hq := queueL_length xs w
  unfold cancE
  rw [show validE (s, queueL xs w, ()) = true from validE_iff.2 hv]
  simp only [cond_true, queue_filter hh, hq]
  simp

theorem vE_tail {s : Bool} {x : DWaiter} {r : List DWaiter} (h : vE s (x :: r)) : vE (s && decide (0 < r.length)) r := by
  obtain ⟨h1, h2, h3, h4⟩ := h
  refine ⟨fun y hy => ?_, (List.pairwise_cons.1 h2).2, (List.pairwise_cons.1 h3).2, ?_⟩
  · obtain ⟨k1, k2⟩ := h1 y (List.mem_cons_of_mem _ hy)
    refine ⟨k1, k2.imp (fun e => ?_) id⟩
    rw [e, decide_eq_true (List.length_pos_of_mem hy)]; rfl
  · by_cases hpos : 0 < r.length
    · exact .inl hpos
    · right; rw [decide_eq_false hpos, Bool.and_false]

theorem comes_true {s : Bool} {xs : List DWaiter} {w : DWaiter} (h : comesE (s, xs, ()) w = true) : vE s xs ∧ mayW w = true ∧ ∀ x ∈ xs, x.1 ≠ w.1 := by
  unfold comesE hasW at h
  simp only [Bool.and_eq_true, Bool.not_eq_true'] at h
  exact ⟨validE_iff.1 h.1, h.2.1, any_false h.2.2⟩

theorem comes_of {s : Bool} {xs : List DWaiter} {w : DWaiter} (h1 : vE s xs) (h2 : mayW w = true) (h3 : ∀ x ∈ xs, x.1 ≠ w.1) : comesE (s, xs, ()) w = true := by
  unfold comesE hasW
  have : (xs.any fun x => decide (x.1 = w.1)) = false := List.any_eq_false.2 fun x hx => by simpa using h3 x hx
  simp only [this, h2, show validE (s, xs, ()) = true from validE_iff.2 h1]
  rfl

theorem vE_nil : vE false [] := ⟨by simp, by simp, by simp, .inr rfl⟩

theorem mayW_of {n p : Int} (h0 : 0 ≤ n) (h1 : n ≤ 15) (h2 : 0 ≤ p) (h3 : p ≤ 7) : mayW (n, p, 0, 0, ()) = true := by
  simp [mayW, rgt, h0, h1, h2, h3]

theorem mayW_bounds {w : DWaiter} (h : mayW w = true) : (0 ≤ w.1 ∧ w.1 ≤ 15) ∧ 0 ≤ w.2.1 ∧ w.2.1 ≤ 7 := by
  simp only [mayW, rgt, Bool.and_eq_true, decide_eq_true_eq] at h
  exact ⟨h.1, h.2.1⟩

/-- the first to send -/
theorem send_first (w : DWaiter) : sendE (false, [], ()) w = bif mayW w then (true, -1, [w]) else (false, -1, []) := by
  unfold sendE
  cases hm : mayW w with
  | false =>
    have : comesE (false, [], ()) w = false := by simp [comesE, hm]
    rw [this]; rfl
  | true =>
    rw [comes_of vE_nil hm (by simp)]
    rfl

theorem vE_one {w : DWaiter} (h : mayW w = true) : vE true [w] := ⟨fun x hx => by simp at hx; subst hx; exact ⟨h, .inl rfl⟩, by simp, by simp, .inl (by simp)⟩

theorem eqW_self (w : DWaiter) : (decide (w.1 = w.1) && (decide (w.2.1 = w.2.1) && (decide (w.2.2.1 = w.2.2.1) && (decide (w.2.2.2.1 = w.2.2.2.1) && true)))) = true := by simp

theorem DrawEndpointSend_ok (code : List Int) (hc : ∀ x ∈ code, 0 ≤ x ∧ x ≤ 255) : ∃ s w xs, spec_DrawEndpointSend code = some (s, w, xs) ∧ xs.length ≤ 12 := by
  unfold spec_DrawEndpointSend spec_DrawEndpointSendK
  obtain ⟨b, e, hb⟩ := openE code hc
  obtain ⟨s, b1, xs, e1, hb1, hl⟩ := l20Endpoint_ok 14 b (by omega) (hb.mono (by omega))
  obtain ⟨w, b2, e2, hb2⟩ := l20Waiter_ok 14 b1 hb1 (by omega) (by omega)
  simp only [e, e1, e2, some_bind']
  exact ⟨s, _, xs, rfl, hl⟩

theorem DrawEndpointTake_ok (code : List Int) (hc : ∀ x ∈ code, 0 ≤ x ∧ x ≤ 255) : ∃ s n p xs, spec_DrawEndpointTake code = some (s, n, p, xs) ∧ xs.length ≤ 12 := by
  unfold spec_DrawEndpointTake spec_DrawEndpointTakeK
  obtain ⟨b, e, hb⟩ := openE code hc
  obtain ⟨s, b1, xs, e1, hb1, hl⟩ := l20Endpoint_ok 14 b (by omega) (hb.mono (by omega))
  obtain ⟨w, b2, e2, hb2⟩ := l20Waiter_ok 14 b1 hb1 (by omega) (by omega)
  simp only [e, e1, e2, some_bind']
  exact ⟨s, _, _, xs, rfl, hl⟩

theorem FnEndpointPair_law (code : List Int) (h : WfD (.cons (.sl (.int .u8)) .nil) (code, ())) : laws_FnEndpointPair code = some true := by
  have hc : ∀ x ∈ code, 0 ≤ x ∧ x ≤ 255 := fun x hx => h.1.2 x hx
  unfold laws_FnEndpointPair laws_FnEndpointPairK
  by_cases hl : ((code.length : Int) > 1048576)
  · simp [hl]
  · obtain ⟨s, w, xs, hs, hl12⟩ := DrawEndpointSend_ok code hc
    have ew : (w.1, w.2.1, w.2.2.1, w.2.2.2.1, ()) = w := rfl
    simp only [hl, decide_false, cond_false, hs, some_bind', ew, impl_EndpointSend_ok (false, [], ()) w (by simp), spec_EndpointSend_ok (false, [], ()) w (by simp), send_first w]
    cases hm : mayW w with
    | false =>
      simp only [cond_false, sameEnd_ok (false, [], ()) (by simp), some_bind', alive_ok]
      rfl
    | true =>
      obtain ⟨⟨b1, b2⟩, b3, b4⟩ := mayW_bounds hm
      have hw : IntKind.wrap .i64 (w.1 + 1) = w.1 + 1 := wrap64 (by omega) (by omega)
      have hmod : 0 ≤ Int.tmod (w.1 + 1) 16 ∧ Int.tmod (w.1 + 1) 16 ≤ 15 ∧ w.1 ≠ Int.tmod (w.1 + 1) 16 := by
        rw [Int.tmod_eq_emod_of_nonneg (by omega)]; omega
      have ht : takeE (true, [w], ()) (Int.tmod (w.1 + 1) 16) 0 = (false, w, true, []) := by
        unfold takeE
        rw [comes_of (vE_one hm) (mayW_of hmod.1 hmod.2.1 (by omega) (by omega)) (by simpa using hmod.2.2)]
        rfl
      simp only [cond_true, sameEnd_ok (true, [w], ()) (by simp), some_bind', hw, impl_EndpointTake_ok (true, [w], ()) _ 0 (by simp), ht, eqW_self, sameEnd_ok (false, [], ()) (by simp)]
      rfl

theorem FnEndpointOrder_law (code : List Int) (h : WfD (.cons (.sl (.int .u8)) .nil) (code, ())) : laws_FnEndpointOrder code = some true := by
  have hc : ∀ x ∈ code, 0 ≤ x ∧ x ≤ 255 := fun x hx => h.1.2 x hx
  unfold laws_FnEndpointOrder laws_FnEndpointOrderK
  by_cases hl : ((code.length : Int) > 1048576)
  · simp [hl]
  · obtain ⟨s, w, xs, hs, hl12⟩ := DrawEndpointSend_ok code hc
    have ew : (w.1, w.2.1, w.2.2.1, w.2.2.2.1, ()) = w := rfl
    simp only [hl, decide_false, cond_false, hs, some_bind', ew, impl_EndpointSend_ok (false, [], ()) w (by simp), spec_EndpointSend_ok (false, [], ()) w (by simp), send_first w]
    cases hm : mayW w with
    | false =>
      simp only [cond_false, sameEnd_ok (false, [], ()) (by simp), some_bind', alive_ok]
      rfl
    | true =>
      obtain ⟨⟨b1, b2⟩, b3, b4⟩ := mayW_bounds hm
      simp only [cond_true, sameEnd_ok (true, [w], ()) (by simp), some_bind', Bool.not_true, cond_false]
      rw [show (!((([w].length : Nat) : Int) == (0 : Int))) = true from rfl]
      simp only [cond_true]
      by_cases h7 : w.2.1 = 7
      · rw [show (w.2.1 == (7 : Int)) = true by simpa using h7]
        rfl
      · rw [show (w.2.1 == (7 : Int)) = false by simpa using h7]
        simp only [cond_false]
        have hw1 : IntKind.wrap .i64 (w.1 + 1) = w.1 + 1 := wrap64 (by omega) (by omega)
        have hw2 : IntKind.wrap .i64 (w.1 + 2) = w.1 + 2 := wrap64 (by omega) (by omega)
        have hw3 : IntKind.wrap .i64 (w.2.1 + 1) = w.2.1 + 1 := wrap64 (by omega) (by omega)
        have hm1 : 0 ≤ Int.tmod (w.1 + 1) 16 ∧ Int.tmod (w.1 + 1) 16 ≤ 15 ∧ w.1 ≠ Int.tmod (w.1 + 1) 16 := by
          rw [Int.tmod_eq_emod_of_nonneg (by omega)]; omega
        have hm2 : 0 ≤ Int.tmod (w.1 + 2) 16 ∧ Int.tmod (w.1 + 2) 16 ≤ 15 ∧ w.1 ≠ Int.tmod (w.1 + 2) 16 ∧ Int.tmod (w.1 + 1) 16 ≠ Int.tmod (w.1 + 2) 16 := by
          rw [Int.tmod_eq_emod_of_nonneg (by omega), Int.tmod_eq_emod_of_nonneg (by omega)]; omega
        simp only [hw1, hw2, hw3]
        generalize Int.tmod (w.1 + 1) 16 = n1 at hm1 hm2 ⊢
        generalize Int.tmod (w.1 + 2) 16 = n2 at hm2 ⊢
        have q1 : queueL [w] (n1, w.2.1, 0, 0, ()) = [w, (n1, w.2.1, 0, 0, ())] := by simp [queueL, qAt]
        have q2 : queueL [w] (n1, w.2.1 + 1, 0, 0, ()) = [(n1, w.2.1 + 1, 0, 0, ()), w] := by
          have : w.2.1 < w.2.1 + 1 := by omega
          simp [queueL, qAt, this]
        have c1 := mayW_of hm1.1 hm1.2.1 b3 b4
        have c2 := mayW_of hm1.1 hm1.2.1 (show 0 ≤ w.2.1 + 1 by omega) (show w.2.1 + 1 ≤ 7 by omega)
        have d : ∀ (p : Int), ∀ x ∈ [w], x.1 ≠ ((n1, p, 0, 0, ()) : DWaiter).1 := fun p x hx => by simp at hx; subst hx; exact hm1.2.2
        have s1 : sendE (true, [w], ()) (n1, w.2.1, 0, 0, ()) = (true, -1, [w, (n1, w.2.1, 0, 0, ())]) := by
          unfold sendE
          rw [comes_of (vE_one hm) c1 (d _)]
          simp only [cond_true, q1]
        have s2 : sendE (true, [w], ()) (n1, w.2.1 + 1, 0, 0, ()) = (true, -1, [(n1, w.2.1 + 1, 0, 0, ()), w]) := by
          unfold sendE
          rw [comes_of (vE_one hm) c2 (d _)]
          simp only [cond_true, q2]
        have v1 : vE true [w, (n1, w.2.1, 0, 0, ())] := by
          have := queue_valid (vE_one hm).1 (vE_one hm).2.1 (vE_one hm).2.2.1 c1 (.inl rfl) (d _)
          rwa [q1] at this
        have v2 : vE true [(n1, w.2.1 + 1, 0, 0, ()), w] := by
          have := queue_valid (vE_one hm).1 (vE_one hm).2.1 (vE_one hm).2.2.1 c2 (.inl rfl) (d _)
          rwa [q2] at this
        have c3 := mayW_of hm2.1 hm2.2.1 (show (0 : Int) ≤ 0 by omega) (show (0 : Int) ≤ 7 by omega)
        have t1 : takeE (true, [w, (n1, w.2.1, 0, 0, ())], ()) n2 0 = (true, w, true, [(n1, w.2.1, 0, 0, ())]) := by
          unfold takeE
          rw [comes_of v1 c3 (by intro x hx; simp at hx; rcases hx with rfl | rfl; exact hm2.2.2.1; exact hm2.2.2.2)]
          rfl
        have t2 : takeE (true, [(n1, w.2.1 + 1, 0, 0, ()), w], ()) n2 0 = (true, (n1, w.2.1 + 1, 0, 0, ()), true, [w]) := by
          unfold takeE
          rw [comes_of v2 c3 (by intro x hx; simp at hx; rcases hx with rfl | rfl; exact hm2.2.2.2; exact hm2.2.2.1)]
          rfl
        simp only [impl_EndpointSend_ok (true, [w], ()) _ (show ([w] : List DWaiter).length ≤ 1048576 by simp), s1, s2, some_bind', impl_EndpointTake_ok (true, [w, (n1, w.2.1, 0, 0, ())], ()) n2 0 (show ([w, (n1, w.2.1, 0, 0, ())] : List DWaiter).length ≤ 1048576 by simp),
          impl_EndpointTake_ok (true, [(n1, w.2.1 + 1, 0, 0, ()), w], ()) n2 0 (show ([(n1, w.2.1 + 1, 0, 0, ()), w] : List DWaiter).length ≤ 1048576 by simp), t1, t2, eqW_self, cond_true]
        simp

end Go.Ev
