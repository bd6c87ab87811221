/-
  Sending and receiving in the program.
-/
import Derived.Test.YtabemkafgnhddaaLaw3
namespace Go.Ev
set_option linter.unusedVariables false
set_option linter.unusedSimpArgs false
set_option maxRecDepth 100000
set_option synthInstance.maxSize 2000
set_option synthInstance.maxHeartbeats 400000
/-! ### sending and taking, as the code does it -/

theorem Insert_Waiter_ok (xs : List DWaiter) (w : DWaiter) {j : Nat} (hj : j ≤ xs.length) (h : xs.length ≤ 1048577) : slices_Insert_Waiter (j : Int) [w] xs = some (xs.take j ++ [w] ++ xs.drop j) := by
  unfold slices_Insert_Waiter slices_Insert_WaiterK
  rw [nnK_nat, chk_pos hj, chk_pos (by simp only [bigRow, List.length_singleton]; omega)]

theorem qAt_ge (xs : List DWaiter) (p : Int) (hs : xs.Pairwise (fun a b => b.2.1 ≤ a.2.1)) : ∀ (k : Nat), k ≤ xs.length → ∀ i (hi : i < xs.length), i < qAt xs p k → p ≤ xs[i].2.1
  | 0, _, i, _, h => by simp [qAt] at h
  | k + 1, hk, i, hi, h => by
    have hgd : xs.getD k (0, 0, 0, 0, ()) = xs[k] := by simp [List.getD, show k < xs.length by omega]
    simp only [qAt, hgd] at h
    split at h
    · exact qAt_ge xs p hs k (by omega) i hi h
    · rename_i hc
      rcases Nat.lt_or_ge i k with q | q
      · have := List.pairwise_iff_getElem.1 hs i k hi (by omega) q
        omega
      · obtain rfl : i = k := by omega
        omega

theorem qAt_lt (xs : List DWaiter) (p : Int) : ∀ (k : Nat), k ≤ xs.length → ∀ i (hi : i < xs.length), qAt xs p k ≤ i → i < k → xs[i].2.1 < p
  | 0, _, i, _, _, h => by omega
  | k + 1, hk, i, hi, h, h2 => by
    have hgd : xs.getD k (0, 0, 0, 0, ()) = xs[k] := by simp [List.getD, show k < xs.length by omega]
    simp only [qAt, hgd] at h
    split at h
    · rename_i hc
      rcases Nat.lt_or_ge i k with q | q
      · exact qAt_lt xs p k (by omega) i hi h q
      · obtain rfl : i = k := by omega
        exact hc
    · omega

theorem join_loop (s : Bool) (e : DEndpoint) (w : DWaiter) (b : Bool) {a : Nat} (h : e.2.1.length ≤ 1048577) (ha : a ≤ e.2.1.length) (h1 : ∀ i (hi : i < e.2.1.length), i < a → w.2.1 ≤ e.2.1[i].2.1) (h2 : ∀ (hi : a < e.2.1.length), e.2.1[a].2.1 < w.2.1) :
    ∀ (k : Nat), k ≤ a → loopF impl_Endpoint_join_l0 (s, e, w, ((a - k : Nat) : Int), b, ()) = some (s, e, w, (a : Int), b, ()) := by
  intro k
  induction k with
  | zero =>
    intro _
    rw [Nat.sub_zero]
    by_cases hl : a < e.2.1.length
    · have hg : e.2.1[a]? = some e.2.1[a] := List.getElem?_eq_getElem hl
      have hd : ¬ (e.2.1[a].2.1 ≥ w.2.1) := by have := h2 hl; omega
      refine loopF_inr ?_
      simp only [impl_Endpoint_join_l0, impl_Endpoint_join_l0K, dec_lt hg, cond_true, nnK_nat, getK_some hg, decide_eq_false hd, cond_false]
    · obtain rfl : a = e.2.1.length := by omega
      refine loopF_inr ?_
      simp only [impl_Endpoint_join_l0, impl_Endpoint_join_l0K, dec_nlt, cond_false]
  | succ k ih =>
    intro hk
    have hl : a - (k + 1) < e.2.1.length := by omega
    have hg : e.2.1[a - (k + 1)]? = some e.2.1[a - (k + 1)] := List.getElem?_eq_getElem hl
    have hd : e.2.1[a - (k + 1)].2.1 ≥ w.2.1 := h1 _ hl (by omega)
    have hst : impl_Endpoint_join_l0 (s, e, w, ((a - (k + 1) : Nat) : Int), b, ()) = some (.inl (s, e, w, ((a - k : Nat) : Int), b, ())) := by
      simp only [impl_Endpoint_join_l0, impl_Endpoint_join_l0K, dec_lt hg, cond_true, nnK_nat, getK_some hg, decide_eq_true hd, wrapS (show a - (k + 1) < 4611686018427387904 by omega)]
      rw [show a - (k + 1) + 1 = a - k by omega]
    rw [loopF_inl hst]
    exact ih (by omega)

theorem join_ok (e : DEndpoint) (s : Bool) (w : DWaiter) (h : e.2.1.length ≤ 1048576) (hs : e.2.1.Pairwise (fun a b => b.2.1 ≤ a.2.1)) : impl_Endpoint_join e s w = some (s, queueL e.2.1 w) := by
  unfold impl_Endpoint_join impl_Endpoint_joinK
  have em : (e.1, e.2.1, ()) = e := rfl
  have ew : (w.1, w.2.1, w.2.2.1, w.2.2.2.1, ()) = w := rfl
  have ha := qAt_le e.2.1 w.2.1 e.2.1.length
  have hj := join_loop s e w false (by omega) ha (fun i hi hlt => qAt_ge e.2.1 w.2.1 hs _ (Nat.le_refl _) i hi hlt) (fun hi => qAt_lt e.2.1 w.2.1 _ (Nat.le_refl _) _ hi (Nat.le_refl _) hi) (qAt e.2.1 w.2.1 e.2.1.length) (Nat.le_refl _)
  rw [Nat.sub_self] at hj
  rw [em, ew, show (0 : Int) = ((0 : Nat) : Int) from rfl, hj]
  have hq := queueL_length e.2.1 w
  simp only [B7, Clone_Waiter_ok e.2.1 (by omega), Insert_Waiter_ok e.2.1 w ha (by omega)]
  rw [show e.2.1.take (qAt e.2.1 w.2.1 e.2.1.length) ++ [w] ++ e.2.1.drop (qAt e.2.1 w.2.1 e.2.1.length) = queueL e.2.1 w from rfl, clone_Waiter_ok _ (by omega)]
  rfl

theorem without0_ok (s : Bool) (x : DWaiter) (r : List DWaiter) (h : r.length + 1 ≤ 1048577) : impl_Endpoint_without (s, x :: r, ()) 0 = some (s && decide (0 < r.length), r) := by
  unfold impl_Endpoint_without impl_Endpoint_withoutK
  obtain ⟨q, hr1, hr2⟩ := Delete_Waiter_ok (x :: r) 0 (by simp)
  simp only
  rw [Clone_Waiter_ok _ (by simpa using h)]
  simp only [B7]
  rw [show IntKind.wrap .i64 ((0 : Int) + 1) = ((0 + 1 : Nat) : Int) from rfl, show (0 : Int) = ((0 : Nat) : Int) from rfl, hr1]
  simp only [B7]
  rw [hr2]
  simp only [List.take_zero, List.nil_append, List.drop_succ_cons, List.drop_zero]
  rw [clone_Waiter_ok _ (by omega)]
  cases s <;> simp

theorem ixOf_neg (xs : List DWaiter) (n : Int) : decide (ixOf xs n ≥ 0) = xs.any fun x => decide (x.1 = n) := by
  unfold ixOf
  cases hf : xs.findIdx? (fun x => decide (x.1 = n)) with
  | none =>
    rw [show (xs.any fun x => decide (x.1 = n)) = false by
      rw [List.any_eq_false]
      intro y hy
      simpa using List.findIdx?_eq_none_iff.1 hf y hy]
    simp
  | some k =>
    obtain ⟨hk, hp, _⟩ := List.findIdx?_eq_some_iff_getElem.1 hf
    rw [show (xs.any fun x => decide (x.1 = n)) = true by
      rw [List.any_eq_true]
      exact ⟨_, List.getElem_mem hk, hp⟩]
    simp

theorem impl_EndpointSend_ok (e : DEndpoint) (w : DWaiter) (h : e.2.1.length ≤ 1048576) : impl_EndpointSend e w = some (sendE e w) := by
  unfold impl_EndpointSend impl_EndpointSendK sendE comesE
  obtain ⟨s, xs, ⟨⟩⟩ := e
  simp only at h ⊢
  have ew : (w.1, w.2.1, w.2.2.1, w.2.2.2.1, ()) = w := rfl
  rw [impl_EndpointValid_ok (s, xs, ()) (show xs.length ≤ 1048577 by omega)]
  cases hv : validE (s, xs, ()) with
  | false => rfl
  | true =>
    have hve := validE_iff.1 hv
    simp only [B7, Bool.not_true, Bool.not_false, cond_true, Bool.true_and, ew, impl_may_ok]
    rw [show (rgt w.1 0 15 && (rgt w.2.1 0 7 && rgt w.2.2.1 0 999)) = mayW w from rfl]
    cases mayW w with
    | false => rfl
    | true =>
      simp only [Bool.not_true, Bool.not_false, cond_true, Bool.true_and, at_ok (s, xs, ()) w.1 (show xs.length ≤ 1048577 by omega), B7, ixOf_neg, hasW]
      cases (xs.any fun x => decide (x.1 = w.1)) with
      | true => rfl
      | false =>
        simp only [cond_false, Bool.not_false, cond_true]
        cases s with
        | true =>
          simp only [Bool.not_true, cond_false, join_ok (true, xs, ()) true w h hve.2.1, B7]
        | false =>
          cases xs with
          | nil =>
            have hj := join_ok (false, [], ()) true w h hve.2.1
            simp only [Bool.not_false, cond_true, List.length_nil, show decide (((0 : Nat) : Int) > 0) = false from rfl, cond_false, hj, B7]
          | cons x r =>
            simp only [List.length_cons] at h
            have hd : decide ((((x :: r).length : Nat) : Int) > 0) = true := by simp
            have hg : (x :: r)[0]? = some x := rfl
            simp only [Bool.not_false, cond_true, hd, getK_some hg, without0_ok false x r (by omega), B7, Bool.false_and]

theorem impl_EndpointTake_ok (e : DEndpoint) (n p : Int) (h : e.2.1.length ≤ 1048576) : impl_EndpointTake e n p = some (takeE e n p) := by
  unfold impl_EndpointTake impl_EndpointTakeK takeE comesE
  obtain ⟨s, xs, ⟨⟩⟩ := e
  simp only at h ⊢
  rw [impl_EndpointValid_ok (s, xs, ()) (show xs.length ≤ 1048577 by omega)]
  cases hv : validE (s, xs, ()) with
  | false => rfl
  | true =>
    have hve := validE_iff.1 hv
    simp only [B7, Bool.not_true, Bool.not_false, cond_true, Bool.true_and, impl_may_ok]
    rw [show (rgt n 0 15 && (rgt p 0 7 && rgt 0 0 999)) = mayW (n, p, 0, 0, ()) from rfl]
    cases mayW (n, p, 0, 0, ()) with
    | false => rfl
    | true =>
      simp only [Bool.not_true, Bool.not_false, cond_true, Bool.true_and, at_ok (s, xs, ()) n (show xs.length ≤ 1048577 by omega), B7, ixOf_neg, hasW]
      cases (xs.any fun x => decide (x.1 = n)) with
      | true => rfl
      | false =>
        simp only [cond_false, Bool.not_false, cond_true]
        cases s with
        | false =>
          simp only [cond_false, join_ok (false, xs, ()) false (n, p, 0, 0, ()) h hve.2.1, B7]
        | true =>
          cases xs with
          | nil =>
            rcases hve.2.2.2 with q | q
            · simp at q
            · cases q
          | cons x r =>
            simp only [List.length_cons] at h
            have hg : (x :: r)[0]? = some x := rfl
            have em : (x.1, x.2.1, x.2.2.1, x.2.2.2.1, ()) = x := rfl
            simp only [cond_true, getK_some hg, without0_ok true x r (by omega), B7, Bool.true_and, em]

theorem FnExactEndpointTake_law (e : DEndpoint) (n p : Int) (h : WfD (.cons tEndpoint (.cons I (.cons I .nil))) (e, n, p, ())) : laws_FnExactEndpointTake e n p = some true := by
  have hl : e.2.1.length ≤ 9223372036854775807 := by have := h.1.2.1.1; simp only [maxLen] at this; omega
  have em : (e.1, e.2.1, ()) = e := rfl
  unfold laws_FnExactEndpointTake laws_FnExactEndpointTakeK
  rw [em, szEndpoint_ok e hl]
  by_cases hs : e.2.1.length ≤ 1048576
  · have h0 : ¬ (1048576 - (e.2.1.length : Int) < 0) := by omega
    have hc := takeE_length e n p
    have k1 : ¬ ((1 : Int) + 4 * ((takeE e n p).2.2.2.length : Int) < 0) := by omega
    have k2 : ¬ ((1 : Int) + 4 * (e.2.1.length : Int) < 0) := by omega
    simp [hs, h0, toEndpoint_ok e (by omega), impl_EndpointTake_ok e n p (by omega), spec_EndpointTake_ok e n p (by omega), eqEndpoint_ok e e (by omega), eqEndpoint_ok ((takeE e n p).1, (takeE e n p).2.2.2, ()) ((takeE e n p).1, (takeE e n p).2.2.2, ()) (show (takeE e n p).2.2.2.length ≤ 1048577 by omega),
      markEndpoint_ok e.1 e.2.1 (by omega), markEndpoint_ok (takeE e n p).1 (takeE e n p).2.2.2 (by omega), heldEndpoint_ok (takeE e n p).1 (takeE e n p).2.2.2.length (by omega), k1, k2, eqWaiter_ok]
  · simp [hs]

end Go.Ev
