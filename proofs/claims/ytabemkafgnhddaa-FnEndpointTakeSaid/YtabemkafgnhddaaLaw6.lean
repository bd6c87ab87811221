/-
  Endpoints: sending and taking, what was drawn.
-/
import Derived.Test.YtabemkafgnhddaaLaw5
namespace Go.Ev
set_option linter.unusedVariables false
set_option linter.unusedSimpArgs false
set_option maxRecDepth 100000
set_option synthInstance.maxSize 2000
set_option synthInstance.maxHeartbeats 400000
/-! ### sending: the law -/

theorem send_loop_after (s : Bool) (xs : List DWaiter) (w : DWaiter) (s' : Bool) (L : List DWaiter) {a : Nat} (h : L.length ≤ 1048577) (hR : ∀ i (hi : i < L.length), a < i → L[i].1 ≠ w.1 ∧ L[i].2.1 < w.2.1) :
    ∀ (m k : Nat), k + m = L.length → a < k → loopF laws_FnEndpointSend_l0 (1, (k : Int), s, xs, w, s', L, ()) = some (.inl (1, s, xs, w, s', L, ())) := by
  intro m
  induction m with
  | zero =>
    intro k hk _
    obtain rfl : k = L.length := by omega
    refine loopF_inr ?_
    simp only [laws_FnEndpointSend_l0, laws_FnEndpointSend_l0K, dec_nlt, cond_false]
  | succ m ih =>
    intro k hk hak
    have hl : k < L.length := by omega
    have hg : L[k]? = some L[k] := List.getElem?_eq_getElem hl
    obtain ⟨h1, h2⟩ := hR k hl hak
    have hd : ¬ (L[k].2.1 ≥ w.2.1) := by omega
    have hst : laws_FnEndpointSend_l0 (1, (k : Int), s, xs, w, s', L, ()) = some (.inl (1, ((k + 1 : Nat) : Int), s, xs, w, s', L, ())) := by
      simp only [laws_FnEndpointSend_l0, laws_FnEndpointSend_l0K, dec_lt hg, cond_true, nnK_nat, getK_some hg, decide_eq_false h1, Bool.false_and, cond_false, show decide ((1 : Int) > 0) = true from rfl, decide_eq_false hd, wrapS (show k < 4611686018427387904 by omega)]
    rw [loopF_inl hst]
    exact ih (k + 1) (by omega) (by omega)

theorem send_loop (s : Bool) (xs : List DWaiter) (w : DWaiter) (s' : Bool) (L : List DWaiter) {a : Nat} (h : L.length ≤ 1048577) (hL : ∀ i (hi : i < L.length), i < a → L[i].1 ≠ w.1) (hA : L[a]? = some w) (hR : ∀ i (hi : i < L.length), a < i → L[i].1 ≠ w.1 ∧ L[i].2.1 < w.2.1) :
    ∀ (m : Nat), m ≤ a → loopF laws_FnEndpointSend_l0 (0, ((a - m : Nat) : Int), s, xs, w, s', L, ()) = some (.inl (1, s, xs, w, s', L, ())) := by
  have hal := get_lt hA
  intro m
  induction m with
  | zero =>
    intro _
    rw [Nat.sub_zero]
    have hst : laws_FnEndpointSend_l0 (0, (a : Int), s, xs, w, s', L, ()) = some (.inl (1, ((a + 1 : Nat) : Int), s, xs, w, s', L, ())) := by
      simp only [laws_FnEndpointSend_l0, laws_FnEndpointSend_l0K, dec_lt hA, cond_true, nnK_nat, getK_some hA, eqW_self, wrapS (show a < 4611686018427387904 by omega)]
      rfl
    rw [loopF_inl hst]
    exact send_loop_after s xs w s' L h hR (L.length - (a + 1)) (a + 1) (by omega) (by omega)
  | succ m ih =>
    intro hm
    have hl : a - (m + 1) < L.length := by omega
    have hg : L[a - (m + 1)]? = some L[a - (m + 1)] := List.getElem?_eq_getElem hl
    have h1 := hL _ hl (by omega)
    have hst : laws_FnEndpointSend_l0 (0, ((a - (m + 1) : Nat) : Int), s, xs, w, s', L, ()) = some (.inl (0, ((a - m : Nat) : Int), s, xs, w, s', L, ())) := by
      simp only [laws_FnEndpointSend_l0, laws_FnEndpointSend_l0K, dec_lt hg, cond_true, nnK_nat, getK_some hg, decide_eq_false h1, Bool.false_and, cond_false, show decide ((0 : Int) > 0) = false from rfl, wrapS (show a - (m + 1) < 4611686018427387904 by omega)]
      rw [show a - (m + 1) + 1 = a - m by omega]
    rw [loopF_inl hst]
    exact ih (by omega)

theorem send_loop_queue (s : Bool) (xs : List DWaiter) (w : DWaiter) (s' : Bool) (h : xs.length ≤ 1048576) (h2 : xs.Pairwise (fun a b => b.2.1 ≤ a.2.1)) (hh : ∀ x ∈ xs, x.1 ≠ w.1) :
    loopF laws_FnEndpointSend_l0 (0, 0, s, xs, w, s', queueL xs w, ()) = some (.inl (1, s, xs, w, s', queueL xs w, ())) := by
  have hlen := queueL_length xs w
  have ha := qAt_le xs w.2.1 xs.length
  have hlt := qAt_lt xs w.2.1 xs.length (Nat.le_refl _)
  have hget : ∀ i, (queueL xs w)[i]? = if i < qAt xs w.2.1 xs.length then xs[i]? else if i = qAt xs w.2.1 xs.length then some w else xs[i - 1]? := fun i => by
    unfold queueL
    generalize qAt xs w.2.1 xs.length = a at ha
    simp only [List.getElem?_append, List.length_append, List.length_take, List.length_singleton, List.getElem?_take, List.getElem?_drop]
    rw [Nat.min_eq_left ha]
    by_cases h1 : i < a
    · rw [if_pos (by omega), if_pos h1, if_pos h1, if_pos h1]
    · by_cases h3 : i = a
      · subst h3; simp
      · rw [if_neg (by omega), if_neg h1, if_neg h3]
        congr 1; omega
  have key := send_loop s xs w s' (queueL xs w) (a := qAt xs w.2.1 xs.length) (by omega) (fun i hi h1 => ?_) (by rw [hget, if_neg (by omega), if_pos rfl]) (fun i hi h1 => ?_) (qAt xs w.2.1 xs.length) (Nat.le_refl _)
  · rw [Nat.sub_self] at key
    exact key
  · have := hget i
    rw [if_pos h1, List.getElem?_eq_getElem hi] at this
    exact hh _ (List.mem_of_getElem? this.symm)
  · have := hget i
    rw [if_neg (by omega), if_neg (by omega), List.getElem?_eq_getElem hi] at this
    have hi1 : i - 1 < xs.length := by omega
    rw [List.getElem?_eq_getElem hi1] at this
    have e := Option.some.inj this
    rw [e]
    exact ⟨hh _ (List.getElem_mem hi1), hlt (i - 1) hi1 (by omega) hi1⟩

theorem FnEndpointSend_law (code : List Int) (h : WfD (.cons (.sl (.int .u8)) .nil) (code, ())) : laws_FnEndpointSend code = some true := by
  have hc : ∀ x ∈ code, 0 ≤ x ∧ x ≤ 255 := fun x hx => h.1.2 x hx
  unfold laws_FnEndpointSend laws_FnEndpointSendK
  by_cases hl : ((code.length : Int) > 1048576)
  · simp [hl]
  · obtain ⟨s, w, xs, hs, hl12⟩ := DrawEndpointSend_ok code hc
    have ew : (w.1, w.2.1, w.2.2.1, w.2.2.2.1, ()) = w := rfl
    have hsl := sendE_length (s, xs, ()) w
    simp only at hsl
    simp only [hl, decide_false, cond_false, hs, some_bind', ew, impl_EndpointSend_ok (s, xs, ()) w (show xs.length ≤ 1048576 by omega), spec_EndpointSend_ok (s, xs, ()) w (show xs.length ≤ 1048577 by omega),
      sameEnd_ok ((sendE (s, xs, ()) w).1, (sendE (s, xs, ()) w).2.2, ()) (show (sendE (s, xs, ()) w).2.2.length ≤ 1048577 by omega), spec_EndpointValid_ok (s, xs, ()) (show xs.length ≤ 1048577 by omega), Bool.not_true, Bool.not_false, cond_true, bne_self_eq_false]
    cases hce : comesE (s, xs, ()) w with
    | false =>
      have hse : sendE (s, xs, ()) w = (false, -1, []) := by unfold sendE; rw [hce]; rfl
      simp only [hse, alive_ok, some_bind']
      cases validE (s, xs, ()) <;> rfl
    | true =>
      obtain ⟨hv, hm, hh⟩ := comes_true hce
      rw [show validE (s, xs, ()) = true from validE_iff.2 hv]
      simp only [Bool.not_true, Bool.not_false, cond_true]
      by_cases hq : s = false ∧ xs ≠ []
      · obtain ⟨rfl, hne⟩ := hq
        cases xs with
        | nil => exact absurd rfl hne
        | cons x r =>
          have hse : sendE (false, x :: r, ()) w = (false, x.1, r) := by unfold sendE; rw [hce]; rfl
          have hx := mayW_bounds (hv.1 x (by simp)).1
          have hvr : validE (false, r, ()) = true := validE_iff.2 (by simpa using vE_tail hv)
          simp only [List.length_cons] at hl12
          have hg : (x :: r)[0]? = some x := rfl
          have d1 : decide (x.1 < 0) = false := by simp; omega
          have d2 : decide (x.1 ≥ 0) = true := by simp; omega
          simp only [hse, d1, d2, cond_false, cond_true, Bool.not_false, getK_some hg, beq_self_eq_true, chk_pos (show 1 ≤ (x :: r).length by simp), List.drop_succ_cons, List.drop_zero, sameEnd_ok (false, r, ()) (show r.length ≤ 1048577 by omega), some_bind', impl_EndpointValid_ok (false, r, ()) (show r.length ≤ 1048577 by omega), hvr]
          cases ((r.length : Int) == (0 : Int)) <;> rfl
      · have hse : sendE (s, xs, ()) w = (true, -1, queueL xs w) := by
          unfold sendE; rw [hce]
          cases s with
          | true => cases xs <;> rfl
          | false =>
            cases xs with
            | nil => rfl
            | cons x r => exact absurd ⟨rfl, by simp⟩ hq
        have hqv : vE true (queueL xs w) := queue_valid (fun x hx => ⟨(hv.1 x hx).1, .inl rfl⟩) hv.2.1 hv.2.2.1 hm (.inl rfl) hh
        have hlen := queueL_length xs w
        have hs' : (true && decide (0 < xs.length)) = s := by
          cases s with
          | true =>
            rcases hv.2.2.2 with q | q
            · simpa using q
            · cases q
          | false =>
            cases xs with
            | nil => rfl
            | cons x r => exact absurd ⟨rfl, by simp⟩ hq
        have d0 : (((queueL xs w).length : Int) == (0 : Int)) = false := beq_eq_false_iff_ne.mpr (by omega)
        simp only [hse, d0, cond_false, show decide ((-1 : Int) ≥ 0) = false from rfl, send_loop_queue s xs w true (by omega) hv.2.1 hh, some_bind', endK, impl_EndpointCancel_ok (true, queueL xs w, ()) w.1 (show (queueL xs w).length ≤ 1048577 by omega), cancel_queue hqv hh, hs', beq_self_eq_true, cond_true,
          sameEnd_ok (s, xs, ()) (show xs.length ≤ 1048577 by omega), impl_EndpointValid_ok (true, queueL xs w, ()) (show (queueL xs w).length ≤ 1048577 by omega), show validE (true, queueL xs w, ()) = true from validE_iff.2 hqv]

/-! ### taking: the law -/

theorem take_loop (s : Bool) (xs : List DWaiter) (s' : Bool) (r : List DWaiter) (x : DWaiter) (h : xs.length ≤ 1048577) (hx : ∀ y ∈ xs, y.2.1 ≤ x.2.1) : loopF laws_FnEndpointTake_l0 (0, s, xs, s', r, x, ()) = some (.inl (s, xs, s', r, x, ())) := by
  have := loop_list0 (nxt := laws_FnEndpointTake_l0) xs (fun i (_ : Unit) => ((i : Int), s, xs, s', r, x, ())) (fun _ _ _ => .inl ()) (fun _ => .inl (s, xs, s', r, x, ())) ()
    (fun i y u hy => ?_) (fun u => ?_) (st := (0, s, xs, s', r, x, ())) rfl
  · rw [this]
    have : ∀ (l : List DWaiter) (i : Nat), goL (fun (_ : Nat) (_ : DWaiter) (_ : Unit) => (.inl () : Unit ⊕ ((Bool × List DWaiter × Bool × List DWaiter × DWaiter × Unit) ⊕ (Bool × Unit)))) (fun _ => .inl (s, xs, s', r, x, ())) l i () = .inl (s, xs, s', r, x, ()) := by
      intro l
      induction l with
      | nil => intro i; rfl
      | cons y l ih => intro i; exact ih (i + 1)
    rw [this]
  · have hl := get_lt hy
    have hd : ¬ (y.2.1 > x.2.1) := by have := hx y (List.mem_of_getElem? hy); omega
    simp only [laws_FnEndpointTake_l0, laws_FnEndpointTake_l0K, dec_lt hy, cond_true, nnK_nat, getK_some hy, decide_eq_false hd, cond_false, wrapS (show i < 4611686018427387904 by omega), goTo_l]
  · simp only [laws_FnEndpointTake_l0, laws_FnEndpointTake_l0K, dec_nlt, cond_false]

theorem FnEndpointTake_law (code : List Int) (h : WfD (.cons (.sl (.int .u8)) .nil) (code, ())) : laws_FnEndpointTake code = some true := by
  have hc : ∀ x ∈ code, 0 ≤ x ∧ x ≤ 255 := fun x hx => h.1.2 x hx
  unfold laws_FnEndpointTake laws_FnEndpointTakeK
  by_cases hl : ((code.length : Int) > 1048576)
  · simp [hl]
  · obtain ⟨s, n, p, xs, hs, hl12⟩ := DrawEndpointTake_ok code hc
    have htl := takeE_length (s, xs, ()) n p
    simp only at htl
    simp only [hl, decide_false, cond_false, hs, some_bind', impl_EndpointTake_ok (s, xs, ()) n p (show xs.length ≤ 1048576 by omega), spec_EndpointTake_ok (s, xs, ()) n p (show xs.length ≤ 1048577 by omega),
      sameEnd_ok ((takeE (s, xs, ()) n p).1, (takeE (s, xs, ()) n p).2.2.2, ()) (show (takeE (s, xs, ()) n p).2.2.2.length ≤ 1048577 by omega), Bool.not_true, Bool.not_false, cond_true, eqW_self, beq_self_eq_true]
    cases hce : comesE (s, xs, ()) (n, p, 0, 0, ()) with
    | false =>
      have hte : takeE (s, xs, ()) n p = (false, (0, 0, 0, 0, ()), false, []) := by unfold takeE; rw [hce]; rfl
      simp only [hte, alive_ok, some_bind']
      rfl
    | true =>
      obtain ⟨hv, hm, hh⟩ := comes_true hce
      cases s with
      | true =>
        cases xs with
        | nil =>
          rcases hv.2.2.2 with q | q
          · simp at q
          · cases q
        | cons x r =>
          simp only [List.length_cons] at hl12
          have hte : takeE (true, x :: r, ()) n p = (decide (0 < r.length), x, true, r) := by unfold takeE; rw [hce]; rfl
          have hg : (x :: r)[0]? = some x := rfl
          have em : (x.1, x.2.1, x.2.2.1, x.2.2.2.1, ()) = x := rfl
          have hvr : validE (decide (0 < r.length), r, ()) = true := validE_iff.2 (by simpa using vE_tail hv)
          have hx : ∀ y ∈ x :: r, y.2.1 ≤ x.2.1 := fun y hy => by
            rcases List.mem_cons.1 hy with rfl | hy
            · exact Int.le_refl _
            · exact (List.pairwise_cons.1 hv.2.1).1 y hy
          have e1 : ((r.length : Int) == IntKind.wrap .i64 ((((x :: r).length : Nat) : Int) - 1)) = true := by
            rw [wrap64 (by simp only [List.length_cons]; omega) (by simp only [List.length_cons]; omega), beq_iff_eq]
            simp only [List.length_cons]; omega
          simp only [hte, cond_true, em, take_loop true (x :: r) (decide (0 < r.length)) r x (show (x :: r).length ≤ 1048577 by simp only [List.length_cons]; omega) hx, some_bind', endK, getK_some hg, eqW_self, impl_EndpointValid_ok (decide (0 < r.length), r, ()) (show r.length ≤ 1048577 by omega), hvr, e1]
          rfl
      | false =>
        have hte : takeE (false, xs, ()) n p = (false, (0, 0, 0, 0, ()), false, queueL xs (n, p, 0, 0, ())) := by unfold takeE; rw [hce]; rfl
        have hqv : vE false (queueL xs (n, p, 0, 0, ())) := queue_valid (w := (n, p, 0, 0, ())) (fun x hx => hv.1 x hx) hv.2.1 hv.2.2.1 hm (.inr ⟨rfl, rfl⟩) hh
        have hlen := queueL_length xs (n, p, 0, 0, ())
        have d0 : (((queueL xs (n, p, 0, 0, ())).length : Int) == (0 : Int)) = false := beq_eq_false_iff_ne.mpr (by omega)
        have hcq := cancel_queue (w := (n, p, 0, 0, ())) hqv hh
        simp only [Bool.false_and] at hcq
        simp only [hte, d0, cond_false, cond_true, impl_EndpointCancel_ok (false, queueL xs (n, p, 0, 0, ()), ()) n (show (queueL xs (n, p, 0, 0, ())).length ≤ 1048577 by omega), hcq, some_bind', decide_true, Bool.and_self,
          sameEnd_ok (false, xs, ()) (show xs.length ≤ 1048577 by omega), impl_EndpointValid_ok (false, queueL xs (n, p, 0, 0, ()), ()) (show (queueL xs (n, p, 0, 0, ())).length ≤ 1048577 by omega), show validE (false, queueL xs (n, p, 0, 0, ()), ()) = true from validE_iff.2 hqv]
        rfl

end Go.Ev
