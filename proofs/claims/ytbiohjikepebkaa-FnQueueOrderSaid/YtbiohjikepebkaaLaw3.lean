/-
  Plain laws of queues: a thread is added; marks.
-/
import Derived.Test.YtbiohjikepebkaaLaw2
namespace Go.Ev
set_option linter.unusedVariables false
set_option linter.unusedSimpArgs false
set_option maxRecDepth 100000
set_option synthInstance.maxSize 2000
set_option synthInstance.maxHeartbeats 400000
/-! ### a thread is added -/

theorem prio_c1_ok (x : List Int) (n : Int) (h : x.length ≤ 1048577) : impl_Queues_prio_c1 x n = some (hasI x n) := by
  unfold impl_Queues_prio_c1 impl_Queues_prio_c1K
  rw [Contains_ok x n h]
  simp only [B7]

theorem impl_prio_ok (q : Rows) (n : Int) (h : q.length + sumL q ≤ 1048577) : impl_Queues_prio (q, ()) n = some (prioI q n) := by
  have key : slices_IndexFunc_int q n = some (prioI q n) := by
    unfold slices_IndexFunc_int slices_IndexFunc_intK prioI
    have := loop_list0 (nxt := slices_IndexFunc_int_l0) q (fun i (_ : Unit) => (q, n, (q.length : Int), (i : Int), ())) (fun i x _ => bif hasI x n then .inr (.inr ((i : Int), ())) else .inl ()) (fun _ => .inl ()) ()
      (fun i x s hx => ?_) (fun s => ?_) (st := (q, n, (q.length : Int), 0, ())) rfl
    · rw [this, goL_find (fun x : List Int => hasI x n) (fun i => (.inr ((i : Int), ()) : Unit ⊕ (Int × Unit))) (.inl ())]
      cases q.findIdx? (fun x => hasI x n) <;> simp [endK]
    · have hl := get_lt hx
      have hxl := row_le hx
      simp only [slices_IndexFunc_int_l0, slices_IndexFunc_int_l0K, dec_lt hx, cond_true, nnK_nat, getK_some hx, prio_c1_ok x n (by omega), B7, goTo_if, goTo_l, goTo_r, wrapS (show i < 4611686018427387904 by omega)]
      cases hasI x n <;> rfl
    · simp only [slices_IndexFunc_int_l0, slices_IndexFunc_int_l0K, dec_nlt, cond_false]
  unfold impl_Queues_prio impl_Queues_prioK
  rw [key]
  simp only [B7]

/-- queues with a thread at the end of a row -/
def addR (q : Rows) (t : Int) (p : Nat) : Rows := q.set p (rowQ q p ++ [t])
def addOk (q : Rows) (t p : Int) : Bool := qV q && rgt t 0 15 && rgt p 0 7
def addQ (q : Rows) (t p : Int) : Bool × Rows := bif addOk q t p then (if prioI q t ≥ 0 then (false, q) else (true, addR q t p.toNat)) else (false, [])

theorem addR_sum {q : Rows} {p : Nat} (h : p < q.length) (t : Int) : sumL (addR q t p) = sumL q + 1 := by
  unfold addR sumL
  have e1 : q = q.take p ++ rowQ q p :: q.drop (p + 1) := by
    have : rowQ q p = q[p] := by simp [rowQ, List.getD, h]
    rw [this]
    simp
  have e2 : ∀ r, q.set p r = q.take p ++ r :: q.drop (p + 1) := fun r => by rw [List.set_eq_take_append_cons_drop, if_pos h]
  rw [e2]
  conv => rhs; rw [e1]
  simp only [List.flatten_append, List.flatten_cons, List.length_append, List.length_singleton]
  omega

theorem addR_len (q : Rows) (t : Int) (p : Nat) : (addR q t p).length = q.length := by simp [addR]

theorem addQ_size (q : Rows) (t p : Int) (h : q.length + sumL q ≤ 1048576) : (addQ q t p).2.length + sumL (addQ q t p).2 ≤ 1048577 := by
  unfold addQ
  cases hc : addOk q t p with
  | false => simp [sumL]
  | true =>
    simp only [cond_true]
    split
    · simp only; omega
    · unfold addOk at hc
      simp only [rgt, Bool.and_eq_true, decide_eq_true_eq] at hc
      have h8 := (qV_iff.1 hc.1.1).1
      simp only
      rw [addR_len, addR_sum (by omega)]
      omega

theorem impl_ReadyAdd_ok (q : Rows) (t p : Int) (h : q.length + sumL q ≤ 1048577) : impl_ReadyAdd (q, ()) t p = some (addQ q t p) := by
  unfold impl_ReadyAdd impl_ReadyAddK addQ addOk
  simp only [impl_QueuesValid_ok q h, B7, impl_isThread, impl_isThreadK, impl_isPrio, impl_isPrioK, in_ok]
  cases hv : qV q with
  | false => rfl
  | true =>
    show (bif !(!true) then (bif !(!rgt t 0 15) then (bif !rgt p 0 7 then _ else _) else _) else _) = _
    cases ht : rgt t 0 15 with
    | false => rfl
    | true =>
      cases hp : rgt p 0 7 with
      | false => rfl
      | true =>
        simp only [rgt, Bool.and_eq_true, decide_eq_true_eq] at hp
        have h8 := (qV_iff.1 hv).1
        obtain ⟨m, rfl⟩ : ∃ m : Nat, p = (m : Int) := ⟨p.toNat, by omega⟩
        have hg := rget_of (show m < q.length by omega)
        have hle := row_le hg
        simp only [Bool.not_true, Bool.not_false, cond_true, cond_false, copyOf_ok q h, impl_prio_ok q t h, B7, Bool.and_self, nnK_nat, getK_some hg, Int.toNat_natCast]
        by_cases hpr : prioI q t ≥ 0
        · rw [decide_eq_true hpr, if_pos hpr]; rfl
        · rw [decide_eq_false hpr, if_neg hpr, chk_pos (by omega), chk_pos (by simp only [bigRow]; omega), clone_int_ok _ (by
            have : sumL q ≤ 1048569 := by omega
            simp; omega)]
          simp only [cond_false, B7]
          rw [chk_pos (by omega), chk_pos (by omega), chk_pos trivial]
          rfl

theorem spec_ReadyAdd_ok (q : Rows) (t p : Int) (h : q.length + sumL q ≤ 1048577) : spec_ReadyAdd (q, ()) t p = some (addQ q t p) := by
  unfold spec_ReadyAdd spec_ReadyAddK addQ addOk
  simp only [spec_QueuesValid_ok q h, B7, l1In_ok]
  cases hv : qV q with
  | false => rfl
  | true =>
    show (bif !(!true) then (bif !(!rgt t 0 15) then (bif !rgt p 0 7 then _ else _) else _) else _) = _
    cases ht : rgt t 0 15 with
    | false => rfl
    | true =>
      cases hp : rgt p 0 7 with
      | false => rfl
      | true =>
        simp only [rgt, Bool.and_eq_true, decide_eq_true_eq] at hp
        have h8 := (qV_iff.1 hv).1
        obtain ⟨m, rfl⟩ : ∃ m : Nat, p = (m : Int) := ⟨p.toNat, by omega⟩
        have hg := rget_of (show m < q.length by omega)
        have hle := row_le hg
        simp only [Bool.not_true, Bool.not_false, cond_true, cond_false, l8Copy_ok q h, spec_prio_ok q t hv h, B7, Bool.and_self, nnK_nat, getK_some hg, Int.toNat_natCast]
        by_cases hpr : prioI q t ≥ 0
        · rw [decide_eq_true hpr, if_pos hpr]; rfl
        · rw [decide_eq_false hpr, if_neg hpr, chk_pos (by omega), chk_pos (by simp only [bigRow]; omega)]
          simp only [cond_false]
          rw [chk_pos (by omega), chk_pos (by omega), chk_pos trivial]
          rfl

/-! ### marks in rows of rows -/

def marksR : Rows → Int → Rows
  | [], _ => []
  | x :: r, k => marks EInt 1 x.length k :: marksR r (k + (x.length : Int))

theorem marksR_len : ∀ (q : Rows) (k : Int), (marksR q k).length = q.length
  | [], _ => rfl
  | x :: r, k => by simp [marksR, marksR_len r]

theorem sumL_cons (x : List Int) (r : Rows) : sumL (x :: r) = x.length + sumL r := by simp [sumL]

theorem loop_markR {σ τ : Type} {nxt : σ → Option (σ ⊕ τ)} (enc : Nat → Int → Rows → σ) (fin : Int → Rows → τ) (q : Rows) (k : Int) (hk : 0 ≤ k) (hK : k + (sumL q : Int) ≤ 100000000000)
    (h1 : ∀ (i : Nat) (k : Int) (s : Rows) (x : List Int), 0 ≤ k → k + (x.length : Int) ≤ 100000000000 → s.length = q.length → s[i]? = some x → nxt (enc i k s) = some (.inl (enc (i + 1) (k + (x.length : Int)) (s.set i (marks EInt 1 x.length k)))))
    (h2 : ∀ (k : Int) (s : Rows), s.length = q.length → nxt (enc q.length k s) = some (.inr (fin k s))) {st : σ} (h0 : enc 0 k q = st) : loopF nxt st = some (fin (k + (sumL q : Int)) (marksR q k)) := by
  subst h0
  have key : ∀ (r : Rows) (i : Nat) (k : Int) (s : Rows), s.drop i = r → s.length = q.length → i ≤ q.length → 0 ≤ k → k + (sumL r : Int) ≤ 100000000000 → loopF nxt (enc i k s) = some (fin (k + (sumL r : Int)) (s.take i ++ marksR r k)) := by
    intro r
    induction r with
    | nil =>
      intro i k s hd hs hi hk hK
      have hl : i = s.length := by
        have := congrArg List.length hd
        simp at this; omega
      have hl2 : i = q.length := by omega
      subst hl2
      rw [loopF_inr (h2 k s hs)]
      simp [marksR, sumL, hl]
    | cons x r ih =>
      intro i k s hd hs hi hk hK
      obtain ⟨hx, hr⟩ := drop_get hd
      have hlt := get_lt hx
      rw [sumL_cons] at hK ⊢
      rw [loopF_inl (h1 i k s x hk (by omega) hs hx)]
      rw [ih (i + 1) (k + (x.length : Int)) (s.set i (marks EInt 1 x.length k)) (by rw [List.drop_set_of_lt (by omega)]; exact hr) (by simpa using hs) (by omega) (by omega) (by omega)]
      rw [List.take_add_one, List.take_set_of_le (Nat.le_refl i), List.getElem?_set_self hlt]
      simp only [marksR, Option.toList_some, List.append_assoc, List.singleton_append]
      congr 2
      omega
  have := key q 0 k q rfl rfl (Nat.zero_le _) hk hK
  simpa using this

theorem markQ2_ok (a b c : Rows) (h : b.length + sumL b ≤ 1048577) : laws_markQueues_v2 1 a b c = some (1 + (sumL b : Int), a, marksR b 1, c) := by
  unfold laws_markQueues_v2 laws_markQueues_v2K laws_markIntSS_v2 laws_markIntSS_v2K
  have : loopF laws_markIntSS_v2_l0 (1, 0, a, b, c, ()) = some (1 + (sumL b : Int), a, marksR b 1, c, ()) := by
    refine loop_markR (fun i k s => (k, (i : Int), a, s, c, ())) (fun k s => (k, a, s, c, ())) b 1 (by omega) (by omega) (fun i k s x hk hK hs hx => ?_) (fun k s hs => ?_) rfl
    · have hl := get_lt hx
      simp only [laws_markIntSS_v2_l0, laws_markIntSS_v2_l0K, dec_lt hx, cond_true, nnK_nat, getK_some hx, chk_pos hl, markIntS_ok x k hk (by omega), B7, wrapS (show i < 4611686018427387904 by omega), Int.one_mul]
    · have hd : decide ((b.length : Int) < (s.length : Int)) = false := by simp; omega
      simp only [laws_markIntSS_v2_l0, laws_markIntSS_v2_l0K, hd, cond_false]
  simp only [this, B7]

theorem markQ3_ok (a b c : Rows) (h : c.length + sumL c ≤ 1048577) : laws_markQueues_v3 1 a b c = some (1 + (sumL c : Int), a, b, marksR c 1) := by
  unfold laws_markQueues_v3 laws_markQueues_v3K laws_markIntSS_v3 laws_markIntSS_v3K
  have : loopF laws_markIntSS_v3_l0 (1, 0, a, b, c, ()) = some (1 + (sumL c : Int), a, b, marksR c 1, ()) := by
    refine loop_markR (fun i k s => (k, (i : Int), a, b, s, ())) (fun k s => (k, a, b, s, ())) c 1 (by omega) (by omega) (fun i k s x hk hK hs hx => ?_) (fun k s hs => ?_) rfl
    · have hl := get_lt hx
      simp only [laws_markIntSS_v3_l0, laws_markIntSS_v3_l0K, dec_lt hx, cond_true, nnK_nat, getK_some hx, chk_pos hl, markIntS_ok x k hk (by omega), B7, wrapS (show i < 4611686018427387904 by omega), Int.one_mul]
    · have hd : decide ((c.length : Int) < (s.length : Int)) = false := by simp; omega
      simp only [laws_markIntSS_v3_l0, laws_markIntSS_v3_l0K, hd, cond_false]
  simp only [this, B7]

theorem markQ5_ok (b : Rows) (l : List Int) (h : b.length + sumL b ≤ 1048577) : laws_markQueues_v5 1 b l = some (1 + (sumL b : Int), marksR b 1, l) := by
  unfold laws_markQueues_v5 laws_markQueues_v5K laws_markIntSS_v5 laws_markIntSS_v5K
  have : loopF laws_markIntSS_v5_l0 (1, 0, b, l, ()) = some (1 + (sumL b : Int), marksR b 1, l, ()) := by
    refine loop_markR (fun i k s => (k, (i : Int), s, l, ())) (fun k s => (k, s, l, ())) b 1 (by omega) (by omega) (fun i k s x hk hK hs hx => ?_) (fun k s hs => ?_) rfl
    · have hl := get_lt hx
      simp only [laws_markIntSS_v5_l0, laws_markIntSS_v5_l0K, dec_lt hx, cond_true, nnK_nat, getK_some hx, chk_pos hl, markIntS_ok x k hk (by omega), B7, wrapS (show i < 4611686018427387904 by omega), Int.one_mul]
    · have hd : decide ((b.length : Int) < (s.length : Int)) = false := by simp; omega
      simp only [laws_markIntSS_v5_l0, laws_markIntSS_v5_l0K, hd, cond_false]
  simp only [this, B7]

theorem heldQ_ok (q : Rows) (h : q.length + sumL q ≤ 1048577) : laws_heldQueues (marksR q 1, ()) 1 = some (1 + (sumL q : Int)) := by
  have key : ∀ (r a : Rows) (i : Nat) (k k0 : Int), (marksR q k0).drop i = marksR r k → i + r.length = q.length → 0 ≤ k → k + (sumL r : Int) ≤ 100000000 → (∀ x ∈ r, x.length ≤ 1048577) → loopF laws_heldIntSS_l0 (marksR q k0, k, (i : Int), ()) = some (.inl (k + (sumL r : Int), ())) := by
    intro r a
    induction r with
    | nil =>
      intro i k k0 hd hi hk hK _
      have hl : i = (marksR q k0).length := by rw [marksR_len]; simpa using hi
      refine loopF_inr ?_
      rw [hl]
      simp only [laws_heldIntSS_l0, laws_heldIntSS_l0K, dec_nlt, cond_false]
      simp [sumL]
    | cons x r ih =>
      intro i k k0 hd hi hk hK hx1
      simp only [marksR] at hd
      obtain ⟨hx, hr⟩ := drop_get hd
      rw [sumL_cons] at hK ⊢
      have hi' : i < 4611686018427387904 := by have := get_lt hx; rw [marksR_len] at this; omega
      have hthis := ih (i + 1) (k + (x.length : Int)) k0 hr (by simp at hi; omega) (by omega) (by omega) (fun y hy => hx1 y (List.mem_cons_of_mem _ hy))
      rw [show k + ((x.length + sumL r : Nat) : Int) = k + (x.length : Int) + (sumL r : Int) by omega, ← hthis]
      refine loopF_inl ?_
      have hd2 : decide (k + (x.length : Int) < 0) = false := decide_eq_false (by omega)
      simp only [laws_heldIntSS_l0, laws_heldIntSS_l0K, dec_lt hx, cond_true, nnK_nat, getK_some hx, heldIntS_ok x.length k hk (by omega) (hx1 x (List.mem_cons_self ..)), B7, hd2, cond_false, wrapS hi', Int.one_mul]
  have := key q [] 0 1 1 rfl (by simp) (by omega) (by omega) (fun x hx => by
    obtain ⟨i, hi⟩ := List.getElem?_of_mem hx
    have := row_le hi
    omega)
  have e0 : ((0 : Nat) : Int) = 0 := rfl
  rw [e0] at this
  unfold laws_heldQueues laws_heldQueuesK laws_heldIntSS laws_heldIntSSK
  simp only [this, B7, endK]
  rw [decide_eq_false (by omega)]
  rfl

theorem FnExactReadyAdd_law (k : DQueues) (t p : Int) (h : WfD (.cons tQueues (.cons I (.cons I .nil))) (k, t, p, ())) : laws_FnExactReadyAdd k t p = some true := by
  obtain ⟨q, ⟨⟩⟩ := k
  obtain ⟨h1, h2⟩ := wfQ (q := q) h.1.1
  unfold laws_FnExactReadyAdd laws_FnExactReadyAddK
  obtain ⟨r, e, hr⟩ := szQueues_ok q h1 h2
  simp only [e, B7]
  by_cases h0 : r < 0
  · rw [decide_eq_true h0]; rfl
  · have hs := hr h0
    have hR := addQ_size q t p hs
    have hb : (addQ q t p).1 == (addQ q t p).1 := by simp
    have d1 : decide (1 + (sumL q : Int) < 0) = false := decide_eq_false (by omega)
    have d2 : decide (1 + (sumL (addQ q t p).2 : Int) < 0) = false := decide_eq_false (by omega)
    rw [decide_eq_false h0]
    simp only [cond_false, toQueues_ok q (by omega), B7, spec_ReadyAdd_ok q t p (by omega), impl_ReadyAdd_ok q t p (by omega), eqQueues_ok q (by omega), eqQueues_ok _ hR, Bool.not_true, Bool.not_false, cond_true, hb,
      markQ2_ok _ _ _ (show q.length + sumL q ≤ 1048577 by omega), markQ3_ok _ _ _ hR, heldQ_ok _ hR, d1, d2, bne_self_eq_false, beq_self_eq_true]

theorem turnQ_all (q : Rows) : ∃ R : Rows, (∀ h : q.length + sumL q ≤ 1048577, spec_ReadyTurn (q, ()) = some R ∧ impl_ReadyTurn (q, ()) = some R) ∧ (q.length + sumL q ≤ 1048576 → R.length + sumL R ≤ 1048577) := by
  refine ⟨bif qV q then turnQ q else [], fun h => ?_, fun h => ?_⟩
  · cases hv : qV q with
    | false =>
      refine ⟨?_, ?_⟩
      · unfold spec_ReadyTurn spec_ReadyTurnK
        simp only [spec_QueuesValid_ok q h, hv, B7]; rfl
      · unfold impl_ReadyTurn impl_ReadyTurnK
        simp only [impl_QueuesValid_ok q h, hv, B7]; rfl
    | true =>
      have h8 := (qV_iff.1 hv).1
      refine ⟨spec_turn_ok q hv h, ?_⟩
      unfold impl_ReadyTurn impl_ReadyTurnK
      simp only [impl_QueuesValid_ok q h, hv, B7, Bool.not_true, cond_false, copyOf_ok q h, turn_ok q h8 (by omega)]
      rfl
  · cases hv : qV q with
    | false => simp [sumL]
    | true =>
      have h8 := (qV_iff.1 hv).1
      simp only [cond_true]
      rw [turnQ_sum h8, (turnQ_perm h8).2]
      omega

theorem FnExactReadyTurn_law (k : DQueues) (h : WfD (.cons tQueues .nil) (k, ())) : laws_FnExactReadyTurn k = some true := by
  obtain ⟨q, ⟨⟩⟩ := k
  obtain ⟨h1, h2⟩ := wfQ (q := q) h.1.1
  unfold laws_FnExactReadyTurn laws_FnExactReadyTurnK
  obtain ⟨r, e, hr⟩ := szQueues_ok q h1 h2
  simp only [e, B7]
  by_cases h0 : r < 0
  · rw [decide_eq_true h0]; rfl
  · have hs := hr h0
    obtain ⟨R, hR1, hR2⟩ := turnQ_all q
    obtain ⟨k1, k2⟩ := hR1 (by omega)
    have hR := hR2 hs
    have d1 : decide (1 + (sumL q : Int) < 0) = false := decide_eq_false (by omega)
    have d2 : decide (1 + (sumL R : Int) < 0) = false := decide_eq_false (by omega)
    rw [decide_eq_false h0]
    simp only [cond_false, toQueues_ok q (by omega), B7, k1, k2, eqQueues_ok q (by omega), eqQueues_ok R hR, Bool.not_true, Bool.not_false, cond_true,
      markQ2_ok _ _ _ (show q.length + sumL q ≤ 1048577 by omega), markQ3_ok _ _ _ hR, heldQ_ok _ hR, d1, d2, bne_self_eq_false]

theorem FnExactRunTurns_law (k : DQueues) (t : Int) (h : WfD (.cons tQueues (.cons I .nil)) (k, t, ())) : laws_FnExactRunTurns k t = some true := by
  obtain ⟨q, ⟨⟩⟩ := k
  obtain ⟨h1, h2⟩ := wfQ (q := q) h.1.1
  unfold laws_FnExactRunTurns laws_FnExactRunTurnsK
  obtain ⟨r, e, hr⟩ := szQueues_ok q h1 h2
  simp only [e, B7]
  by_cases h0 : r < 0
  · rw [decide_eq_true h0]; rfl
  · have hs := hr h0
    have hl : (runsQ q t).length ≤ 200 := by
      unfold runsQ
      cases hr : runOk q t with
      | false => simp
      | true =>
        unfold runOk at hr
        simp only [rgt, Bool.and_eq_true, decide_eq_true_eq] at hr
        simp only [cond_true, runQ_len]
        omega
    have d1 : decide (1 + (sumL q : Int) < 0) = false := decide_eq_false (by omega)
    have d2 : decide (1 + 1 * ((runsQ q t).length : Int) < 0) = false := decide_eq_false (by omega)
    rw [decide_eq_false h0]
    simp only [cond_false, toQueues_ok q (by omega), B7, spec_RunTurns_ok q t (by omega), impl_RunTurns_ok q t (by omega), eqQueues_ok q (by omega), eqIntS_ok _ _ (show (runsQ q t).length ≤ 1048577 by omega), decide_true, Bool.not_true, Bool.not_false, cond_true,
      markQ5_ok _ _ (show q.length + sumL q ≤ 1048577 by omega), markIntS_ok (runsQ q t) 1 (by omega) (by omega), heldIntS_ok (runsQ q t).length 1 (by omega) (by omega) (by omega), d1, d2, bne_self_eq_false]

end Go.Ev
