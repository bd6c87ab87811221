/-
  Plain laws of queues: a thread is removed.
-/
import Derived.Test.YtbiohjikepebkaaLaw3
namespace Go.Ev
set_option linter.unusedVariables false
set_option linter.unusedSimpArgs false
set_option maxRecDepth 100000
set_option synthInstance.maxSize 2000
set_option synthInstance.maxHeartbeats 400000
/-! ### a thread is removed -/

def keepI (t : Int) (x : Int) : Bool := !(x == t)

theorem rem_c1_ok (x t : Int) : impl_ReadyRemove_c1 x t = some (x == t) := rfl

theorem index2_ok (xs : List Int) (t : Int) (h : xs.length ≤ 1048577) : slices_IndexFunc_int_v2 xs t = some (match xs.findIdx? (fun x => !keepI t x) with | some j => (j : Int) | none => -1) := by
  unfold slices_IndexFunc_int_v2 slices_IndexFunc_int_v2K
  have := loop_list0 (nxt := slices_IndexFunc_int_v2_l0) xs (fun i (_ : Unit) => (xs, t, (xs.length : Int), (i : Int), ())) (fun i x _ => bif !keepI t x then .inr (.inr ((i : Int), ())) else .inl ()) (fun _ => .inl ()) ()
    (fun i x s hx => ?_) (fun s => ?_) (st := (xs, t, (xs.length : Int), 0, ())) rfl
  · rw [this, goL_find (fun x : Int => !keepI t x) (fun i => (.inr ((i : Int), ()) : Unit ⊕ (Int × Unit))) (.inl ())]
    cases xs.findIdx? (fun x => !keepI t x) <;> simp [endK]
  · have hl := get_lt hx
    simp only [slices_IndexFunc_int_v2_l0, slices_IndexFunc_int_v2_l0K, dec_lt hx, cond_true, nnK_nat, getK_some hx, rem_c1_ok, B7, goTo_if, goTo_l, goTo_r, wrapS (show i < 4611686018427387904 by omega), keepI, Bool.not_not]
    cases (x == t) <;> rfl
  · simp only [slices_IndexFunc_int_v2_l0, slices_IndexFunc_int_v2_l0K, dec_nlt, cond_false]

theorem delete_loop (xs : List Int) (o : Int) (h : xs.length ≤ 1048577) : ∀ (f i j : Nat) (b : List Int), j + f = xs.length → i < j → b.length = xs.length → b.drop j = xs.drop j → b.take i = (xs.take j).filter (keepI o) →
    ∃ (i' : Nat) (b' : List Int), loopF slices_DeleteFunc_int_l0 (o, (i : Int), (j : Int), b, ()) = some ((i' : Int), b', ()) ∧ i' ≤ b'.length ∧ b'.take i' = xs.filter (keepI o) ∧ b'.length = xs.length := by
  intro f
  induction f with
  | zero =>
    intro i j b hj hij hl hd ht
    have : j = xs.length := by omega
    subst this
    refine ⟨i, b, loopF_inr ?_, by omega, by simpa using ht, hl⟩
    simp only [slices_DeleteFunc_int_l0, slices_DeleteFunc_int_l0K, ← hl, dec_nlt, cond_false]
  | succ f ih =>
    intro i j b hj hij hl hd ht
    have hjx : j < xs.length := by omega
    have hjb : j < b.length := by omega
    have hbj : b[j]? = some xs[j] := by
      have := congrArg (fun l => l[0]?) hd
      simpa [hjx, List.getElem?_drop] using this
    have hd' : decide ((j : Int) < (b.length : Int)) = true := by simp; omega
    have htk : xs.take (j + 1) = xs.take j ++ [xs[j]] := by rw [List.take_add_one]; simp [hjx]
    cases hk : keepI o xs[j] with
    | true =>
      have hib : i < b.length := by omega
      have hc : (xs[j] == o) = false := by simpa [keepI] using hk
      have hst : slices_DeleteFunc_int_l0 (o, (i : Int), (j : Int), b, ()) = some (.inl (o, ((i + 1 : Nat) : Int), ((j + 1 : Nat) : Int), b.set i xs[j], ())) := by
        simp only [slices_DeleteFunc_int_l0, slices_DeleteFunc_int_l0K, hd', cond_true, nnK_nat, chk_pos hjb, getK_some hbj, rem_c1_ok, B7, hc, Bool.not_false, cond_true, chk_pos hib, getK_lt hib, wrapS (show i < 4611686018427387904 by omega), wrapS (show j < 4611686018427387904 by omega)]
      rw [loopF_inl hst]
      refine ih (i + 1) (j + 1) _ (by omega) (by omega) (by simpa using hl) ?_ ?_
      · rw [List.drop_set_of_lt (by omega)]
        have := congrArg List.tail hd
        simpa [List.tail_drop] using this
      · rw [htk, List.filter_append, ← ht, List.take_add_one, List.take_set_of_le (Nat.le_refl i), List.getElem?_set_self hib]
        simp [hk]
    | false =>
      have hc : (xs[j] == o) = true := by simpa [keepI] using hk
      have hst : slices_DeleteFunc_int_l0 (o, (i : Int), (j : Int), b, ()) = some (.inl (o, (i : Int), ((j + 1 : Nat) : Int), b, ())) := by
        simp only [slices_DeleteFunc_int_l0, slices_DeleteFunc_int_l0K, hd', cond_true, nnK_nat, chk_pos hjb, getK_some hbj, rem_c1_ok, B7, hc, Bool.not_true, cond_false, wrapS (show j < 4611686018427387904 by omega)]
      rw [loopF_inl hst]
      refine ih i (j + 1) _ (by omega) (by omega) hl ?_ ?_
      · have := congrArg List.tail hd
        simpa [List.tail_drop] using this
      · rw [htk, List.filter_append, ← ht]
        simp [hk]

theorem delete_ok (xs : List Int) (o : Int) (h : xs.length ≤ 1048577) : ∃ n b, slices_DeleteFunc_int o xs = some (n, b) ∧ b.take n = xs.filter (keepI o) ∧ n ≤ b.length := by
  unfold slices_DeleteFunc_int slices_DeleteFunc_intK
  rw [index2_ok xs o h]
  cases hf : xs.findIdx? (fun x => !keepI o x) with
  | none =>
    rw [List.findIdx?_eq_none_iff] at hf
    refine ⟨xs.length, xs, rfl, ?_, Nat.le_refl _⟩
    rw [List.take_length]
    exact (List.filter_eq_self.2 fun x hx => by simpa using hf x hx).symm
  | some r =>
    rw [List.findIdx?_eq_some_iff_getElem] at hf
    obtain ⟨hr, h1, h2⟩ := hf
    have e1 : ((r : Int) == -1) = false := by simp
    simp only [B7, e1, cond_false, wrapS (show r < 4611686018427387904 by omega)]
    have htk : xs.take (r + 1) = xs.take r ++ [xs[r]] := by rw [List.take_add_one]; simp [hr]
    have hkr : keepI o xs[r] = false := by simpa using h1
    obtain ⟨i', b', e2, hi, ht, hl⟩ := delete_loop xs o h (xs.length - (r + 1)) r (r + 1) xs (by omega) (by omega) rfl rfl (by
      rw [htk, List.filter_append, List.filter_eq_self.2 fun x hx => by
        obtain ⟨k, hk⟩ := List.getElem?_of_mem hx
        have hlt := get_lt hk
        simp only [List.length_take] at hlt
        rw [List.getElem?_take, if_pos (by omega)] at hk
        have := h2 k (by omega)
        have hxk : xs[k] = x := (List.getElem?_eq_some_iff.1 hk).2
        rw [hxk] at this
        simpa using this]
      simp [hkr])
    rw [e2]
    simp only [B7, nnK_nat, chk_pos hi]
    have hol : (over b' i' (List.replicate (b'.length - i') (0 : Int))).length = b'.length := over_len _ _ _ (by simp; omega)
    rw [chk_pos (by rw [hol]; exact hi)]
    exact ⟨i', _, rfl, by rw [take_over _ _ hi]; exact ht, by rw [hol]; exact hi⟩

/-- queues without a thread in row p -/
def remR (q : Rows) (t : Int) (p : Nat) : Rows := q.set p ((rowQ q p).filter (keepI t))
def remQ (q : Rows) (t : Int) : Bool × Rows := bif qV q then (if prioI q t < 0 then (false, q) else (true, remR q t (prioI q t).toNat)) else (false, [])

theorem remR_len (q : Rows) (t : Int) (p : Nat) : (remR q t p).length = q.length := by simp [remR]

theorem set_sum {q : Rows} {p : Nat} (h : p < q.length) (r : List Int) : sumL (q.set p r) + (rowQ q p).length = sumL q + r.length := by
  unfold sumL
  have e1 : q = q.take p ++ rowQ q p :: q.drop (p + 1) := by
    have : rowQ q p = q[p] := by simp [rowQ, List.getD, h]
    rw [this]
    simp
  have e2 : q.set p r = q.take p ++ r :: q.drop (p + 1) := by rw [List.set_eq_take_append_cons_drop, if_pos h]
  rw [e2]
  conv => rhs; rw [e1]
  simp only [List.flatten_append, List.flatten_cons, List.length_append]
  omega

theorem remR_sum {q : Rows} {p : Nat} (h : p < q.length) (t : Int) : sumL (remR q t p) ≤ sumL q := by
  have := set_sum h ((rowQ q p).filter (keepI t))
  have h2 := List.length_filter_le (keepI t) (rowQ q p)
  unfold remR
  omega

theorem prio_cases (q : Rows) (t : Int) : (prioI q t = -1 ∧ ∀ r ∈ q, t ∉ r) ∨ ∃ j : Nat, j < q.length ∧ prioI q t = (j : Int) ∧ t ∈ rowQ q j := by
  unfold prioI
  cases hf : q.findIdx? (fun r => hasI r t) with
  | none =>
    refine .inl ⟨rfl, fun r hr hm => ?_⟩
    have := List.findIdx?_eq_none_iff.1 hf r hr
    rw [has_iff.2 hm] at this
    cases this
  | some j =>
    obtain ⟨hj, hp, _⟩ := List.findIdx?_eq_some_iff_getElem.1 hf
    refine .inr ⟨j, hj, rfl, ?_⟩
    have : rowQ q j = q[j] := by simp [rowQ, List.getD, hj]
    rw [this]
    exact has_iff.1 hp

theorem remQ_size (q : Rows) (t : Int) (h : q.length + sumL q ≤ 1048576) : (remQ q t).2.length + sumL (remQ q t).2 ≤ 1048577 := by
  unfold remQ
  cases hc : qV q with
  | false => simp [sumL]
  | true =>
    simp only [cond_true]
    rcases prio_cases q t with ⟨h1, _⟩ | ⟨j, h1, h2, _⟩
    · rw [if_pos (by omega)]; simp only; omega
    · rw [if_neg (by omega), h2, Int.toNat_natCast]
      have := remR_sum h1 t
      simp only
      rw [remR_len]
      omega

theorem impl_ReadyRemove_ok (q : Rows) (t : Int) (h : q.length + sumL q ≤ 1048577) : impl_ReadyRemove (q, ()) t = some (remQ q t) := by
  unfold impl_ReadyRemove impl_ReadyRemoveK remQ
  simp only [impl_QueuesValid_ok q h, B7]
  cases hv : qV q with
  | false => rfl
  | true =>
    simp only [Bool.not_true, cond_false, cond_true, copyOf_ok q h, impl_prio_ok q t h, B7]
    rcases prio_cases q t with ⟨h1, _⟩ | ⟨j, h1, h2, _⟩
    · rw [h1]; rfl
    · have hg := rget_of h1
      have hle := row_le hg
      rw [h2, if_neg (by omega), decide_eq_false (by omega)]
      obtain ⟨n, b, e1, e2, e3⟩ := delete_ok (rowQ q j) t (by omega)
      have hf := List.length_filter_le (keepI t) (rowQ q j)
      simp only [cond_false, nnK_nat, getK_some hg, e1, B7, List.drop_zero, e2, Int.toNat_natCast]
      rw [chk_pos h1, clone_int_ok _ (by omega)]
      simp only [B7]
      rw [chk_pos h1, chk_pos h1, chk_pos trivial]
      rfl

theorem spec_ReadyRemove_ok (q : Rows) (t : Int) (h : q.length + sumL q ≤ 1048577) : spec_ReadyRemove (q, ()) t = some (remQ q t) := by
  unfold spec_ReadyRemove spec_ReadyRemoveK remQ
  simp only [spec_QueuesValid_ok q h, B7]
  cases hv : qV q with
  | false => rfl
  | true =>
    simp only [Bool.not_true, cond_false, cond_true, l8Copy_ok q h, spec_prio_ok q t hv h, B7]
    rcases prio_cases q t with ⟨h1, _⟩ | ⟨j, h1, h2, _⟩
    · rw [h1]; rfl
    · have hg := rget_of h1
      have hle := row_le hg
      rw [h2, if_neg (by omega), decide_eq_false (by omega)]
      simp only [cond_false, nnK_nat, Int.toNat_natCast]
      rw [chk_pos h1, chk_pos h1]
      have := loop_list1 (nxt := spec_ReadyRemove_l0) (rowQ q j) (fun i (s : List Int) => (t, (q, ()), (j : Int), (i : Int), q.set j s, ())) (fun _ x s => .inl (bif keepI t x then s ++ [x] else s)) (fun s => (q.set j s, ())) (fun i s => s.length ≤ i) []
        (fun i x s hs hx => ?_) (fun i x s s' hs hx e => ?_) (fun s hs => ?_) (Nat.le_refl _) (st := (t, (q, ()), (j : Int), 0, q.set j [], ())) rfl
      · rw [this, goL_fold (fun s x => bif keepI t x then s ++ [x] else s)]
        have hfold : ∀ (r s : List Int), r.foldl (fun s x => bif keepI t x then s ++ [x] else s) s = s ++ r.filter (keepI t) := by
          intro r
          induction r with
          | nil => intro s; simp
          | cons x r ih =>
            intro s
            rw [List.foldl_cons, ih, List.filter_cons]
            cases keepI t x <;> simp
        rw [hfold]
        rfl
      · have hl := get_lt hx
        have hj : j < (q.set j s).length := by simpa using h1
        have hgs : (q.set j s)[j]? = some s := List.getElem?_set_self h1
        have hb : (x != t) = keepI t x := rfl
        simp only [spec_ReadyRemove_l0, spec_ReadyRemove_l0K, nnK_nat, getK_some hg, dec_lt hx, cond_true, getK_some hx, hb, goTo_l, wrapS (show i < 4611686018427387904 by omega)]
        cases hk : keepI t x with
        | false => rfl
        | true =>
          simp only [cond_true]
          rw [chk_pos hj, getK_some hgs, chk_pos (by simp only [bigRow]; omega), chk_pos hj, chk_pos hj, chk_pos trivial, List.set_set]
      · cases e
        cases keepI t x <;> simp <;> omega
      · simp only [spec_ReadyRemove_l0, spec_ReadyRemove_l0K, nnK_nat, getK_some hg, dec_nlt, cond_false]

theorem FnExactReadyRemove_law (k : DQueues) (t : Int) (h : WfD (.cons tQueues (.cons I .nil)) (k, t, ())) : laws_FnExactReadyRemove k t = some true := by
  obtain ⟨q, ⟨⟩⟩ := k
  obtain ⟨h1, h2⟩ := wfQ (q := q) h.1.1
  unfold laws_FnExactReadyRemove laws_FnExactReadyRemoveK
  obtain ⟨r, e, hr⟩ := szQueues_ok q h1 h2
  simp only [e, B7]
  by_cases h0 : r < 0
  · rw [decide_eq_true h0]; rfl
  · have hs := hr h0
    have hR := remQ_size q t hs
    have hb : (remQ q t).1 == (remQ q t).1 := by simp
    have d1 : decide (1 + (sumL q : Int) < 0) = false := decide_eq_false (by omega)
    have d2 : decide (1 + (sumL (remQ q t).2 : Int) < 0) = false := decide_eq_false (by omega)
    rw [decide_eq_false h0]
    simp only [cond_false, toQueues_ok q (by omega), B7, spec_ReadyRemove_ok q t (by omega), impl_ReadyRemove_ok q t (by omega), eqQueues_ok q (by omega), eqQueues_ok _ hR, Bool.not_true, Bool.not_false, cond_true, hb,
      markQ2_ok _ _ _ (show q.length + sumL q ≤ 1048577 by omega), markQ3_ok _ _ _ hR, heldQ_ok _ hR, d1, d2, bne_self_eq_false, beq_self_eq_true]

end Go.Ev
