/-
  Plain laws of queues: turns.
-/
import Derived.Test.YtbiohjikepebkaaLaw1
namespace Go.Ev
set_option linter.unusedVariables false
set_option linter.unusedSimpArgs false
set_option maxRecDepth 100000
set_option synthInstance.maxSize 2000
set_option synthInstance.maxHeartbeats 400000
/-! ### the greatest priority, the next thread, a turn -/

def rowQ (q : Rows) (n : Nat) : List Int := q.getD n []
def topN (q : Rows) : Nat → Int
  | 0 => -1
  | n + 1 => if (rowQ q n).length > 0 then (n : Int) else topN q n
def topI (q : Rows) : Int := topN q 8
def nextI (q : Rows) : Int := if topI q < 0 then -1 else (rowQ q (topI q).toNat).getD 0 0
def turnR (r : List Int) : List Int := r.drop 1 ++ [r.getD 0 0]
def turnQ (q : Rows) : Rows := if topI q < 0 then q else q.set (topI q).toNat (turnR (rowQ q (topI q).toNat))

theorem rget_of {q : Rows} {n : Nat} (h : n < q.length) : q[n]? = some (rowQ q n) := by simp [rowQ, List.getD, h]

theorem topN_spec (q : Rows) : ∀ n, topN q n = -1 ∨ ∃ j : Nat, j < n ∧ topN q n = (j : Int) ∧ 0 < (rowQ q j).length
  | 0 => .inl rfl
  | n + 1 => by
    unfold topN
    split
    · rename_i h
      exact .inr ⟨n, by omega, rfl, h⟩
    · rcases topN_spec q n with h | ⟨j, h1, h2⟩
      · exact .inl h
      · exact .inr ⟨j, by omega, h2⟩

theorem top_loop (q : Rows) (hl : q.length ≤ 1048577) : ∀ n, n ≤ q.length → loopF impl_Queues_top_l0 ((q, ()), (n : Int) - 1, ()) = some (if topN q n < 0 then .inl () else .inr (topN q n, ()))
  | 0, _ => by
    refine loopF_inr ?_
    have : decide (((0 : Nat) : Int) - 1 ≥ 0) = false := rfl
    simp only [impl_Queues_top_l0, impl_Queues_top_l0K, this, cond_false]
    rfl
  | n + 1, h => by
    have e : ((n + 1 : Nat) : Int) - 1 = (n : Int) := by omega
    have hd : decide ((n : Int) ≥ 0) = true := by simp
    rw [e]
    unfold topN
    by_cases hr : (rowQ q n).length > 0
    · rw [if_pos hr]
      refine loopF_inr ?_
      have h1 : decide (((rowQ q n).length : Int) > 0) = true := decide_eq_true (by omega)
      simp only [impl_Queues_top_l0, impl_Queues_top_l0K, hd, cond_true, nnK_nat, getK_some (rget_of (show n < q.length by omega)), h1]
      rw [if_neg (by omega)]
    · rw [if_neg hr, ← top_loop q hl n (by omega)]
      refine loopF_inl ?_
      have h1 : decide (((rowQ q n).length : Int) > 0) = false := decide_eq_false (by omega)
      simp only [impl_Queues_top_l0, impl_Queues_top_l0K, hd, cond_true, nnK_nat, getK_some (rget_of (show n < q.length by omega)), h1, cond_false]
      rw [wrap64 (n := (n : Int) - 1) (by omega) (by omega)]

theorem top_ok (q : Rows) (h8 : q.length = 8) : impl_Queues_top (q, ()) = some (topI q) := by
  unfold impl_Queues_top impl_Queues_topK
  have := top_loop q (by omega) 8 (by omega)
  have e : ((8 : Nat) : Int) - 1 = 7 := rfl
  rw [e] at this
  rw [this]
  unfold topI
  rcases topN_spec q 8 with h | ⟨j, _, h, _⟩
  · rw [h]; rfl
  · rw [h, if_neg (by omega)]; rfl

theorem next_ok (q : Rows) (h8 : q.length = 8) : impl_Queues_next (q, ()) = some (nextI q) := by
  unfold impl_Queues_next impl_Queues_nextK nextI
  rw [top_ok q h8]
  simp only [B7]
  unfold topI
  rcases topN_spec q 8 with h | ⟨j, hj, h, hp⟩
  · rw [h]; rfl
  · rw [h, if_neg (by omega), decide_eq_false (by omega)]
    have h0 : (rowQ q j)[0]? = some ((rowQ q j).getD 0 0) := by simp [List.getD, hp]
    simp only [cond_false, nnK_nat, getK_some (rget_of (show j < q.length by omega)), getK_some h0, Int.toNat_natCast]

theorem turn_ok (q : Rows) (h8 : q.length = 8) (h : sumL q ≤ 1048569) : impl_Queues_turn q = some (turnQ q) := by
  unfold impl_Queues_turn impl_Queues_turnK turnQ
  rw [top_ok q h8]
  simp only [B7]
  unfold topI
  rcases topN_spec q 8 with ht | ⟨j, hj, ht, hp⟩
  · rw [ht]; rfl
  · rw [ht, if_neg (by omega), decide_eq_true (by omega)]
    have hg := rget_of (show j < q.length by omega)
    have hle := row_le hg
    have h0 : (rowQ q j)[0]? = some ((rowQ q j).getD 0 0) := by simp [List.getD, hp]
    simp only [cond_true, nnK_nat, getK_some hg, Int.toNat_natCast]
    rw [chk_pos (show j < q.length by omega), chk_pos (by omega), chk_pos (by omega), getK_some h0, List.take_of_length_le (by simp), clone_int_ok _ (by simp; omega)]
    simp only [B7]
    rw [chk_pos (by simp [bigRow]; omega), clone_int_ok _ (by simp; omega)]
    simp only [B7]
    rw [chk_pos (show j < q.length by omega), chk_pos (show j < q.length by omega), chk_pos trivial]
    rfl

theorem turn2_ok (l : List Int) (q : Rows) (h8 : q.length = 8) (h : sumL q ≤ 1048569) : impl_Queues_turn_v2 l q = some (l, turnQ q) := by
  unfold impl_Queues_turn_v2 impl_Queues_turn_v2K turnQ
  rw [top_ok q h8]
  simp only [B7]
  unfold topI
  rcases topN_spec q 8 with ht | ⟨j, hj, ht, hp⟩
  · rw [ht]; rfl
  · rw [ht, if_neg (by omega), decide_eq_true (by omega)]
    have hg := rget_of (show j < q.length by omega)
    have hle := row_le hg
    have h0 : (rowQ q j)[0]? = some ((rowQ q j).getD 0 0) := by simp [List.getD, hp]
    simp only [cond_true, nnK_nat, getK_some hg, Int.toNat_natCast]
    rw [chk_pos (show j < q.length by omega), chk_pos (by omega), chk_pos (by omega), getK_some h0, List.take_of_length_le (by simp), clone_int_ok _ (by simp; omega)]
    simp only [B7]
    rw [chk_pos (by simp [bigRow]; omega), clone_int_ok _ (by simp; omega)]
    simp only [B7]
    rw [chk_pos (show j < q.length by omega), chk_pos (show j < q.length by omega), chk_pos trivial]
    rfl

/-! ### a turn leaves valid queues valid -/

theorem turnR_perm {r : List Int} (h : 0 < r.length) : (turnR r).Perm r := by
  cases r with
  | nil => cases h
  | cons x r => exact List.perm_append_comm

theorem set_flat {q : Rows} {t : Nat} (ht : t < q.length) {r : List Int} (h : r.Perm (rowQ q t)) : (q.set t r).flatten.Perm q.flatten := by
  have e1 : q = q.take t ++ rowQ q t :: q.drop (t + 1) := by
    have : rowQ q t = q[t] := by simp [rowQ, List.getD, ht]
    rw [this]
    simp
  have e2 : q.set t r = q.take t ++ r :: q.drop (t + 1) := by rw [List.set_eq_take_append_cons_drop, if_pos ht]
  rw [e2]
  conv => rhs; rw [e1]
  simp only [List.flatten_append, List.flatten_cons]
  exact (List.Perm.refl _).append (h.append (List.Perm.refl _))

theorem turnQ_perm {q : Rows} (h8 : q.length = 8) : (turnQ q).flatten.Perm q.flatten ∧ (turnQ q).length = 8 := by
  unfold turnQ
  split
  · exact ⟨List.Perm.refl _, h8⟩
  · rename_i h
    rcases topN_spec q 8 with ht | ⟨j, hj, ht, hp⟩
    · exact absurd (show topI q < 0 by unfold topI; omega) h
    · have e : topI q = (j : Int) := ht
      rw [e, Int.toNat_natCast]
      exact ⟨set_flat (by omega) (turnR_perm hp), by simpa using h8⟩

theorem perm_valid {q q' : Rows} (hv : qV q = true) (h8 : q'.length = 8) (hp : q'.flatten.Perm q.flatten) : qV q' = true := by
  rw [qV_iff] at hv ⊢
  obtain ⟨a, b, c⟩ := hv
  exact ⟨h8, fun x hx => b x (hp.mem_iff.1 hx), hp.nodup_iff.2 c⟩

theorem turnQ_valid {q : Rows} (hv : qV q = true) : qV (turnQ q) = true := by
  have h8 := (qV_iff.1 hv).1
  obtain ⟨h1, h2⟩ := turnQ_perm h8
  exact perm_valid hv h2 h1

theorem turnQ_sum {q : Rows} (h8 : q.length = 8) : sumL (turnQ q) = sumL q := (turnQ_perm h8).1.length_eq

/-! ### the same in the reference -/

theorem spec_next_ok (q : Rows) (hv : qV q = true) (h : q.length + sumL q ≤ 1048577) : spec_ReadyNext (q, ()) = some (nextI q) := by
  have h8 := (qV_iff.1 hv).1
  have key : ∀ n, n ≤ q.length → loopF spec_ReadyNext_l0 ((q, ()), (n : Int) - 1, ()) = some (if topN q n < 0 then .inl () else .inr ((rowQ q (topN q n).toNat).getD 0 0, ())) := by
    intro n
    induction n with
    | zero =>
      intro _
      refine loopF_inr ?_
      have : decide (((0 : Nat) : Int) - 1 ≥ 0) = false := rfl
      simp only [spec_ReadyNext_l0, spec_ReadyNext_l0K, this, cond_false]
      rfl
    | succ n ih =>
      intro hn
      have e : ((n + 1 : Nat) : Int) - 1 = (n : Int) := by omega
      have hd : decide ((n : Int) ≥ 0) = true := by simp
      rw [e]
      unfold topN
      by_cases hr : (rowQ q n).length > 0
      · rw [if_pos hr]
        refine loopF_inr ?_
        have h1 : decide (((rowQ q n).length : Int) > 0) = true := decide_eq_true (by omega)
        have h0 : (rowQ q n)[0]? = some ((rowQ q n).getD 0 0) := by simp [List.getD, hr]
        simp only [spec_ReadyNext_l0, spec_ReadyNext_l0K, hd, cond_true, nnK_nat, getK_some (rget_of (show n < q.length by omega)), h1, spec_QueuesValid_ok q h, hv, B7, getK_some h0]
        rw [if_neg (by omega), Int.toNat_natCast]
      · rw [if_neg hr, ← ih (by omega)]
        refine loopF_inl ?_
        have h1 : decide (((rowQ q n).length : Int) > 0) = false := decide_eq_false (by omega)
        simp only [spec_ReadyNext_l0, spec_ReadyNext_l0K, hd, cond_true, nnK_nat, getK_some (rget_of (show n < q.length by omega)), h1, cond_false, spec_QueuesValid_ok q h, hv, B7]
        rw [wrap64 (n := (n : Int) - 1) (by omega) (by omega)]
  unfold spec_ReadyNext spec_ReadyNextK nextI topI
  have hk := key 8 (by omega)
  have hw : IntKind.wrap .i64 ((q.length : Int) - 1) = ((8 : Nat) : Int) - 1 := by rw [h8]; exact wrap64 (by omega) (by omega)
  rw [hw, hk]
  by_cases ht : topN q 8 < 0
  · rw [if_pos ht, if_pos ht]; rfl
  · rw [if_neg ht, if_neg ht]; rfl

def prioI (q : Rows) (n : Int) : Int := match q.findIdx? (fun r => hasI r n) with | some j => (j : Int) | none => -1

theorem prio_inner (q : Rows) (n : Int) (p : Nat) (x : List Int) (hp : q[p]? = some x) (hx : x.length ≤ 1048577) :
    loopF spec_ReadyPrio_l2 (n, (q, ()), (p : Int), 0, ()) = some (if hasI x n = true then .inr ((p : Int), ()) else .inl (n, (q, ()), (p : Int), ())) := by
  have := loop_list0 (nxt := spec_ReadyPrio_l2) x (fun i (_ : Unit) => (n, (q, ()), (p : Int), (i : Int), ())) (fun _ y _ => bif decide (y = n) then .inr (.inr ((p : Int), ())) else .inl ()) (fun _ => .inl (n, (q, ()), (p : Int), ())) ()
    (fun i y s hy => ?_) (fun s => ?_) (st := (n, (q, ()), (p : Int), 0, ())) rfl
  · rw [this, goL_find (fun y : Int => decide (y = n)) (fun _ => (.inr ((p : Int), ()) : (Int × DQueues × Int × Unit) ⊕ (Int × Unit))) (.inl (n, (q, ()), (p : Int), ()))]
    unfold hasI
    cases hf : x.findIdx? (fun y => decide (y = n)) with
    | none =>
      have hn := List.findIdx?_eq_none_iff.1 hf
      have : (x.any fun y => decide (y = n)) = false := by
        rw [List.any_eq_false]
        intro y hy
        simp [hn y hy]
      rw [this]
      rfl
    | some j =>
      obtain ⟨hj, hpj, _⟩ := List.findIdx?_eq_some_iff_getElem.1 hf
      have : (x.any fun y => decide (y = n)) = true := List.any_eq_true.2 ⟨_, List.getElem_mem hj, hpj⟩
      rw [this]
      rfl
  · have hl := get_lt hy
    simp only [spec_ReadyPrio_l2, spec_ReadyPrio_l2K, nnK_nat, getK_some hp, dec_lt hy, cond_true, getK_some hy, beqI, wrapS (show i < 4611686018427387904 by omega), goTo_if, goTo_l, goTo_r]
    cases decide (y = n) <;> rfl
  · simp only [spec_ReadyPrio_l2, spec_ReadyPrio_l2K, nnK_nat, getK_some hp, dec_nlt, cond_false]

theorem spec_prio_ok (q : Rows) (n : Int) (hv : qV q = true) (h : q.length + sumL q ≤ 1048577) : spec_ReadyPrio (q, ()) n = some (prioI q n) := by
  unfold spec_ReadyPrio spec_ReadyPrioK prioI
  have := loop_list0 (nxt := spec_ReadyPrio_l0) q (fun i (_ : Unit) => (n, (q, ()), (i : Int), ())) (fun i x _ => bif hasI x n then .inr (.inr ((i : Int), ())) else .inl ()) (fun _ => .inl ()) ()
    (fun i x s hx => ?_) (fun s => ?_) (st := (n, (q, ()), 0, ())) rfl
  · rw [this, goL_find (fun x : List Int => hasI x n) (fun i => (.inr ((i : Int), ()) : Unit ⊕ (Int × Unit))) (.inl ())]
    cases q.findIdx? (fun x => hasI x n) <;> simp [endK]
  · have hl := get_lt hx
    have hxl := row_le hx
    simp only [spec_ReadyPrio_l0, spec_ReadyPrio_l0K, dec_lt hx, cond_true, spec_QueuesValid_ok q h, hv, B7, prio_inner q n i x hx (by omega), goTo_if, goTo_l, goTo_r]
    cases hasI x n with
    | true => rfl
    | false => simp [endK, wrapS (show i < 4611686018427387904 by omega)]
  · simp only [spec_ReadyPrio_l0, spec_ReadyPrio_l0K, dec_nlt, cond_false]

/-- an element is in one row alone -/
theorem one_row {q : Rows} (hn : q.flatten.Nodup) {i j : Nat} (hi : i < q.length) (hj : j < q.length) {x : Int} (h1 : x ∈ rowQ q i) (h2 : x ∈ rowQ q j) : i = j := by
  unfold List.Nodup at hn
  rw [List.pairwise_flatten] at hn
  have hp := hn.2
  rw [List.pairwise_iff_getElem] at hp
  have e1 : rowQ q i = q[i] := by simp [rowQ, List.getD, hi]
  have e2 : rowQ q j = q[j] := by simp [rowQ, List.getD, hj]
  rcases Nat.lt_trichotomy i j with h | h | h
  · exact absurd rfl (hp i j hi hj h x (e1 ▸ h1) x (e2 ▸ h2))
  · exact h
  · exact absurd rfl (hp j i hj hi h x (e2 ▸ h2) x (e1 ▸ h1))

theorem prio_of {q : Rows} (hv : qV q = true) {j : Nat} (hj : j < q.length) {x : Int} (hx : x ∈ rowQ q j) : prioI q x = (j : Int) := by
  obtain ⟨h8, _, hn⟩ := qV_iff.1 hv
  unfold prioI
  have hmem : rowQ q j ∈ q := List.mem_of_getElem? (rget_of hj)
  cases hf : q.findIdx? (fun r => hasI r x) with
  | none =>
    have := List.findIdx?_eq_none_iff.1 hf (rowQ q j) hmem
    rw [has_iff.2 hx] at this
    cases this
  | some i =>
    obtain ⟨hi, hp, _⟩ := List.findIdx?_eq_some_iff_getElem.1 hf
    have e : rowQ q i = q[i] := by simp [rowQ, List.getD, hi]
    have := one_row hn hi hj (x := x) (by rw [e]; exact has_iff.1 hp) hx
    rw [this]

theorem next_in {q : Rows} (hv : qV q = true) : nextI q = -1 ∨ (0 ≤ nextI q ∧ nextI q ≤ 15) := by
  obtain ⟨h8, hr, _⟩ := qV_iff.1 hv
  unfold nextI
  split
  · exact .inl rfl
  · rename_i h
    right
    rcases topN_spec q 8 with ht | ⟨j, hj, ht, hp⟩
    · exact absurd (show topI q < 0 by unfold topI; omega) h
    · have e : topI q = (j : Int) := ht
      rw [e, Int.toNat_natCast]
      refine hr _ (List.mem_flatten.2 ⟨rowQ q j, List.mem_of_getElem? (rget_of (by omega)), ?_⟩)
      have : (rowQ q j)[0]? = some ((rowQ q j).getD 0 0) := by simp [List.getD, hp]
      exact List.mem_of_getElem? this

theorem spec_turn_ok (q : Rows) (hv : qV q = true) (h : q.length + sumL q ≤ 1048577) : spec_ReadyTurn (q, ()) = some (turnQ q) := by
  obtain ⟨h8, hr, hnd⟩ := qV_iff.1 hv
  unfold spec_ReadyTurn spec_ReadyTurnK turnQ
  simp only [spec_QueuesValid_ok q h, hv, B7, Bool.not_true, cond_false, l8Copy_ok q h, spec_next_ok q hv h]
  rcases topN_spec q 8 with ht | ⟨j, hj, ht, hp⟩
  · have e : topI q = -1 := ht
    unfold nextI
    rw [e]
    rfl
  · have e : topI q = (j : Int) := ht
    have hg := rget_of (show j < q.length by omega)
    have hle := row_le hg
    have h0 : (rowQ q j)[0]? = some ((rowQ q j).getD 0 0) := by simp [List.getD, hp]
    have hn : nextI q = (rowQ q j).getD 0 0 := by unfold nextI; rw [e, if_neg (by omega), Int.toNat_natCast]
    have hin : 0 ≤ (rowQ q j).getD 0 0 := (hr _ (List.mem_flatten.2 ⟨rowQ q j, List.mem_of_getElem? hg, List.mem_of_getElem? h0⟩)).1
    have hpr := prio_of hv (show j < q.length by omega) (List.mem_of_getElem? h0)
    rw [hn, e, if_neg (by omega), decide_eq_true (show (rowQ q j).getD 0 0 ≥ 0 from hin)]
    simp only [cond_true, spec_prio_ok q _ hv h, hpr, B7, nnK_nat, getK_some hg, Int.toNat_natCast]
    rw [chk_pos (by omega), chk_pos (by simp [bigRow]; omega), chk_pos (by simp [bigRow]; omega), chk_pos (by omega), chk_pos (by omega)]
    rfl

/-! ### turns -/

def runQ : Nat → Rows → List Int
  | 0, _ => []
  | n + 1, q => nextI q :: runQ n (turnQ q)

theorem spec_run_loop (m : Nat) (hm : m ≤ 200) : ∀ (f k : Nat) (q : Rows) (out : List Int), k + f = m → out.length = k → qV q = true → q.length + sumL q ≤ 1048577 →
    loopF spec_RunTurns_l0 ((m : Int), (k : Int), (q, ()), out, ()) = some (out ++ runQ f q, ()) := by
  intro f
  induction f with
  | zero =>
    intro k q out hk ho hv h
    obtain rfl : k = m := by omega
    refine loopF_inr ?_
    simp only [spec_RunTurns_l0, spec_RunTurns_l0K, dec_nlt, cond_false, runQ, List.append_nil]
  | succ f ih =>
    intro k q out hk ho hv h
    have h8 := (qV_iff.1 hv).1
    have ht := turnQ_perm h8
    have hs := turnQ_sum h8
    have hthis := ih (k + 1) (turnQ q) (out ++ [nextI q]) (by omega) (by simp [ho]) (turnQ_valid hv) (by rw [hs, ht.2]; omega)
    have e : out ++ runQ (f + 1) q = (out ++ [nextI q]) ++ runQ f (turnQ q) := by simp [runQ]
    rw [e, ← hthis]
    refine loopF_inl ?_
    have hd : decide ((k : Int) < (m : Int)) = true := decide_eq_true (by omega)
    simp only [spec_RunTurns_l0, spec_RunTurns_l0K, hd, cond_true, spec_next_ok q hv h, spec_turn_ok q hv h, B7, wrapS (show k < 4611686018427387904 by omega)]
    rw [chk_pos (by simp only [bigRow]; omega)]

theorem impl_run_loop (m : Nat) (hm : m ≤ 200) : ∀ (f k : Nat) (q : Rows) (out : List Int), k + f = m → out.length = m → q.length = 8 → sumL q ≤ 1048569 →
    loopF impl_RunTurns_l0 ((m : Int), (k : Int), out, q, ()) = some (out.take k ++ runQ f q, ()) := by
  intro f
  induction f with
  | zero =>
    intro k q out hk ho h8 h
    obtain rfl : k = m := by omega
    refine loopF_inr ?_
    simp only [impl_RunTurns_l0, impl_RunTurns_l0K, dec_nlt, cond_false, runQ, List.append_nil]
    rw [List.take_of_length_le (by omega)]
  | succ f ih =>
    intro k q out hk ho h8 h
    have ht := turnQ_perm h8
    have hs := turnQ_sum h8
    have hthis := ih (k + 1) (turnQ q) (out.set k (nextI q)) (by omega) (by simpa using ho) ht.2 (by rw [hs]; omega)
    have e : out.take k ++ runQ (f + 1) q = (out.set k (nextI q)).take (k + 1) ++ runQ f (turnQ q) := by
      rw [List.take_add_one, List.take_set_of_le (Nat.le_refl k), List.getElem?_set_self (by omega)]
      simp [runQ]
    rw [e, ← hthis]
    refine loopF_inl ?_
    have hd : decide ((k : Int) < (m : Int)) = true := decide_eq_true (by omega)
    simp only [impl_RunTurns_l0, impl_RunTurns_l0K, hd, cond_true, next_ok q h8, turn2_ok _ q h8 h, B7, nnK_nat, wrapS (show k < 4611686018427387904 by omega)]
    rw [chk_pos (by omega), getK_lt (by omega)]

theorem runQ_in : ∀ (n : Nat) (q : Rows), qV q = true → ∀ x ∈ runQ n q, x = -1 ∨ (0 ≤ x ∧ x ≤ 15)
  | 0, _, _, x, hx => by cases hx
  | n + 1, q, hv, x, hx => by
    rcases List.mem_cons.1 hx with rfl | hx
    · exact next_in hv
    · exact runQ_in n (turnQ q) (turnQ_valid hv) x hx

theorem runQ_len : ∀ (n : Nat) (q : Rows), (runQ n q).length = n
  | 0, _ => rfl
  | n + 1, q => by simp [runQ, runQ_len n]

def runOk (q : Rows) (t : Int) : Bool := qV q && rgt t 0 200
def runsQ (q : Rows) (t : Int) : List Int := bif runOk q t then runQ t.toNat q else []

theorem spec_RunTurns_ok (q : Rows) (t : Int) (h : q.length + sumL q ≤ 1048577) : spec_RunTurns (q, ()) t = some (runsQ q t) := by
  unfold spec_RunTurns spec_RunTurnsK runsQ runOk
  simp only [spec_QueuesValid_ok q h, B7, l1In_ok]
  cases hv : qV q with
  | false => rfl
  | true =>
    show (bif !(!true) then (bif !rgt t 0 200 then _ else _) else _) = _
    cases ht : rgt t 0 200 with
    | false => rfl
    | true =>
      simp only [rgt, Bool.and_eq_true, decide_eq_true_eq] at ht
      obtain ⟨m, rfl⟩ : ∃ m : Nat, t = (m : Int) := ⟨t.toNat, by omega⟩
      have := spec_run_loop m (by omega) m 0 q [] (by omega) rfl hv h
      have e0 : ((0 : Nat) : Int) = 0 := rfl
      rw [e0] at this
      simp only [Bool.not_true, Bool.not_false, cond_true, cond_false, this, Bool.and_self, Int.toNat_natCast, B7, List.nil_append]

theorem turned_ok (q : Rows) (t : Int) (h : q.length + sumL q ≤ 1048577) : impl_turned (q, ()) t = some (runOk q t) := by
  unfold impl_turned impl_turnedK runOk
  simp only [impl_QueuesValid_ok q h, B7, in_ok]
  cases qV q <;> rfl

theorem impl_RunTurns_ok (q : Rows) (t : Int) (h : q.length + sumL q ≤ 1048577) : impl_RunTurns (q, ()) t = some (runsQ q t) := by
  unfold impl_RunTurns impl_RunTurnsK runsQ
  rw [turned_ok q t h]
  cases hr : runOk q t with
  | false => rfl
  | true =>
    unfold runOk at hr
    simp only [rgt, Bool.and_eq_true, decide_eq_true_eq] at hr
    obtain ⟨hv, ht⟩ := hr
    have h8 := (qV_iff.1 hv).1
    obtain ⟨m, rfl⟩ : ∃ m : Nat, t = (m : Int) := ⟨t.toNat, by omega⟩
    have := impl_run_loop m (by omega) m 0 q (List.replicate m 0) (by omega) (by simp) h8 (by omega)
    have e0 : ((0 : Nat) : Int) = 0 := rfl
    rw [e0] at this
    simp only [B7, Bool.not_true, cond_false, copyOf_ok q h, nnK_nat, List.length_replicate, cond_true, Int.toNat_natCast]
    rw [chk_pos (by simp only [bigRow]; omega), this]
    simp

/-! ### how often a thread runs -/

theorem goL_count {α τ : Type} (c : α → Bool) (F : Nat → τ) : ∀ (r : List α) (i s : Nat), goL (fun _ x (s : Nat) => (.inl (bif c x then s + 1 else s) : Nat ⊕ τ)) F r i s = F (s + (r.filter c).length)
  | [], _, _ => rfl
  | x :: r, i, s => by
    simp only [goL, List.filter_cons]
    rw [goL_count c F r]
    cases h : c x with
    | false => simp
    | true =>
      simp only [cond_true, if_true, List.length_cons]
      congr 1
      omega

def timesI (l : List Int) (t : Int) : Nat := (l.filter fun x => x == t).length

def turnsI (q : Rows) (th t : Int) : Int := bif runOk q t then (bif rgt th 0 15 then (timesI (runsQ q t) th : Int) else 0) else -1

theorem impl_TurnsOf_ok (q : Rows) (th t : Int) (h : q.length + sumL q ≤ 1048577) : impl_TurnsOf (q, ()) th t = some (turnsI q th t) := by
  unfold impl_TurnsOf impl_TurnsOfK turnsI
  simp only [turned_ok q t h, B7, impl_isThread, impl_isThreadK, in_ok, impl_RunTurns_ok q t h]
  cases hr : runOk q t with
  | false => rfl
  | true =>
    show (bif !true then _ else (bif !rgt th 0 15 then _ else _)) = some (bif true then (bif rgt th 0 15 then _ else _) else _)
    cases hth : rgt th 0 15 with
    | false => rfl
    | true =>
      have hlen : (runsQ q t).length ≤ 200 := by
        unfold runsQ
        rw [hr]
        unfold runOk at hr
        simp only [rgt, Bool.and_eq_true, decide_eq_true_eq] at hr
        simp only [cond_true, runQ_len]
        omega
      have := loop_list1 (nxt := impl_TurnsOf_l1) (runsQ q t) (fun i (s : Nat) => (th, (s : Int), runsQ q t, ((runsQ q t).length : Int), (i : Int), ())) (fun _ x s => .inl (bif x == th then s + 1 else s)) (fun s => ((s : Int), ())) (fun i s => s ≤ i) 0
        (fun i x s hs hx => ?_) (fun i x s s' hs hx e => ?_) (fun s hs => ?_) (Nat.le_refl _) (st := (th, 0, runsQ q t, ((runsQ q t).length : Int), 0, ())) rfl
      · simp only [Bool.not_true, cond_false, cond_true]
        rw [this, goL_count (fun x => x == th)]
        simp [timesI]
      · have hl := get_lt hx
        simp only [impl_TurnsOf_l1, impl_TurnsOf_l1K, dec_lt hx, cond_true, nnK_nat, getK_some hx, wrapS (show i < 4611686018427387904 by omega), wrapS (show s < 4611686018427387904 by omega), goTo_l]
        cases (x == th) <;> rfl
      · cases e
        cases (x == th) <;> simp <;> omega
      · simp only [impl_TurnsOf_l1, impl_TurnsOf_l1K, dec_nlt, cond_false]

theorem spec_TurnsOf_ok (q : Rows) (th t : Int) (h : q.length + sumL q ≤ 1048577) : spec_TurnsOf (q, ()) th t = some (turnsI q th t) := by
  unfold spec_TurnsOf spec_TurnsOfK turnsI
  simp only [spec_QueuesValid_ok q h, B7, l1In_ok, spec_RunTurns_ok q t h]
  have hro : runOk q t = (qV q && rgt t 0 200) := rfl
  cases hv : qV q with
  | false => rw [hro, hv]; rfl
  | true =>
    show (bif !(!true) then (bif !rgt t 0 200 then _ else _) else _) = _
    cases ht : rgt t 0 200 with
    | false => rw [hro, hv, ht]; rfl
    | true =>
      have hr : runOk q t = true := by rw [hro, hv, ht]; rfl
      rw [hr]
      have hin : ∀ x ∈ runsQ q t, x = -1 ∨ (0 ≤ x ∧ x ≤ 15) := fun x hx => by
        unfold runsQ at hx
        rw [hr] at hx
        exact runQ_in _ q hv x hx
      have hlen : (runsQ q t).length ≤ 200 := by
        unfold runsQ
        rw [hr]
        simp only [rgt, Bool.and_eq_true, decide_eq_true_eq] at ht
        simp only [cond_true, runQ_len]
        omega
      have := loop_list1 (nxt := spec_TurnsOf_l0) (runsQ q t) (fun i (s : Nat) => (th, (s : Int), runsQ q t, (i : Int), ())) (fun _ x s => .inl (bif (x == th && decide (th ≥ 0)) then s + 1 else s)) (fun s => ((s : Int), ())) (fun i s => s ≤ i) 0
        (fun i x s hs hx => ?_) (fun i x s s' hs hx e => ?_) (fun s hs => ?_) (Nat.le_refl _) (st := (th, 0, runsQ q t, 0, ())) rfl
      · simp only [Bool.not_true, Bool.not_false, cond_false, cond_true]
        rw [this, goL_count (fun x => x == th && decide (th ≥ 0))]
        simp only [B7, Nat.zero_add]
        cases hth : rgt th 0 15 with
        | true =>
          simp only [rgt, Bool.and_eq_true, decide_eq_true_eq] at hth
          have : decide (th ≥ 0) = true := decide_eq_true (by omega)
          simp only [this, Bool.and_true, cond_true]
          rfl
        | false =>
          have hno : ((runsQ q t).filter fun x => x == th && decide (th ≥ 0)) = [] := by
            rw [List.filter_eq_nil_iff]
            intro x hx
            simp only [Bool.and_eq_true, beq_iff_eq, decide_eq_true_eq]
            rintro ⟨rfl, h0⟩
            have : ¬ (0 ≤ x ∧ x ≤ 15) := fun q => by simp [rgt, q.1, q.2] at hth
            rcases hin x hx with h1 | h1
            · omega
            · exact this h1
          rw [hno]
          rfl
      · have hl := get_lt hx
        simp only [spec_TurnsOf_l0, spec_TurnsOf_l0K, dec_lt hx, cond_true, nnK_nat, getK_some hx, wrapS (show i < 4611686018427387904 by omega), wrapS (show s < 4611686018427387904 by omega), goTo_l]
        cases (x == th) <;> cases decide (th ≥ 0) <;> rfl
      · cases e
        cases (x == th && decide (th ≥ 0)) <;> simp <;> omega
      · simp only [spec_TurnsOf_l0, spec_TurnsOf_l0K, dec_nlt, cond_false]

theorem szQueues_ok (q : Rows) (h1 : q.length ≤ 9223372036854775807) (h2 : ∀ x ∈ q, x.length ≤ 9223372036854775807) : ∃ r, laws_szQueues (q, ()) 1048576 = some r ∧ (¬ r < 0 → q.length + sumL q ≤ 1048576) := by
  obtain ⟨r, e, hr⟩ := szIntSS_ok q h1 h2
  unfold laws_szQueues laws_szQueuesK
  simp only [e, B7]
  by_cases h0 : r < 0
  · rw [decide_eq_true h0]; exact ⟨-1, rfl, fun h => absurd (by omega) h⟩
  · rw [decide_eq_false h0]; exact ⟨r, rfl, hr⟩

theorem wfQ {q : Rows} (h : WfD (.sl (.sl I)) q) : q.length ≤ 9223372036854775807 ∧ ∀ x ∈ q, x.length ≤ 9223372036854775807 := by
  refine ⟨by have := h.1; simp only [maxLen] at this; omega, fun x hx => ?_⟩
  have := (h.2 x hx).1
  simp only [maxLen] at this
  omega

theorem FnExactTurnsOf_law (k : DQueues) (th t : Int) (h : WfD (.cons tQueues (.cons I (.cons I .nil))) (k, th, t, ())) : laws_FnExactTurnsOf k th t = some true := by
  obtain ⟨q, ⟨⟩⟩ := k
  obtain ⟨h1, h2⟩ := wfQ (q := q) h.1.1
  unfold laws_FnExactTurnsOf laws_FnExactTurnsOfK
  obtain ⟨r, e, hr⟩ := szQueues_ok q h1 h2
  simp only [e, B7]
  by_cases h0 : r < 0
  · rw [decide_eq_true h0]; rfl
  · have hs := hr h0
    rw [decide_eq_false h0]
    simp only [cond_false, toQueues_ok q (by omega), B7, spec_TurnsOf_ok q th t (by omega), impl_TurnsOf_ok q th t (by omega), bne_self_eq_false, eqQueues_ok q (by omega), Bool.not_true]

end Go.Ev
