/-
  Plain laws of queues: turns.
-/
import Derived.Test.YtbiohjikepebkaaLaw6
namespace Go.Ev
set_option linter.unusedVariables false
set_option linter.unusedSimpArgs false
set_option maxRecDepth 100000
set_option synthInstance.maxSize 2000
set_option synthInstance.maxHeartbeats 400000
/-! ### turns go round -/

def rot (k : Nat) (r : List Int) : List Int := r.drop k ++ r.take k

theorem rot_len (k : Nat) (r : List Int) : (rot k r).length = r.length := by unfold rot; simp; omega
theorem rot_perm (k : Nat) (r : List Int) : (rot k r).Perm r := by
  unfold rot
  refine List.perm_append_comm.trans ?_
  rw [List.take_append_drop]
theorem rot_zero (r : List Int) : rot 0 r = r := by simp [rot]
theorem rot_full (r : List Int) : rot r.length r = r := by simp [rot]

theorem rot_cons {k : Nat} {r : List Int} (h : k < r.length) : rot k r = r[k] :: (r.drop (k + 1) ++ r.take k) := by
  unfold rot
  rw [List.drop_eq_getElem_cons h]
  rfl

theorem rot_turn {k : Nat} {r : List Int} (h : k < r.length) : turnR (rot k r) = rot (k + 1) r := by
  unfold turnR
  rw [rot_cons h]
  simp only [List.drop_succ_cons, List.drop_zero, List.getD_cons_zero, List.append_assoc]
  unfold rot
  rw [List.take_add_one]
  simp [h]

theorem set_rowQ {q : Rows} {j : Nat} (hj : j < q.length) : q.set j (rowQ q j) = q := by
  have hg : rowQ q j = q[j] := by simp [rowQ, List.getD, hj]
  rw [hg]
  exact List.set_getElem_self hj

/-- the greatest row is j -/
def isTop (q : Rows) (j : Nat) : Prop := j < 8 ∧ 0 < (rowQ q j).length ∧ ∀ i, j < i → i < 8 → rowQ q i = []

theorem isTop.top {q : Rows} {j : Nat} (h : isTop q j) : topI q = (j : Int) := top_of h.1 h.2.1 h.2.2

theorem isTop.set {q : Rows} {j : Nat} (h : isTop q j) (h8 : q.length = 8) {r : List Int} (hr : 0 < r.length) : isTop (q.set j r) j := by
  have hj := h.1
  refine ⟨hj, by rw [rowQ_set (by omega)]; exact hr, fun i h1 h2 => ?_⟩
  rw [rowQ_set_ne (by omega)]
  exact h.2.2 i h1 h2

theorem turn_rot {q : Rows} {j k : Nat} (h8 : q.length = 8) (h : isTop q j) (hk : k < (rowQ q j).length) :
    turnQ (q.set j (rot k (rowQ q j))) = q.set j (rot (k + 1) (rowQ q j)) ∧ nextI (q.set j (rot k (rowQ q j))) = (rowQ q j).getD k 0 := by
  have hj := h.1
  have ht := (h.set h8 (r := rot k (rowQ q j)) (by rw [rot_len]; omega)).top
  have hr : rowQ (q.set j (rot k (rowQ q j))) j = rot k (rowQ q j) := rowQ_set (by omega) _
  constructor
  · unfold turnQ
    rw [ht, if_neg (by omega), Int.toNat_natCast, hr, rot_turn hk, List.set_set]
  · rw [next_of ht, hr, rot_cons hk]
    simp [List.getD, hk]

theorem rot_valid {q : Rows} {j k : Nat} (hv : qV q = true) (hj : j < 8) : qV (q.set j (rot k (rowQ q j))) = true ∧ sumL (q.set j (rot k (rowQ q j))) = sumL q := by
  have h8 := (qV_iff.1 hv).1
  have hp := set_flat (show j < q.length by omega) (rot_perm k (rowQ q j))
  exact ⟨perm_valid hv (by simpa using h8) hp, hp.length_eq⟩

def tQ (q : Rows) : Rows := bif qV q then turnQ q else []

theorem spec_T_ok (q : Rows) (h : q.length + sumL q ≤ 1048577) : spec_ReadyTurn (q, ()) = some (tQ q) := by
  unfold tQ
  cases hv : qV q with
  | false =>
    unfold spec_ReadyTurn spec_ReadyTurnK
    simp only [spec_QueuesValid_ok q h, hv, B7]; rfl
  | true => exact spec_turn_ok q hv h

theorem impl_T_ok (q : Rows) (h : q.length + sumL q ≤ 1048577) : impl_ReadyTurn (q, ()) = some (tQ q) := by
  unfold tQ impl_ReadyTurn impl_ReadyTurnK
  cases hv : qV q with
  | false => simp only [impl_QueuesValid_ok q h, hv, B7]; rfl
  | true =>
    have h8 := (qV_iff.1 hv).1
    simp only [impl_QueuesValid_ok q h, hv, B7, Bool.not_true, cond_false, copyOf_ok q h, turn_ok q h8 (by omega)]
    rfl

theorem turn_loop {q : Rows} {j : Nat} (x : Rows) (hv : qV q = true) (hs : q.length + sumL q ≤ 1000) (h : isTop q j) : ∀ f k, k + f = (rowQ q j).length →
    loopF laws_FnReadyTurn_l0 ((j : Int), (k : Int), q, x, q.set j (rot k (rowQ q j)), ()) = some (.inl (q, x, q, ()))
  | 0, k, hk => by
    have h8 := (qV_iff.1 hv).1
    have hj := h.1
    obtain rfl : k = (rowQ q j).length := by omega
    refine loopF_inr ?_
    simp only [laws_FnReadyTurn_l0, laws_FnReadyTurn_l0K, nnK_nat, getK_some (rget_of (show j < q.length by omega)), dec_nlt, cond_false]
    rw [rot_full, set_rowQ (by omega)]
  | f + 1, k, hk => by
    have h8 := (qV_iff.1 hv).1
    have hj := h.1
    have hkl : k < (rowQ q j).length := by omega
    have hle := row_le (rget_of (show j < q.length by omega))
    obtain ⟨t1, t2⟩ := turn_rot h8 h hkl
    obtain ⟨v1, v2⟩ := rot_valid (k := k) hv hj
    have hg : (rowQ q j)[k]? = some ((rowQ q j).getD k 0) := by simp [List.getD, hkl]
    rw [← turn_loop x hv hs h f (k + 1) (by omega)]
    refine loopF_inl ?_
    have hn : nxtQ (q.set j (rot k (rowQ q j))) = (rowQ q j).getD k 0 := by unfold nxtQ; rw [v1, cond_true, t2]
    have ht : tQ (q.set j (rot k (rowQ q j))) = q.set j (rot (k + 1) (rowQ q j)) := by unfold tQ; rw [v1, cond_true, t1]
    have hsz : (q.set j (rot k (rowQ q j))).length + sumL (q.set j (rot k (rowQ q j))) ≤ 1048577 := by rw [v2, List.length_set]; omega
    simp only [laws_FnReadyTurn_l0, laws_FnReadyTurn_l0K, nnK_nat, getK_some (rget_of (show j < q.length by omega)), dec_lt hg, cond_true, impl_Next_ok _ hsz, hn, B7, getK_some hg, bne_self_eq_false, cond_false, impl_T_ok _ hsz, ht, wrapS (show k < 4611686018427387904 by omega)]

theorem top_is {q : Rows} {j : Nat} (hj : j < 8) (hp : 0 < (rowQ q j).length) (hn : ∀ i, j < i → i < 8 → rowQ q i = []) : isTop q j := ⟨hj, hp, hn⟩

/-- the first of the greatest row: its number, its priority -/
theorem first_facts {q : Rows} {j : Nat} (hv : qV q = true) (h : isTop q j) : nxtQ q = (rowQ q j).getD 0 0 ∧ 0 ≤ nxtQ q ∧ prQ q (nxtQ q) = (j : Int) := by
  obtain ⟨h8, hr, _⟩ := qV_iff.1 hv
  have hj := h.1
  have hn : nxtQ q = (rowQ q j).getD 0 0 := by unfold nxtQ; rw [hv, cond_true, next_of h.top]
  have hm := mem_first h.2.1
  obtain ⟨r, h1, h2⟩ := rowQ_mem hm
  refine ⟨hn, by rw [hn]; exact (hr _ (List.mem_flatten.2 ⟨r, h1, h2⟩)).1, ?_⟩
  unfold prQ
  rw [hv, cond_true, hn]
  exact prio_of hv (by omega) hm

theorem FnReadyTurn_law (code : List Int) (h : WfD (.cons (.sl (.int .u8)) .nil) (code, ())) : laws_FnReadyTurn code = some true := by
  have hc : ∀ x ∈ code, 0 ≤ x ∧ x ≤ 255 := fun x hx => h.1.2 x hx
  unfold laws_FnReadyTurn laws_FnReadyTurnK
  by_cases hl : ((code.length : Int) > 1048576)
  · simp [hl]
  · obtain ⟨a, m, R, hd, hq⟩ := drawTurn_ok hc
    simp only [hl, decide_false, cond_false, hd, B7]
    generalize (R.drop a).take m = q at hq
    unfold smallQ at hq
    have hts : (tQ q).length + sumL (tQ q) ≤ 1048577 := by
      unfold tQ
      cases hv : qV q with
      | false => simp [sumL]
      | true =>
        have h8 := (qV_iff.1 hv).1
        rw [cond_true, turnQ_sum h8, (turnQ_perm h8).2]
        omega
    simp only [impl_T_ok q (by omega), spec_T_ok q (by omega), B7, sameQ_ok _ _ hts, decide_true, Bool.not_true, cond_false, impl_Next_ok q (by omega), impl_Prio_ok q _ (show q.length + sumL q ≤ 1048577 by omega)]
    cases hv : qV q with
    | false =>
      have h1 : nxtQ q = -1 := by unfold nxtQ; rw [hv]; rfl
      have h2 : tQ q = [] := by unfold tQ; rw [hv]; rfl
      rw [h1, h2]
      rfl
    | true =>
      have h8 := (qV_iff.1 hv).1
      rcases top_cases q with ⟨e, _⟩ | ⟨j, hj, e, hp, hn⟩
      · have h1 : nxtQ q = -1 := by unfold nxtQ; rw [hv, cond_true]; exact next_none e
        have h2 : tQ q = q := by unfold tQ turnQ; rw [hv, cond_true, e]; rfl
        have h3 : ((q.length : Int) == 0) = false := by rw [h8]; rfl
        rw [h1, h2, h3]
        simp only [show decide ((-1 : Int) < 0) = true from rfl, cond_true, Bool.not_false, sameQ_ok q q (by omega), decide_true, B7, alive_ok]
      · have ht := top_is hj hp hn
        obtain ⟨f1, f2, f3⟩ := first_facts hv ht
        have d1 : decide (nxtQ q < 0) = false := decide_eq_false (by omega)
        have d2 : decide ((j : Int) < 0) = false := decide_eq_false (by omega)
        have d3 : decide ((j : Int) ≥ (q.length : Int)) = false := decide_eq_false (by omega)
        have hloop := turn_loop (tQ q) hv (by omega) ht (rowQ q j).length 0 (by omega)
        rw [rot_zero, set_rowQ (by omega)] at hloop
        have e0 : ((0 : Nat) : Int) = 0 := rfl
        rw [e0] at hloop
        have hvt : qV (tQ q) = true := by unfold tQ; rw [hv, cond_true]; exact turnQ_valid hv
        simp only [d1, cond_false, f3, d2, Bool.not_false, cond_true, d3, hloop, B7, endK, sameQ_ok q q (show q.length + sumL q ≤ 1048577 by omega), decide_true, impl_QueuesValid_ok _ hts, hvt]

/-! ### what runs in many turns -/

def cyc (r : List Int) : Nat → Nat → List Int
  | 0, _ => []
  | n + 1, k => r.getD (k % r.length) 0 :: cyc r n (k + 1)

theorem cyc_len (r : List Int) : ∀ n k, (cyc r n k).length = n
  | 0, _ => rfl
  | n + 1, k => by simp [cyc, cyc_len r n]

theorem cyc_round (r : List Int) : ∀ n k, cyc r n (k + r.length) = cyc r n k
  | 0, _ => rfl
  | n + 1, k => by
    simp only [cyc, Nat.add_mod_right]
    rw [show k + r.length + 1 = k + 1 + r.length by omega, cyc_round r n]

theorem cyc_get (r : List Int) : ∀ n k i, i < n → (cyc r n k)[i]? = some (r.getD ((k + i) % r.length) 0)
  | 0, _, _, h => by omega
  | n + 1, k, 0, _ => by simp [cyc]
  | n + 1, k, i + 1, h => by
    simp only [cyc, List.getElem?_cons_succ]
    rw [cyc_get r n (k + 1) i (by omega), show k + 1 + i = k + (i + 1) by omega]

theorem cyc_add (r : List Int) : ∀ a b k, cyc r (a + b) k = cyc r a k ++ cyc r b (k + a)
  | 0, b, k => by simp [cyc]
  | a + 1, b, k => by
    rw [show a + 1 + b = a + b + 1 by omega]
    simp only [cyc, List.cons_append]
    rw [cyc_add r a b (k + 1), show k + 1 + a = k + (a + 1) by omega]

theorem cyc_full (r : List Int) : cyc r r.length 0 = r := by
  apply List.ext_getElem?
  intro i
  by_cases h : i < r.length
  · rw [cyc_get r r.length 0 i h, Nat.zero_add, Nat.mod_eq_of_lt h]
    simp [List.getD, h]
  · rw [List.getElem?_eq_none (by rw [cyc_len]; omega), List.getElem?_eq_none (by omega)]

theorem cyc_mem {r : List Int} (hr : 0 < r.length) : ∀ {n k : Nat} {x : Int}, x ∈ cyc r n k → x ∈ r
  | 0, _, _, h => by cases h
  | n + 1, k, x, h => by
    rcases List.mem_cons.1 h with rfl | h
    · have : k % r.length < r.length := Nat.mod_lt _ hr
      rw [show r.getD (k % r.length) 0 = r[k % r.length] from by simp [List.getD, this]]
      exact List.getElem_mem _
    · exact cyc_mem hr h

theorem runQ_cyc {q : Rows} {j : Nat} (h8 : q.length = 8) (h : isTop q j) : ∀ n k, k < (rowQ q j).length → runQ n (q.set j (rot k (rowQ q j))) = cyc (rowQ q j) n k
  | 0, _, _ => rfl
  | n + 1, k, hk => by
    have hj := h.1
    obtain ⟨t1, t2⟩ := turn_rot h8 h hk
    simp only [runQ, cyc]
    rw [t1, t2, Nat.mod_eq_of_lt hk]
    congr 1
    by_cases hlt : k + 1 < (rowQ q j).length
    · exact runQ_cyc h8 h n (k + 1) hlt
    · have e : k + 1 = (rowQ q j).length := by omega
      rw [e, rot_full]
      have := runQ_cyc h8 h n 0 (by omega)
      rw [rot_zero] at this
      rw [this]
      have := cyc_round (rowQ q j) n 0
      rw [Nat.zero_add] at this
      exact this.symm

theorem runQ_top {q : Rows} {j : Nat} (h8 : q.length = 8) (h : isTop q j) (n : Nat) : runQ n q = cyc (rowQ q j) n 0 := by
  have := runQ_cyc h8 h n 0 h.2.1
  rw [rot_zero, set_rowQ (by have := h.1; omega)] at this
  exact this

theorem runQ_none {q : Rows} (h : topI q = -1) : ∀ n, runQ n q = List.replicate n (-1)
  | 0 => rfl
  | n + 1 => by
    have ht : turnQ q = q := by unfold turnQ; rw [h]; rfl
    simp only [runQ, ht, next_none h, runQ_none h n, List.replicate_succ]

theorem times_add (l : List Int) (t : Int) : timesI l t + (l.filter (keepI t)).length = l.length := by
  unfold timesI
  induction l with
  | nil => rfl
  | cons x l ih =>
    rw [List.filter_cons, List.filter_cons]
    by_cases e : x = t
    · subst e
      simp [keepI] at ih ⊢
      omega
    · have h1 : (x == t) = false := by simpa using e
      have h2 : keepI t x = true := by simp [keepI, e]
      rw [h1, h2]
      simp only [if_true, Bool.false_eq_true, if_false, List.length_cons]
      omega

theorem waitQ_top {q : Rows} {j : Nat} (hv : qV q = true) (h : isTop q j) : waitQ q = ((rowQ q j).length : Int) := by
  unfold waitQ
  rw [hv, cond_true, h.top, if_neg (by omega), Int.toNat_natCast]

theorem wait_loop {q : Rows} {j : Nat} (hv : qV q = true) (hs : q.length + sumL q ≤ 100) (h : isTop q j) : ∀ f k, k + f = (rowQ q j).length →
    loopF laws_FnLongestWait_l0 (((rowQ q j).length : Int), (j : Int), (k : Int), q, ()) = some (.inl (((rowQ q j).length : Int), (j : Int), q, ()))
  | 0, k, hk => by
    have h8 := (qV_iff.1 hv).1
    have hj := h.1
    obtain rfl : k = (rowQ q j).length := by omega
    refine loopF_inr ?_
    simp only [laws_FnLongestWait_l0, laws_FnLongestWait_l0K, nnK_nat, getK_some (rget_of (show j < q.length by omega)), dec_nlt, cond_false]
  | f + 1, k, hk => by
    obtain ⟨h8, hr, _⟩ := qV_iff.1 hv
    have hj := h.1
    have hkl : k < (rowQ q j).length := by omega
    have hle := row_le (rget_of (show j < q.length by omega))
    have hg : (rowQ q j)[k]? = some (rowQ q j)[k] := List.getElem?_eq_getElem hkl
    have hm : (rowQ q j)[k] ∈ rowQ q j := List.getElem_mem hkl
    have hin : 0 ≤ (rowQ q j)[k] ∧ (rowQ q j)[k] ≤ 15 := by
      obtain ⟨r, h1, h2⟩ := rowQ_mem hm
      exact hr _ (List.mem_flatten.2 ⟨r, h1, h2⟩)
    have hone : turnsI q (rowQ q j)[k] ((rowQ q j).length : Int) = 1 := by
      have hro : runOk q ((rowQ q j).length : Int) = true := by
        unfold runOk
        have : rgt ((rowQ q j).length : Int) 0 200 = true := by simp only [rgt, Bool.and_eq_true, decide_eq_true_eq]; omega
        rw [hv, this]; rfl
      have hri : rgt (rowQ q j)[k] 0 15 = true := by simp only [rgt, Bool.and_eq_true, decide_eq_true_eq]; exact hin
      unfold turnsI runsQ
      rw [hro, hri]
      simp only [cond_true, Int.toNat_natCast, runQ_top h8 h, cyc_full]
      have g1 := times_add (rowQ q j) (rowQ q j)[k]
      have g2 := filter_len (rowQ_nodup hv j) hm
      omega
    rw [← wait_loop hv hs h f (k + 1) (by omega)]
    refine loopF_inl ?_
    simp only [laws_FnLongestWait_l0, laws_FnLongestWait_l0K, nnK_nat, getK_some (rget_of (show j < q.length by omega)), dec_lt hg, cond_true, getK_some hg, impl_TurnsOf_ok q _ _ (show q.length + sumL q ≤ 1048577 by omega), hone, B7, bne_self_eq_false, cond_false, wrapS (show k < 4611686018427387904 by omega)]

theorem FnLongestWait_law (code : List Int) (h : WfD (.cons (.sl (.int .u8)) .nil) (code, ())) : laws_FnLongestWait code = some true := by
  have hc : ∀ x ∈ code, 0 ≤ x ∧ x ≤ 255 := fun x hx => h.1.2 x hx
  unfold laws_FnLongestWait laws_FnLongestWaitK
  by_cases hl : ((code.length : Int) > 1048576)
  · simp [hl]
  · obtain ⟨a, m, R, hd, hq⟩ := drawWait_ok hc
    simp only [hl, decide_false, cond_false, hd, B7]
    generalize (R.drop a).take m = q at hq
    unfold smallQ at hq
    simp only [impl_Wait_ok q (by omega), spec_Wait_ok q (by omega), B7, bne_self_eq_false, cond_false, impl_Next_ok q (by omega), impl_Prio_ok q _ (show q.length + sumL q ≤ 1048577 by omega)]
    cases hv : qV q with
    | false =>
      have h1 : waitQ q = -1 := by unfold waitQ; rw [hv]; rfl
      rw [h1]
      rfl
    | true =>
      have h8 := (qV_iff.1 hv).1
      rcases top_cases q with ⟨e, _⟩ | ⟨j, hj, e, hp, hn⟩
      · have h1 : nxtQ q = -1 := by unfold nxtQ; rw [hv, cond_true]; exact next_none e
        have h2 : waitQ q = 0 := by unfold waitQ; rw [hv, cond_true, e]; rfl
        rw [h1, h2]
        rfl
      · have ht := top_is hj hp hn
        obtain ⟨f1, f2, f3⟩ := first_facts hv ht
        have d0 : decide (((rowQ q j).length : Int) ≤ 0) = false := decide_eq_false (by omega)
        have d2 : decide ((j : Int) < 0) = false := decide_eq_false (by omega)
        have d3 : decide ((j : Int) ≥ (q.length : Int)) = false := decide_eq_false (by omega)
        have hloop := wait_loop hv hq ht (rowQ q j).length 0 (by omega)
        have e0 : ((0 : Nat) : Int) = 0 := rfl
        rw [e0] at hloop
        rw [waitQ_top hv ht]
        simp only [d0, cond_false, f3, d2, Bool.not_false, cond_true, d3, hloop, B7, endK, nnK_nat, getK_some (rget_of (show j < q.length by omega)), beq_self_eq_true]

/-! ### turns repeat -/

theorem run_loop {t period c x0 : Int} {list : List Int} {q : Rows} (hq : q.length + sumL q ≤ 1048577) (hl : list.length ≤ 1000) (hp : 0 ≤ period) (h0 : list[0]? = some x0) (hc : ∀ x ∈ list, prQ q x = c)
    (hper : 0 < period → ∀ i : Nat, period.toNat ≤ i → i < list.length → list[i]? = list[i - period.toNat]?) :
    loopF laws_FnRunTurns_l0 (t, list, period, 0, q, ()) = some (.inl (t, list, q, ())) := by
  have := loop_list0 (nxt := laws_FnRunTurns_l0) list (fun i (_ : Unit) => (t, list, period, (i : Int), q, ())) (fun _ _ _ => .inl ()) (fun _ => .inl (t, list, q, ())) ()
    (fun i x s hx => ?_) (fun s => ?_) (st := (t, list, period, 0, q, ())) rfl
  · rw [this, goL_stay]
  · have hi := get_lt hx
    have c1 := hc x (List.mem_of_getElem? hx)
    have c2 := hc x0 (List.mem_of_getElem? h0)
    simp only [laws_FnRunTurns_l0, laws_FnRunTurns_l0K, dec_lt hx, cond_true, nnK_nat, getK_some hx, impl_Prio_ok q _ hq, B7, getK_some h0, c1, c2, bne_self_eq_false, Bool.not_false, wrapS (show i < 4611686018427387904 by omega), goTo_l]
    by_cases hpp : period > 0
    · by_cases hge : (i : Int) ≥ period
      · have hw : IntKind.wrap .i64 ((i : Int) - period) = ((i - period.toNat : Nat) : Int) := by rw [wrap64 (by omega) (by omega)]; omega
        have hg : list[i - period.toNat]? = some x := by rw [← hper hpp i (by omega) hi]; exact hx
        rw [decide_eq_true hpp, decide_eq_true hge]
        simp only [cond_true, hw, nnK_nat, getK_some hg, bne_self_eq_false, cond_false]
      · rw [decide_eq_true hpp, decide_eq_false hge]
        rfl
    · rw [decide_eq_false hpp]
      rfl
  · simp only [laws_FnRunTurns_l0, laws_FnRunTurns_l0K, dec_nlt, cond_false]

theorem FnRunTurns_law (code : List Int) (h : WfD (.cons (.sl (.int .u8)) .nil) (code, ())) : laws_FnRunTurns code = some true := by
  have hc : ∀ x ∈ code, 0 ≤ x ∧ x ≤ 255 := fun x hx => h.1.2 x hx
  unfold laws_FnRunTurns laws_FnRunTurnsK
  by_cases hl : ((code.length : Int) > 1048576)
  · simp [hl]
  · obtain ⟨a, m, t, R, hd, hq⟩ := drawRun_ok hc
    simp only [hl, decide_false, cond_false, hd, B7]
    generalize (R.drop a).take m = q at hq
    unfold smallQ at hq
    have hrl : (runsQ q t).length ≤ 200 := by
      unfold runsQ
      cases hr : runOk q t with
      | false => simp
      | true =>
        unfold runOk at hr
        simp only [rgt, Bool.and_eq_true, decide_eq_true_eq] at hr
        simp only [cond_true, runQ_len]
        omega
    simp only [impl_RunTurns_ok q t (by omega), spec_RunTurns_ok q t (by omega), B7, sameInts_ok (runsQ q t) (runsQ q t) (by omega), decide_true, Bool.not_true, cond_false, impl_Wait_ok q (by omega), impl_Next_ok q (by omega)]
    by_cases hz : (runsQ q t).length = 0
    · rw [hz]; rfl
    · have hz' : (((runsQ q t).length : Int) == 0) = false := by simpa using hz
      rw [hz']
      simp only [cond_false]
      have hro : runOk q t = true := by
        cases hr : runOk q t with
        | true => rfl
        | false => unfold runsQ at hz; rw [hr] at hz; exact absurd rfl hz
      have hruns : runsQ q t = runQ t.toNat q := by unfold runsQ; rw [hro, cond_true]
      have hro' := hro
      unfold runOk at hro'
      simp only [rgt, Bool.and_eq_true, decide_eq_true_eq] at hro'
      obtain ⟨hv, ht⟩ := hro'
      obtain ⟨n, rfl⟩ : ∃ n : Nat, t = (n : Int) := ⟨t.toNat, by omega⟩
      rw [Int.toNat_natCast] at hruns
      rw [hruns, runQ_len] at hz
      have hlen : (runsQ q (n : Int)).length = n := by rw [hruns, runQ_len]
      obtain ⟨h8, hr, _⟩ := qV_iff.1 hv
      have hall : ∃ (c x0 : Int), (runsQ q (n : Int))[0]? = some x0 ∧ (∀ x ∈ runsQ q (n : Int), prQ q x = c) ∧ x0 = nxtQ q ∧ 0 ≤ waitQ q ∧ (0 < waitQ q → ∀ i : Nat, (waitQ q).toNat ≤ i → i < (runsQ q (n : Int)).length → (runsQ q (n : Int))[i]? = (runsQ q (n : Int))[i - (waitQ q).toNat]?) := by
        rcases top_cases q with ⟨e, _⟩ | ⟨j, hj, e, hp, hn⟩
        · have h2 : waitQ q = 0 := by unfold waitQ; rw [hv, cond_true, e]; rfl
          have h1 : nxtQ q = -1 := by unfold nxtQ; rw [hv, cond_true]; exact next_none e
          rw [hruns, runQ_none e, h2, h1]
          refine ⟨prQ q (-1), -1, by cases n with | zero => exact absurd rfl hz | succ n => rfl, fun x hx => ?_, rfl, Int.le_refl _, fun h => by omega⟩
          rw [(List.mem_replicate.1 hx).2]
        · have htop := top_is hj hp hn
          obtain ⟨f1, f2, f3⟩ := first_facts hv htop
          rw [hruns, runQ_top h8 htop, waitQ_top hv htop, Int.toNat_natCast, cyc_len]
          refine ⟨(j : Int), (rowQ q j).getD 0 0, ?_, fun x hx => ?_, f1.symm, by omega, fun _ i h1 h2 => ?_⟩
          · rw [cyc_get _ n 0 0 (by omega), Nat.zero_add, Nat.zero_mod]
          · unfold prQ
            rw [hv, cond_true]
            exact prio_of hv (by omega) (cyc_mem hp hx)
          · rw [cyc_get _ n 0 i h2, cyc_get _ n 0 (i - (rowQ q j).length) (by omega), Nat.zero_add, Nat.zero_add]
            conv => lhs; rw [show i = i - (rowQ q j).length + (rowQ q j).length by omega, Nat.add_mod_right]
      obtain ⟨c, x0, a1, a2, a3, a4, a5⟩ := hall
      have hloop := run_loop (t := (n : Int)) (show q.length + sumL q ≤ 1048577 by omega) (by omega) a4 a1 a2 a5
      simp only [hloop, B7, endK, hlen, beq_self_eq_true, cond_true, getK_some a1, impl_Next_ok q (show q.length + sumL q ≤ 1048577 by omega), a3]

end Go.Ev
