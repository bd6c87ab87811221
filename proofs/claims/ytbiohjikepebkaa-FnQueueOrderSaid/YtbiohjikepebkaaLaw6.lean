/-
  Plain laws of queues: new ones, threads added and removed.
-/
import Derived.Test.YtbiohjikepebkaaLaw5
namespace Go.Ev
set_option linter.unusedVariables false
set_option linter.unusedSimpArgs false
set_option maxRecDepth 100000
set_option synthInstance.maxSize 2000
set_option synthInstance.maxHeartbeats 400000
/-! ### the greatest priority, by what is there -/

theorem topN_of {q : Rows} {j : Nat} (hp : 0 < (rowQ q j).length) : ∀ d, (∀ i, j < i → i < j + 1 + d → rowQ q i = []) → topN q (j + 1 + d) = (j : Int)
  | 0, _ => by
    show topN q (j + 1) = _
    unfold topN
    rw [if_pos hp]
  | d + 1, h => by
    show topN q ((j + 1 + d) + 1) = _
    unfold topN
    rw [h (j + 1 + d) (by omega) (by omega)]
    rw [if_neg (by simp)]
    exact topN_of hp d fun i h1 h2 => h i h1 (by omega)

theorem top_of {q : Rows} {j : Nat} (hj : j < 8) (hp : 0 < (rowQ q j).length) (hn : ∀ i, j < i → i < 8 → rowQ q i = []) : topI q = (j : Int) := by
  have := topN_of hp (7 - j) fun i h1 h2 => hn i h1 (by omega)
  rw [show j + 1 + (7 - j) = 8 by omega] at this
  exact this

theorem topN_none {q : Rows} : ∀ n, (∀ i, i < n → rowQ q i = []) → topN q n = -1
  | 0, _ => rfl
  | n + 1, h => by
    unfold topN
    rw [h n (by omega), if_neg (by simp)]
    exact topN_none n fun i hi => h i (by omega)

theorem top_none {q : Rows} (h : ∀ i, i < 8 → rowQ q i = []) : topI q = -1 := topN_none 8 h

theorem topN_cases (q : Rows) : ∀ n, (topN q n = -1 ∧ ∀ i, i < n → rowQ q i = []) ∨ ∃ j : Nat, j < n ∧ topN q n = (j : Int) ∧ 0 < (rowQ q j).length ∧ ∀ i, j < i → i < n → rowQ q i = []
  | 0 => .inl ⟨rfl, fun i h => by omega⟩
  | n + 1 => by
    unfold topN
    split
    · rename_i h
      exact .inr ⟨n, by omega, rfl, h, fun i h1 h2 => by omega⟩
    · rename_i h
      have he : rowQ q n = [] := List.eq_nil_of_length_eq_zero (by omega)
      rcases topN_cases q n with ⟨h1, h2⟩ | ⟨j, h1, h2, h3, h4⟩
      · exact .inl ⟨h1, fun i hi => by
          by_cases e : i = n
          · rw [e]; exact he
          · exact h2 i (by omega)⟩
      · exact .inr ⟨j, by omega, h2, h3, fun i g1 g2 => by
          by_cases e : i = n
          · rw [e]; exact he
          · exact h4 i g1 (by omega)⟩

theorem top_cases (q : Rows) : (topI q = -1 ∧ ∀ i, i < 8 → rowQ q i = []) ∨ ∃ j : Nat, j < 8 ∧ topI q = (j : Int) ∧ 0 < (rowQ q j).length ∧ ∀ i, j < i → i < 8 → rowQ q i = [] := topN_cases q 8

theorem next_of {q : Rows} {j : Nat} (h : topI q = (j : Int)) : nextI q = (rowQ q j).getD 0 0 := by
  unfold nextI
  rw [h, if_neg (by omega), Int.toNat_natCast]

theorem next_none {q : Rows} (h : topI q = -1) : nextI q = -1 := by
  unfold nextI
  rw [h]; rfl

def nxtQ (q : Rows) : Int := bif qV q then nextI q else -1
def prQ (q : Rows) (t : Int) : Int := bif qV q then prioI q t else -1
def waitQ (q : Rows) : Int := bif qV q then (if topI q < 0 then 0 else ((rowQ q (topI q).toNat).length : Int)) else -1

theorem impl_Next_ok (q : Rows) (h : q.length + sumL q ≤ 1048577) : impl_ReadyNext (q, ()) = some (nxtQ q) := by
  unfold impl_ReadyNext impl_ReadyNextK nxtQ
  simp only [impl_QueuesValid_ok q h, B7]
  cases hv : qV q with
  | false => rfl
  | true => simp only [Bool.not_true, cond_false, cond_true, next_ok q (qV_iff.1 hv).1, B7]

theorem impl_Prio_ok (q : Rows) (t : Int) (h : q.length + sumL q ≤ 1048577) : impl_ReadyPrio (q, ()) t = some (prQ q t) := by
  unfold impl_ReadyPrio impl_ReadyPrioK prQ
  simp only [impl_QueuesValid_ok q h, B7]
  cases hv : qV q with
  | false => rfl
  | true => simp only [Bool.not_true, cond_false, cond_true, impl_prio_ok q t h, B7]

theorem impl_Wait_ok (q : Rows) (h : q.length + sumL q ≤ 1048577) : impl_LongestWait (q, ()) = some (waitQ q) := by
  unfold impl_LongestWait impl_LongestWaitK waitQ
  simp only [impl_QueuesValid_ok q h, B7]
  cases hv : qV q with
  | false => rfl
  | true =>
    have h8 := (qV_iff.1 hv).1
    simp only [Bool.not_true, cond_false, cond_true, top_ok q h8, B7]
    rcases top_cases q with ⟨e, _⟩ | ⟨j, hj, e, _, _⟩
    · rw [e]; rfl
    · rw [e, if_neg (by omega), decide_eq_false (by omega)]
      simp only [cond_false, nnK_nat, getK_some (rget_of (show j < q.length by omega)), Int.toNat_natCast]

theorem mem_first {l : List Int} (h : 0 < l.length) : l.getD 0 0 ∈ l := by
  cases l with
  | nil => cases h
  | cons x r => simp

theorem spec_Wait_ok (q : Rows) (h : q.length + sumL q ≤ 1048577) : spec_LongestWait (q, ()) = some (waitQ q) := by
  unfold spec_LongestWait spec_LongestWaitK waitQ
  simp only [spec_QueuesValid_ok q h, B7]
  cases hv : qV q with
  | false => rfl
  | true =>
    obtain ⟨h8, hr, _⟩ := qV_iff.1 hv
    simp only [Bool.not_true, cond_false, cond_true, spec_next_ok q hv h, B7]
    rcases top_cases q with ⟨e, _⟩ | ⟨j, hj, e, hp, _⟩
    · rw [next_none e, e]; rfl
    · have hm := mem_first hp
      have h0 : 0 ≤ (rowQ q j).getD 0 0 := by
        obtain ⟨r, h1, h2⟩ := rowQ_mem hm
        exact (hr _ (List.mem_flatten.2 ⟨r, h1, h2⟩)).1
      rw [next_of e, e, if_neg (by omega), decide_eq_false (by omega)]
      simp only [cond_false, spec_prio_ok q _ hv h, prio_of hv (show j < q.length by omega) hm, B7, nnK_nat, getK_some (rget_of (show j < q.length by omega)), Int.toNat_natCast]

theorem alive_ok : laws_alive = some true := rfl

/-! ### new queues -/

def newQ : Rows := [[], [], [], [], [], [], [], []]
theorem newQ_row (i : Nat) : rowQ newQ i = [] := by
  match i with
  | 0 | 1 | 2 | 3 | 4 | 5 | 6 | 7 => rfl
  | n + 8 => rfl
theorem newQ_valid : qV newQ = true := rfl
theorem newQ_len : newQ.length = 8 := rfl
theorem newQ_sum : sumL newQ = 0 := rfl
theorem newQ_no (t : Int) : ∀ r ∈ newQ, t ∉ r := fun r hr => by
  simp only [newQ, List.mem_cons, List.not_mem_nil, or_false, or_self] at hr
  subst hr
  simp

theorem prio_no {q : Rows} {t : Int} (h : ∀ r ∈ q, t ∉ r) : prioI q t = -1 := by
  rcases prio_cases q t with ⟨h1, _⟩ | ⟨j, _, _, h3⟩
  · exact h1
  · obtain ⟨r, hr, hm⟩ := rowQ_mem h3
    exact absurd hm (h r hr)

theorem FnNewQueues_law (code : List Int) (h : WfD (.cons (.sl (.int .u8)) .nil) (code, ())) : laws_FnNewQueues code = some true := by
  unfold laws_FnNewQueues laws_FnNewQueuesK
  by_cases hl : ((code.length : Int) > 1048576)
  · simp [hl]
  · have e1 : impl_NewQueues = some newQ := rfl
    have e2 : spec_NewQueues = some newQ := rfl
    have hs : newQ.length + sumL newQ ≤ 1048577 := by rw [newQ_len, newQ_sum]; omega
    have t0 : 0 ≤ Int.tmod (code.length : Int) 16 ∧ Int.tmod (code.length : Int) 16 ≤ 15 := by
      rw [Int.tmod_eq_emod_of_nonneg (by omega)]; omega
    have p0 : ∃ p : Nat, p < 8 ∧ Int.tmod (Int.tmod (code.length : Int) 16) 8 = (p : Int) := by
      refine ⟨(Int.tmod (Int.tmod (code.length : Int) 16) 8).toNat, ?_, ?_⟩ <;> (rw [Int.tmod_eq_emod_of_nonneg t0.1]; omega)
    obtain ⟨p, hp, ep⟩ := p0
    rw [ep]
    generalize Int.tmod (code.length : Int) 16 = t at t0
    have hno := newQ_no t
    have hadd : addQ newQ t (p : Int) = (true, addR newQ t p) := by
      unfold addQ addOk
      have g1 : rgt t 0 15 = true := by simp only [rgt, Bool.and_eq_true, decide_eq_true_eq]; exact t0
      have g2 : rgt (p : Int) 0 7 = true := by simp only [rgt, Bool.and_eq_true, decide_eq_true_eq]; omega
      rw [newQ_valid, g1, g2, prio_no hno]
      rfl
    have hv := addR_valid newQ_valid t0 hp hno
    have hsum : sumL (addR newQ t p) = 1 := by rw [addR_sum (by rw [newQ_len]; exact hp), newQ_sum]
    have hr : rowQ (addR newQ t p) p = [t] := by
      unfold addR
      rw [rowQ_set (by rw [newQ_len]; exact hp), newQ_row]
      rfl
    have htop : topI (addR newQ t p) = (p : Int) := top_of hp (by rw [hr]; simp) fun i h1 h2 => by
      unfold addR
      rw [rowQ_set_ne (by omega), newQ_row]
    have n1 : nxtQ newQ = -1 := rfl
    have n2 : nxtQ (addR newQ t p) = t := by
      unfold nxtQ
      rw [hv, cond_true, next_of htop, hr]
      rfl
    simp only [hl, decide_false, cond_false, e1, e2, B7, sameQ_ok newQ newQ hs, decide_true, Bool.not_true, impl_ReadyAdd_ok newQ t p hs, hadd, impl_QueuesValid_ok newQ hs, newQ_valid, cond_true, impl_Next_ok newQ hs, n1,
      impl_Next_ok (addR newQ t p) (by rw [addR_len, newQ_len, hsum]; omega), n2, beq_self_eq_true]

/-! ### a thread is added, removed -/

theorem mem_addR {q : Rows} {t : Int} {p : Nat} (hp : p < q.length) : t ∈ rowQ (addR q t p) p := by
  unfold addR
  rw [rowQ_set hp]
  simp

theorem filter_no {t : Int} {r : List Int} (h : t ∉ r) : r.filter (keepI t) = r := List.filter_eq_self.2 fun x hx => by
  simp only [keepI, Bool.not_eq_true', beq_eq_false_iff_ne]
  intro e
  exact h (e ▸ hx)

theorem FnReadyAdd_law (code : List Int) (h : WfD (.cons (.sl (.int .u8)) .nil) (code, ())) : laws_FnReadyAdd code = some true := by
  have hc : ∀ x ∈ code, 0 ≤ x ∧ x ≤ 255 := fun x hx => h.1.2 x hx
  unfold laws_FnReadyAdd laws_FnReadyAddK
  by_cases hl : ((code.length : Int) > 1048576)
  · simp [hl]
  · obtain ⟨a, m, t, p, R, hd, hq⟩ := drawAdd_ok hc
    simp only [hl, decide_false, cond_false, hd, B7]
    generalize (R.drop a).take m = q at hq
    unfold smallQ at hq
    have hR := addQ_size q t p (by omega)
    simp only [impl_ReadyAdd_ok q t p (by omega), spec_ReadyAdd_ok q t p (by omega), B7, sameQ_ok _ _ hR, decide_true, Bool.not_true, Bool.not_false, cond_true, beq_self_eq_true, cond_false]
    unfold addQ
    cases hok : addOk q t p with
    | false => simp [alive_ok]
    | true =>
      unfold addOk at hok
      simp only [rgt, Bool.and_eq_true, decide_eq_true_eq] at hok
      obtain ⟨⟨hv, ht⟩, hp⟩ := hok
      obtain ⟨n, rfl⟩ : ∃ n : Nat, p = (n : Int) := ⟨p.toNat, by omega⟩
      have h8 := (qV_iff.1 hv).1
      simp only [cond_true, Int.toNat_natCast]
      rcases prio_cases q t with ⟨e1, hno⟩ | ⟨j, hj, e1, _⟩
      · have hn : n < q.length := by omega
        have hv2 := addR_valid hv ht (show n < 8 by omega) hno
        have hs2 := addR_sum hn t
        have hl2 := addR_len q t n
        have hpr : prioI (addR q t n) t = (n : Int) := prio_of hv2 (by omega) (mem_addR hn)
        have hrow : rowQ (addR q t n) n = rowQ q n ++ [t] := by unfold addR; exact rowQ_set hn _
        have hrem : remQ (addR q t n) t = (true, q) := by
          unfold remQ
          rw [hv2, hpr, cond_true, if_neg (by omega), Int.toNat_natCast]
          unfold remR
          rw [hrow]
          have : t ∉ rowQ q n := fun hm => by
            obtain ⟨r, h1, h2⟩ := rowQ_mem hm
            exact hno r h1 h2
          rw [List.filter_append, filter_no this]
          have hk : keepI t t = false := by simp [keepI]
          simp only [List.filter_cons, hk, List.filter_nil, Bool.false_eq_true, if_false, List.append_nil]
          unfold addR
          rw [List.set_set]
          have : q.set n (rowQ q n) = q := by
            have hg : rowQ q n = q[n] := by simp [rowQ, List.getD, hn]
            rw [hg]
            exact List.set_getElem_self hn
          rw [this]
        have hadd : addQ (addR q t n) t (n : Int) = (false, addR q t n) := by
          unfold addQ addOk
          have g1 : rgt t 0 15 = true := by simp only [rgt, Bool.and_eq_true, decide_eq_true_eq]; exact ht
          have g2 : rgt (n : Int) 0 7 = true := by simp only [rgt, Bool.and_eq_true, decide_eq_true_eq]; exact hp
          rw [hv2, g1, g2, hpr]
          simp
        have hle := row_le (rget_of hn)
        have hg : (addR q t n)[n]? = some (rowQ q n ++ [t]) := by rw [← hrow]; exact rget_of (by omega)
        have hpq : prQ (addR q t n) t = (n : Int) := by unfold prQ; rw [hv2, cond_true, hpr]
        have hw : IntKind.wrap .i64 (((rowQ q n ++ [t]).length : Int) - 1) = ((rowQ q n).length : Int) := by
          rw [List.length_append, List.length_singleton, wrap64 (by omega) (by omega)]
          omega
        have hlast : (rowQ q n ++ [t])[(rowQ q n).length]? = some t := by simp
        rw [e1, if_neg (by omega)]
        simp only [Bool.not_true, cond_false, impl_ReadyRemove_ok (addR q t n) t (by omega), impl_ReadyAdd_ok (addR q t n) t n (by omega), impl_QueuesValid_ok (addR q t n) (by omega), impl_Prio_ok (addR q t n) t (by omega), hrem, hadd, hv2, hpq, B7, cond_true, beq_self_eq_true, nnK_nat, getK_some hg, hw, getK_some hlast,
          sameQ_ok q q (by omega), decide_true, Bool.not_false]
      · rw [e1, if_pos (by omega)]
        simp only [Bool.not_false, cond_true, B7, sameQ_ok q q (by omega), decide_true, alive_ok]
        cases ((q.length : Int) == 0) <;> rfl

theorem remR_valid {q : Rows} {t : Int} {p : Nat} (hv : qV q = true) (hp : p < q.length) : qV (remR q t p) = true := by
  obtain ⟨h8, hr, hnd⟩ := qV_iff.1 hv
  have hsub : (remR q t p).flatten.Sublist q.flatten := by
    unfold remR
    have e1 : q = q.take p ++ rowQ q p :: q.drop (p + 1) := by
      have : rowQ q p = q[p] := by simp [rowQ, List.getD, hp]
      rw [this]
      simp
    have e2 : ∀ r, q.set p r = q.take p ++ r :: q.drop (p + 1) := fun r => by rw [List.set_eq_take_append_cons_drop, if_pos hp]
    rw [e2]
    conv => rhs; rw [e1]
    simp only [List.flatten_append, List.flatten_cons]
    exact (List.Sublist.refl _).append (List.filter_sublist.append (List.Sublist.refl _))
  rw [qV_iff]
  exact ⟨by rw [remR_len]; exact h8, fun x hx => hr x (hsub.subset hx), hsub.nodup hnd⟩

theorem remR_no {q : Rows} {t : Int} {p : Nat} (hv : qV q = true) (hp : p < q.length) (ht : t ∈ rowQ q p) : ∀ r ∈ remR q t p, t ∉ r := by
  intro r hr hm
  obtain ⟨i, hi⟩ := List.getElem?_of_mem hr
  have hlt := get_lt hi
  rw [remR_len] at hlt
  unfold remR at hi
  by_cases e : p = i
  · subst e
    rw [List.getElem?_set_self hp] at hi
    obtain rfl := Option.some.inj hi
    simp [keepI] at hm
  · rw [List.getElem?_set_ne e] at hi
    have h2 : t ∈ rowQ q i := by rw [show rowQ q i = r from by simp [rowQ, List.getD, hi]]; exact hm
    exact e (one_row (qV_iff.1 hv).2.2 hp hlt ht h2)

theorem filter_len {t : Int} : ∀ {r : List Int}, r.Nodup → t ∈ r → (r.filter (keepI t)).length + 1 = r.length
  | x :: r, hn, hm => by
    rw [List.nodup_cons] at hn
    rw [List.filter_cons]
    by_cases e : x = t
    · subst e
      have : keepI x x = false := by simp [keepI]
      rw [this, filter_no hn.1]
      simp
    · have hk : keepI t x = true := by simp [keepI, e]
      have hm' : t ∈ r := by
        rcases List.mem_cons.1 hm with rfl | h
        · exact absurd rfl e
        · exact h
      rw [hk]
      have := filter_len hn.2 hm'
      simp only [if_true, List.length_cons]
      omega

theorem rowQ_nodup {q : Rows} (hv : qV q = true) (i : Nat) : (rowQ q i).Nodup := by
  have hnd := (qV_iff.1 hv).2.2
  unfold List.Nodup at hnd
  rw [List.pairwise_flatten] at hnd
  unfold rowQ List.getD
  cases hq : q[i]? with
  | none => simp
  | some r => exact hnd.1 r (List.mem_of_getElem? hq)

theorem sizes_loop (n : Int) (again : Bool) (q x : Rows) (hxl : x.length = q.length) (hq : q.length + sumL q ≤ 1000) (hx : x.length + sumL x ≤ 1000) : loopF laws_FnReadyRemove_l0 (n, again, 0, 0, 0, q, x, ()) = some (n, again, (sumL q : Int), (sumL x : Int), x, ()) := by
  have key : ∀ (r s : Rows) (i : Nat) (A B : Nat), q.drop i = r → x.drop i = s → i ≤ q.length → A + sumL r = sumL q → B + sumL s = sumL x → loopF laws_FnReadyRemove_l0 (n, again, (A : Int), (B : Int), (i : Int), q, x, ()) = some (n, again, (sumL q : Int), (sumL x : Int), x, ()) := by
    intro r
    induction r with
    | nil =>
      intro s i A B hd hd2 hi hA hB
      have hl : i = q.length := by
        have := congrArg List.length hd
        simp at this; omega
      have hs : s = [] := by rw [← hd2]; exact List.drop_of_length_le (by omega)
      subst hs
      subst hl
      have h0 : sumL ([] : Rows) = 0 := rfl
      rw [h0] at hA hB
      refine loopF_inr ?_
      simp only [laws_FnReadyRemove_l0, laws_FnReadyRemove_l0K, dec_nlt, cond_false]
      rw [← hA, ← hB]
      simp
    | cons y r ih =>
      intro s i A B hd hd2 hi hA hB
      obtain ⟨hy, hr⟩ := drop_get hd
      have hl := get_lt hy
      cases s with
      | nil =>
        have := congrArg List.length hd2
        simp at this; omega
      | cons z s =>
        obtain ⟨hz, hs⟩ := drop_get hd2
        rw [sumL_cons] at hA hB
        rw [← ih s (i + 1) (A + y.length) (B + z.length) hr hs (by omega) (by omega) (by omega)]
        refine loopF_inl ?_
        have w1 : IntKind.wrap .i64 ((A : Int) + (y.length : Int)) = ((A + y.length : Nat) : Int) := by rw [wrap64 (by omega) (by omega)]; omega
        have w2 : IntKind.wrap .i64 ((B : Int) + (z.length : Int)) = ((B + z.length : Nat) : Int) := by rw [wrap64 (by omega) (by omega)]; omega
        simp only [laws_FnReadyRemove_l0, laws_FnReadyRemove_l0K, dec_lt hy, cond_true, nnK_nat, getK_some hy, getK_some hz, w1, w2, wrapS (show i < 4611686018427387904 by omega)]
  exact key q x 0 0 0 rfl rfl (Nat.zero_le _) (by omega) (by omega)

theorem FnReadyRemove_law (code : List Int) (h : WfD (.cons (.sl (.int .u8)) .nil) (code, ())) : laws_FnReadyRemove code = some true := by
  have hc : ∀ x ∈ code, 0 ≤ x ∧ x ≤ 255 := fun x hx => h.1.2 x hx
  unfold laws_FnReadyRemove laws_FnReadyRemoveK
  by_cases hl : ((code.length : Int) > 1048576)
  · simp [hl]
  · obtain ⟨a, m, t, R, hd, hq⟩ := drawRemove_ok hc
    simp only [hl, decide_false, cond_false, hd, B7]
    generalize (R.drop a).take m = q at hq
    unfold smallQ at hq
    have hR := remQ_size q t (by omega)
    simp only [impl_ReadyRemove_ok q t (by omega), spec_ReadyRemove_ok q t (by omega), B7, sameQ_ok _ _ hR, decide_true, Bool.not_true, Bool.not_false, cond_true, beq_self_eq_true, cond_false]
    unfold remQ
    cases hv : qV q with
    | false => simp [alive_ok]
    | true =>
      have h8 := (qV_iff.1 hv).1
      simp only [cond_true]
      rcases prio_cases q t with ⟨e1, hno⟩ | ⟨j, hj, e1, hm⟩
      · rw [e1, if_pos (by omega)]
        simp only [Bool.not_false, cond_true, B7, sameQ_ok q q (by omega), decide_true, alive_ok]
        cases ((q.length : Int) == 0) <;> rfl
      · rw [e1, if_neg (by omega), Int.toNat_natCast]
        have hv2 := remR_valid (t := t) hv hj
        have hno := remR_no hv hj hm
        have hs2 := remR_sum hj t
        have hl2 := remR_len q t j
        have hpr := prio_no hno
        have hrem : remQ (remR q t j) t = (false, remR q t j) := by
          unfold remQ
          rw [hv2, hpr]
          rfl
        have hsum : sumL (remR q t j) + 1 = sumL q := by
          have g1 := set_sum hj ((rowQ q j).filter (keepI t))
          have g2 := filter_len (rowQ_nodup hv j) hm
          unfold remR
          omega
        have hpq : prQ (remR q t j) t = -1 := by unfold prQ; rw [hv2, cond_true, hpr]
        have hw : IntKind.wrap .i64 ((sumL q : Int) - 1) = (sumL (remR q t j) : Int) := by rw [wrap64 (by omega) (by omega)]; omega
        have hnx : nxtQ (remR q t j) ≠ t := by
          unfold nxtQ
          rw [hv2, cond_true]
          have ht0 : 0 ≤ t := by
            obtain ⟨r, g1, g2⟩ := rowQ_mem hm
            exact ((qV_iff.1 hv).2.1 t (List.mem_flatten.2 ⟨r, g1, g2⟩)).1
          rcases top_cases (remR q t j) with ⟨e, _⟩ | ⟨i, hi, e, hp, _⟩
          · rw [next_none e]; omega
          · rw [next_of e]
            intro he
            obtain ⟨r, g1, g2⟩ := rowQ_mem (mem_first hp)
            rw [he] at g2
            exact hno r g1 g2
        have hne : (nxtQ (remR q t j) != t) = true := by simpa using hnx
        simp only [Bool.not_true, Bool.not_false, cond_true, cond_false, impl_ReadyRemove_ok (remR q t j) t (by omega), hrem, B7, sizes_loop t false q (remR q t j) hl2 (by omega) (by omega), impl_QueuesValid_ok (remR q t j) (by omega), hv2, impl_Prio_ok (remR q t j) t (by omega), hpq, beq_self_eq_true, hw, impl_Next_ok (remR q t j) (by omega), hne]

end Go.Ev
