/-
  Plain laws of queues: shares, priorities.
-/
import Derived.Test.YtbiohjikepebkaaLaw7
namespace Go.Ev
set_option linter.unusedVariables false
set_option linter.unusedSimpArgs false
set_option maxRecDepth 100000
set_option synthInstance.maxSize 2000
set_option synthInstance.maxHeartbeats 400000
/-! ### how often each runs -/

theorem timesI_snoc (l : List Int) (x t : Int) : timesI (l ++ [x]) t = timesI l t + (if x = t then 1 else 0) := by
  unfold timesI
  rw [List.filter_append]
  by_cases e : x = t <;> simp [e]

theorem div_step {L m : Nat} (hL : 0 < L) : (m % L + 1 < L ∧ (m + 1) / L = m / L ∧ (m + 1) % L = m % L + 1) ∨ (m % L + 1 = L ∧ (m + 1) / L = m / L + 1 ∧ (m + 1) % L = 0) := by
  have h1 := Nat.div_add_mod m L
  have h2 := Nat.mod_lt m hL
  by_cases h : m % L + 1 < L
  · left
    have e : m + 1 = L * (m / L) + (m % L + 1) := by omega
    refine ⟨h, ?_, ?_⟩
    · conv => lhs; rw [e]
      rw [Nat.mul_add_div hL, Nat.div_eq_of_lt h]
      rfl
    · conv => lhs; rw [e]
      rw [Nat.mul_add_mod, Nat.mod_eq_of_lt h]
  · right
    have hb : m % L + 1 = L := by omega
    have e : m + 1 = L * (m / L + 1) + 0 := by rw [Nat.mul_add, Nat.mul_one]; omega
    refine ⟨hb, ?_, ?_⟩
    · conv => lhs; rw [e]
      rw [Nat.mul_add_div hL]
      simp
    · conv => lhs; rw [e]
      rw [Nat.mul_add_mod]
      exact Nat.zero_mod L

theorem nodup_inj {r : List Int} (hn : r.Nodup) {i j : Nat} (hi : i < r.length) (hj : j < r.length) (e : r[i] = r[j]) : i = j := by
  unfold List.Nodup at hn
  rw [List.pairwise_iff_getElem] at hn
  rcases Nat.lt_trichotomy i j with h | h | h
  · exact absurd e (hn i j hi hj h)
  · exact h
  · exact absurd e.symm (hn j i hj hi h)

theorem cyc_times {r : List Int} (hn : r.Nodup) {c : Nat} (hc : c < r.length) : ∀ m, timesI (cyc r m 0) r[c] = m / r.length + (if c < m % r.length then 1 else 0)
  | 0 => by simp [cyc, timesI]
  | m + 1 => by
    have hL : 0 < r.length := by omega
    have hml := Nat.mod_lt m hL
    rw [cyc_add r m 1 0]
    simp only [cyc, Nat.zero_add]
    rw [timesI_snoc, cyc_times hn hc m]
    have hg : r.getD (m % r.length) 0 = r[m % r.length] := by simp [List.getD, hml]
    have hiff : r[m % r.length] = r[c] ↔ m % r.length = c := ⟨fun e => nodup_inj hn hml hc e, fun e => by simp only [e]⟩
    rw [hg]
    simp only [hiff]
    have z : ¬ c < 0 := by omega
    rcases div_step (m := m) hL with ⟨h1, h2, h3⟩ | ⟨h1, h2, h3⟩
    · rw [h2, h3]
      by_cases e1 : c < m % r.length
      · have e2 : ¬ m % r.length = c := by omega
        have e3 : c < m % r.length + 1 := by omega
        rw [if_pos e1, if_neg e2, if_pos e3]
      · by_cases e2 : m % r.length = c
        · have e3 : c < m % r.length + 1 := by omega
          rw [if_neg e1, if_pos e2, if_pos e3]
        · have e3 : ¬ c < m % r.length + 1 := by omega
          rw [if_neg e1, if_neg e2, if_neg e3]
    · rw [h2, h3, if_neg z]
      by_cases e1 : c < m % r.length
      · have e2 : ¬ m % r.length = c := by omega
        rw [if_pos e1, if_neg e2]
      · have e2 : m % r.length = c := by omega
        rw [if_neg e1, if_pos e2]

theorem times_zero {l : List Int} {t : Int} (h : t ∉ l) : timesI l t = 0 := by
  unfold timesI
  rw [List.filter_eq_nil_iff.2]
  · rfl
  · intro x hx
    simp only [beq_iff_eq]
    intro e
    exact h (e ▸ hx)

def sumT (l : List Int) : Nat → Nat
  | 0 => 0
  | k + 1 => sumT l k + timesI l (k : Int)

theorem sumT_cons (x : Int) (l : List Int) : ∀ k, sumT (x :: l) k = sumT l k + (if 0 ≤ x ∧ x < (k : Int) then 1 else 0)
  | 0 => by
    show 0 = 0 + _
    rw [if_neg (by omega)]
  | k + 1 => by
    have ht : timesI (x :: l) (k : Int) = timesI l (k : Int) + (if x = (k : Int) then 1 else 0) := by
      unfold timesI
      rw [List.filter_cons]
      by_cases e : x = (k : Int) <;> simp [e]
    show sumT (x :: l) k + timesI (x :: l) (k : Int) = sumT l k + timesI l (k : Int) + _
    rw [sumT_cons x l k, ht]
    by_cases e : x = (k : Int)
    · rw [if_neg (by omega), if_pos e, if_pos (by omega)]
      omega
    · by_cases e2 : 0 ≤ x ∧ x < (k : Int)
      · rw [if_pos e2, if_neg e, if_pos (by omega)]
        omega
      · rw [if_neg e2, if_neg e, if_neg (by omega)]
        omega

theorem sumT_all : ∀ {l : List Int}, (∀ x ∈ l, 0 ≤ x ∧ x ≤ 15) → sumT l 16 = l.length
  | [], _ => rfl
  | x :: l, h => by
    have hx := h x (List.mem_cons_self ..)
    rw [sumT_cons, if_pos (by omega), sumT_all fun y hy => h y (List.mem_cons_of_mem _ hy)]
    rfl

theorem sumT_le (l : List Int) : ∀ k, sumT l k ≤ k * l.length
  | 0 => by simp [sumT]
  | k + 1 => by
    have := sumT_le l k
    have h2 : timesI l (k : Int) ≤ l.length := List.length_filter_le _ _
    show sumT l k + timesI l (k : Int) ≤ _
    rw [Nat.add_mul]
    omega

theorem shares_loop {q : Rows} {j m : Nat} (hv : qV q = true) (hs : q.length + sumL q ≤ 100) (h : isTop q j) (hm : m ≤ 200) : ∀ f k, k + f = 16 →
    loopF laws_FnTurnsOf_l0 ((m : Int), nxtQ q, (sumT (cyc (rowQ q j) m 0) k : Int), (k : Int), q, ()) = some (.inl ((m : Int), (sumT (cyc (rowQ q j) m 0) 16 : Int), ()))
  | 0, k, hk => by
    obtain rfl : k = 16 := by omega
    refine loopF_inr ?_
    have hd : decide (((16 : Nat) : Int) < 16) = false := rfl
    simp only [laws_FnTurnsOf_l0, laws_FnTurnsOf_l0K, hd, cond_false]
  | f + 1, k, hk => by
    obtain ⟨h8, hr, _⟩ := qV_iff.1 hv
    have hj := h.1
    have hL := h.2.1
    obtain ⟨f1, f2, f3⟩ := first_facts hv h
    have hro : runOk q (m : Int) = true := by
      unfold runOk
      have : rgt (m : Int) 0 200 = true := by simp only [rgt, Bool.and_eq_true, decide_eq_true_eq]; omega
      rw [hv, this]; rfl
    have hri : rgt (k : Int) 0 15 = true := by simp only [rgt, Bool.and_eq_true, decide_eq_true_eq]; omega
    have htm : turnsI q (k : Int) (m : Int) = (timesI (cyc (rowQ q j) m 0) (k : Int) : Int) := by
      unfold turnsI runsQ
      rw [hro, hri]
      simp only [cond_true, Int.toNat_natCast, runQ_top h8 h]
    have hle := sumT_le (cyc (rowQ q j) m 0) k
    rw [cyc_len] at hle
    have hkm : k * m ≤ 15 * 200 := Nat.mul_le_mul (by omega) hm
    have htl : timesI (cyc (rowQ q j) m 0) (k : Int) ≤ m := by
      have := List.length_filter_le (fun x => x == (k : Int)) (cyc (rowQ q j) m 0)
      rw [cyc_len] at this
      exact this
    have hw : IntKind.wrap .i64 ((sumT (cyc (rowQ q j) m 0) k : Int) + (timesI (cyc (rowQ q j) m 0) (k : Int) : Int)) = (sumT (cyc (rowQ q j) m 0) (k + 1) : Int) := by
      rw [wrap64 (by omega) (by omega)]
      show _ = ((sumT (cyc (rowQ q j) m 0) k + timesI (cyc (rowQ q j) m 0) (k : Int) : Nat) : Int)
      omega
    rw [← shares_loop hv hs h hm f (k + 1) (by omega)]
    refine loopF_inl ?_
    have hd : decide ((k : Int) < 16) = true := decide_eq_true (by omega)
    have hq : q.length + sumL q ≤ 1048577 := by omega
    simp only [laws_FnTurnsOf_l0, laws_FnTurnsOf_l0K, hd, cond_true, impl_TurnsOf_ok q _ _ hq, htm, impl_Prio_ok q _ hq, f3, impl_Wait_ok q hq, waitQ_top hv h, B7, wrapS (show k < 4611686018427387904 by omega), hw]
    have hpq : prQ q (k : Int) = prioI q (k : Int) := by unfold prQ; rw [hv]; rfl
    by_cases hmem : (k : Int) ∈ rowQ q j
    · have hp : prQ q (k : Int) = (j : Int) := by rw [hpq]; exact prio_of hv (by omega) hmem
      obtain ⟨c, hc⟩ := List.getElem?_of_mem hmem
      have hcl := get_lt hc
      have hce : (rowQ q j)[c] = (k : Int) := (List.getElem?_eq_some_iff.1 hc).2
      have ht := cyc_times (rowQ_nodup hv j) hcl m
      rw [hce] at ht
      have hdiv : Int.tdiv (m : Int) ((rowQ q j).length : Int) = ((m / (rowQ q j).length : Nat) : Int) := by
        rw [Int.tdiv_eq_ediv_of_nonneg (by omega)]
        rfl
      have hdl : m / (rowQ q j).length ≤ m := Nat.div_le_self _ _
      generalize m / (rowQ q j).length = D at ht hdiv hdl
      have w1 : IntKind.wrap .i64 (Int.tdiv (m : Int) ((rowQ q j).length : Int)) = (D : Int) := by rw [hdiv, wrap64 (by omega) (by omega)]
      have w2 : IntKind.wrap .i64 ((D : Int) + 1) = (D : Int) + 1 := wrap64 (by omega) (by omega)
      rw [hp]
      simp only [beq_self_eq_true, cond_true]
      rw [chk_pos (by omega), w1, w2]
      have hlo : decide ((timesI (cyc (rowQ q j) m 0) (k : Int) : Int) < (D : Int)) = false := decide_eq_false (by rw [ht]; split <;> omega)
      have hhi : decide ((timesI (cyc (rowQ q j) m 0) (k : Int) : Int) > (D : Int) + 1) = false := decide_eq_false (by rw [ht]; split <;> omega)
      rw [hlo, hhi]
      simp only [Bool.not_false, cond_true, cond_false]
      rw [chk_pos (by omega)]
    · have hp : (prQ q (k : Int) == (j : Int)) = false := by
        rw [beq_eq_false_iff_ne, hpq]
        intro e
        rcases prio_cases q (k : Int) with ⟨e1, _⟩ | ⟨i, hi, e1, hmi⟩
        · omega
        · have : i = j := by omega
          subst this
          exact hmem hmi
      have hz : timesI (cyc (rowQ q j) m 0) (k : Int) = 0 := times_zero fun hm => hmem (cyc_mem hL hm)
      rw [hp]
      have hne : ((timesI (cyc (rowQ q j) m 0) (k : Int) : Int) != 0) = false := by rw [hz]; rfl
      rw [hne]
      simp only [cond_false]

theorem spec_Next_ok (q : Rows) (h : q.length + sumL q ≤ 1048577) : spec_ReadyNext (q, ()) = some (nxtQ q) := by
  unfold nxtQ
  cases hv : qV q with
  | true => exact spec_next_ok q hv h
  | false =>
    unfold spec_ReadyNext spec_ReadyNextK
    have hw : IntKind.wrap .i64 ((q.length : Int) - 1) = (q.length : Int) - 1 := wrap64 (by omega) (by omega)
    have hl : loopF spec_ReadyNext_l0 ((q, ()), (q.length : Int) - 1, ()) = some (.inl ()) := by
      refine loopF_inr ?_
      by_cases h0 : (q.length : Int) - 1 ≥ 0
      · simp only [spec_ReadyNext_l0, spec_ReadyNext_l0K, decide_eq_true h0, cond_true, spec_QueuesValid_ok q h, hv, B7, cond_false]
      · simp only [spec_ReadyNext_l0, spec_ReadyNext_l0K, decide_eq_false h0, cond_false]
    rw [hw, hl]
    rfl

theorem drawTurnsOf_ok {code : List Int} (hc : ∀ x ∈ code, 0 ≤ x ∧ x ≤ 255) : ∃ a m th t R, spec_DrawTurnsOf code = some (a, m, th, t, R) ∧ smallQ ((R.drop a).take m) := by
  obtain ⟨b, a, m, b', R, e1, e2, h1, h2⟩ := codeQ hc 12 (by omega)
  have hq : ((R.drop a).take m).length + sumL ((R.drop a).take m) ≤ 1048577 := by unfold smallQ at h2; omega
  obtain ⟨c, b3, e3, h3⟩ := oddE 3 b' h1 (by omega) (by omega)
  have fin : ∀ (b : Dl20Rd) (M : Int), rdOk b M → M ≤ 1000 → ∀ th : Int, ∃ r b4 s b5, spec_l20Rd_pick 30 b = some (r, b4) ∧ spec_l20Rd_pick 14 b4 = some (s, b5) ∧ ∃ x, (nnK (IntKind.wrap .i64 (Int.tdiv s 13)) fun i => getK [r, (-1 : Int)] i fun v => some (a, m, th, v, R)) = some (a, m, th, x, R) := by
    intro b M hb hM th
    obtain ⟨r, b4, f1, _, _, k1⟩ := pickE 30 b hb (by omega) (by omega)
    obtain ⟨s, b5, f2, s1, s2, _⟩ := pickE 14 b4 k1 (by omega) (by omega)
    have hs : Int.tdiv s 13 = s / 13 := Int.tdiv_eq_ediv_of_nonneg s1
    have hw : IntKind.wrap .i64 (Int.tdiv s 13) = s / 13 := by rw [hs, wrap64 (by omega) (by omega)]
    obtain ⟨x, _, hx⟩ := getE [r, (-1 : Int)] (r := s / 13) (by omega) (by simp; omega) (fun v => some (a, m, th, v, R))
    exact ⟨r, b4, s, b5, f1, f2, x, by rw [hw]; exact hx⟩
  unfold spec_DrawTurnsOf spec_DrawTurnsOfK
  simp only [e1, e2, e3, B7, spec_Next_ok _ hq]
  cases c with
  | true =>
    obtain ⟨t, b6, e6, _, _, h6⟩ := pickE 17 b3 h3 (by omega) (by omega)
    obtain ⟨r, b4, s, b5, f1, f2, x, hx⟩ := fin b6 _ h6 (by omega) (IntKind.wrap .i64 (t - 1))
    simp only [cond_true, e6, f1, f2, B7]
    exact ⟨a, m, _, x, R, hx, h2⟩
  | false =>
    obtain ⟨r, b4, s, b5, f1, f2, x, hx⟩ := fin b3 _ h3 (by omega) (nxtQ ((R.drop a).take m))
    simp only [cond_false, f1, f2, B7]
    exact ⟨a, m, _, x, R, hx, h2⟩

theorem FnTurnsOf_law (code : List Int) (h : WfD (.cons (.sl (.int .u8)) .nil) (code, ())) : laws_FnTurnsOf code = some true := by
  have hc : ∀ x ∈ code, 0 ≤ x ∧ x ≤ 255 := fun x hx => h.1.2 x hx
  unfold laws_FnTurnsOf laws_FnTurnsOfK
  by_cases hl : ((code.length : Int) > 1048576)
  · simp [hl]
  · obtain ⟨a, m, th, t, R, hd, hq⟩ := drawTurnsOf_ok hc
    simp only [hl, decide_false, cond_false, hd, B7]
    generalize (R.drop a).take m = q at hq
    unfold smallQ at hq
    simp only [impl_TurnsOf_ok q th t (by omega), spec_TurnsOf_ok q th t (by omega), B7, bne_self_eq_false, cond_false, impl_Next_ok q (by omega)]
    cases hro : runOk q t with
    | false =>
      have h1 : turnsI q th t = -1 := by unfold turnsI; rw [hro]; rfl
      rw [h1]
      rfl
    | true =>
      have hro' := hro
      unfold runOk at hro'
      simp only [rgt, Bool.and_eq_true, decide_eq_true_eq] at hro'
      obtain ⟨hv, ht⟩ := hro'
      obtain ⟨n, rfl⟩ : ∃ n : Nat, t = (n : Int) := ⟨t.toNat, by omega⟩
      obtain ⟨h8, hr, _⟩ := qV_iff.1 hv
      have h0 : 0 ≤ turnsI q th (n : Int) := by
        unfold turnsI
        rw [hro, cond_true]
        cases rgt th 0 15 with
        | true => simp only [cond_true]; omega
        | false => simp only [cond_false]; omega
      rw [decide_eq_false (show ¬ turnsI q th (n : Int) < 0 by omega)]
      simp only [cond_false]
      have hruns : runsQ q (n : Int) = runQ n q := by unfold runsQ; rw [hro, cond_true, Int.toNat_natCast]
      rcases top_cases q with ⟨e, _⟩ | ⟨j, hj, e, hp, hn⟩
      · have h1 : nxtQ q = -1 := by unfold nxtQ; rw [hv, cond_true]; exact next_none e
        have h2 : turnsI q th (n : Int) = 0 := by
          unfold turnsI
          rw [hro, cond_true, hruns, runQ_none e]
          cases hth : rgt th 0 15 with
          | false => rfl
          | true =>
            simp only [rgt, Bool.and_eq_true, decide_eq_true_eq] at hth
            rw [cond_true, times_zero]
            · rfl
            · intro hm
              have := (List.mem_replicate.1 hm).2
              omega
        rw [h1, h2]
        rfl
      · have htop := top_is hj hp hn
        obtain ⟨f1, f2, f3⟩ := first_facts hv htop
        have hloop := shares_loop (m := n) hv hq htop (by omega) 16 0 rfl
        have e0 : ((sumT (cyc (rowQ q j) n 0) 0 : Nat) : Int) = 0 := rfl
        have e1 : ((0 : Nat) : Int) = 0 := rfl
        rw [e0, e1] at hloop
        have hall : sumT (cyc (rowQ q j) n 0) 16 = n := by
          rw [sumT_all, cyc_len]
          intro x hx
          obtain ⟨r, g1, g2⟩ := rowQ_mem (cyc_mem hp hx)
          exact hr x (List.mem_flatten.2 ⟨r, g1, g2⟩)
        rw [hall] at hloop
        rw [decide_eq_false (show ¬ nxtQ q < 0 by omega)]
        simp only [cond_false, hloop, B7, endK, beq_self_eq_true]

/-! ### greater priorities first -/

theorem prQ_valid {q : Rows} (hv : qV q = true) (t : Int) : prQ q t = prioI q t := by unfold prQ; rw [hv]; rfl

theorem FnQueueFirst_law (code : List Int) (h : WfD (.cons (.sl (.int .u8)) .nil) (code, ())) : laws_FnQueueFirst code = some true := by
  have hc : ∀ x ∈ code, 0 ≤ x ∧ x ≤ 255 := fun x hx => h.1.2 x hx
  unfold laws_FnQueueFirst laws_FnQueueFirstK
  by_cases hl : ((code.length : Int) > 1048576)
  · simp [hl]
  · obtain ⟨a, m, t, p, R, hd, hq⟩ := drawAdd_ok hc
    simp only [hl, decide_false, cond_false, hd, B7]
    generalize (R.drop a).take m = q at hq
    unfold smallQ at hq
    have hR := addQ_size q t p (by omega)
    simp only [impl_ReadyAdd_ok q t p (by omega), spec_ReadyAdd_ok q t p (by omega), B7, sameQ_ok _ _ hR, decide_true, Bool.not_true, Bool.not_false, cond_true, beq_self_eq_true, cond_false]
    unfold addQ
    cases hok : addOk q t p with
    | false => simp [alive_ok]
    | true =>
      unfold addOk at hok
      simp only [rgt, Bool.and_eq_true, decide_eq_true_eq] at hok
      obtain ⟨⟨hv, ht⟩, hp⟩ := hok
      obtain ⟨n, rfl⟩ : ∃ n : Nat, p = (n : Int) := ⟨p.toNat, by omega⟩
      obtain ⟨h8, hr, _⟩ := qV_iff.1 hv
      simp only [cond_true, Int.toNat_natCast]
      rcases prio_cases q t with ⟨e1, hno⟩ | ⟨i, hi, e1, _⟩
      case inr => rw [e1, if_pos (by omega)]; simp [alive_ok]
      have hn : n < q.length := by omega
      have hv2 := addR_valid hv ht (show n < 8 by omega) hno
      have hs2 := addR_sum hn t
      have hl2 := addR_len q t n
      have hrow : rowQ (addR q t n) n = rowQ q n ++ [t] := by unfold addR; exact rowQ_set hn _
      have hother : ∀ i, n ≠ i → rowQ (addR q t n) i = rowQ q i := fun i hi => by unfold addR; exact rowQ_set_ne hi _
      have hq1 : q.length + sumL q ≤ 1048577 := by omega
      have hq2 : (addR q t n).length + sumL (addR q t n) ≤ 1048577 := by omega
      -- the new one is alone in the greatest row
      have hnew : rowQ q n = [] → (∀ i, n < i → i < 8 → rowQ q i = []) → nxtQ (addR q t n) = t := fun g1 g2 => by
        have htop : isTop (addR q t n) n := ⟨by omega, by rw [hrow]; simp, fun i a b => by rw [hother i (by omega)]; exact g2 i a b⟩
        unfold nxtQ
        rw [hv2, cond_true, next_of htop.top, hrow, g1]
        rfl
      rw [e1, if_neg (by omega)]
      simp only [Bool.not_true, cond_false, impl_Next_ok q hq1, impl_Prio_ok q _ hq1, B7, impl_Next_ok _ hq2, impl_RunTurns_ok _ _ hq1, impl_RunTurns_ok _ _ hq2]
      rcases top_cases q with ⟨e, hem⟩ | ⟨j, hj, e, hpos, hab⟩
      · have h1 : nxtQ q = -1 := by unfold nxtQ; rw [hv, cond_true]; exact next_none e
        have h2 : prQ q (-1) = -1 := by
          rw [prQ_valid hv]
          refine prio_no fun r hr1 hm => ?_
          have := (hr (-1) (List.mem_flatten.2 ⟨r, hr1, hm⟩)).1
          omega
        rw [h1, h2, decide_eq_true (show (n : Int) > -1 by omega)]
        simp only [cond_true, hnew (hem n (by omega)) (fun i _ b => hem i b), beq_self_eq_true]
      · have htop := top_is hj hpos hab
        obtain ⟨f1, f2, f3⟩ := first_facts hv htop
        rw [f3]
        rcases Nat.lt_trichotomy n j with hlt | heq | hgt
        · have hd1 : decide ((n : Int) > (j : Int)) = false := decide_eq_false (by omega)
          have hd2 : ((n : Int) == (j : Int)) = false := by rw [beq_eq_false_iff_ne]; omega
          have htop2 : isTop (addR q t n) j := ⟨hj, by rw [hother j (by omega)]; exact hpos, fun i a b => by rw [hother i (by omega)]; exact hab i a b⟩
          have hrun : runsQ (addR q t n) 20 = runsQ q 20 := by
            have r1 : runOk (addR q t n) 20 = true := by unfold runOk; rw [hv2]; rfl
            have r2 : runOk q 20 = true := by unfold runOk; rw [hv]; rfl
            unfold runsQ
            rw [r1, r2]
            simp only [cond_true]
            rw [runQ_top (by rw [hl2]; exact h8) htop2, runQ_top h8 htop, hother j (by omega)]
          have hlen : (runsQ q 20).length ≤ 1048577 := by
            unfold runsQ
            cases runOk q 20 with
            | false => simp
            | true => simp only [cond_true, runQ_len]; decide
          simp only [hd1, cond_false, hd2, Bool.not_false, cond_true, hrun, sameInts_ok _ _ hlen, B7, decide_true]
        · have hd1 : decide ((n : Int) > (j : Int)) = false := decide_eq_false (by omega)
          have hd2 : ((n : Int) == (j : Int)) = true := by rw [beq_iff_eq]; omega
          simp only [hd1, cond_false, hd2, Bool.not_true]
        · have hd1 : decide ((n : Int) > (j : Int)) = true := decide_eq_true (by omega)
          simp only [hd1, cond_true, hnew (hab n hgt (by omega)) (fun i a b => hab i (by omega) b), beq_self_eq_true]

end Go.Ev
