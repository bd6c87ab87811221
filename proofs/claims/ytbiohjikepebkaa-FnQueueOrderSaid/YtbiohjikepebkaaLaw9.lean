/-
  Plain laws of queues: the order.
-/
import Derived.Test.YtbiohjikepebkaaLaw8
namespace Go.Ev
set_option linter.unusedVariables false
set_option linter.unusedSimpArgs false
set_option maxRecDepth 100000
set_option synthInstance.maxSize 2000
set_option synthInstance.maxHeartbeats 400000
/-! ### calls: threads, each once -/

def callsV (L : List Int) : Bool := decide (L.length ≤ 16) && difV L

theorem goL_allc {α τ : Type} (p : α → Bool) (T F : τ) : ∀ (r : List α) (i : Nat), goL (fun (_ : Nat) x (_ : Unit) => bif p x then .inl () else .inr F) (fun _ => T) r i () = bif r.all p then T else F
  | [], _ => rfl
  | x :: r, i => by
    simp only [goL, List.all_cons]
    cases p x with
    | true => exact goL_allc p T F r (i + 1)
    | false => rfl

theorem impl_CallsValid_ok (L : List Int) (h : L.length ≤ 1048577) : impl_CallsValid L = some (callsV L) := by
  unfold impl_CallsValid impl_CallsValidK callsV
  rw [different_ok L h]
  by_cases h1 : L.length ≤ 16
  · rw [decide_eq_true h1, decide_eq_true (show (L.length : Int) ≤ 16 by omega)]
    rfl
  · rw [decide_eq_false h1, decide_eq_false (show ¬ (L.length : Int) ≤ 16 by omega)]
    rfl

theorem calls_inner (L : List Int) (i : Nat) (x : Int) (hx : L[i]? = some x) (h : L.length ≤ 1048577) : loopF spec_CallsValid_l2 (L, (i : Int), 0, ()) = some (bif noneI L i x then .inl (L, (i : Int), ()) else .inr (false, ())) := by
  have hi := get_lt hx
  have := loop_list0 (nxt := spec_CallsValid_l2) (L.take i) (fun j (_ : Unit) => (L, (i : Int), (j : Int), ())) (fun _ y _ => bif !decide (y = x) then .inl () else .inr (.inr (false, ()))) (fun _ => .inl (L, (i : Int), ())) ()
    (fun j y s hy => ?_) (fun s => ?_) (st := (L, (i : Int), 0, ())) rfl
  · rw [this, goL_allc (fun y : Int => !decide (y = x))]
    rfl
  · have hj := get_lt hy
    simp only [List.length_take] at hj
    have hy' : L[j]? = some y := by rw [List.getElem?_take, if_pos (by omega)] at hy; exact hy
    have hd : decide ((j : Int) < (i : Int)) = true := decide_eq_true (by omega)
    simp only [spec_CallsValid_l2, spec_CallsValid_l2K, hd, cond_true, nnK_nat, getK_some hy', getK_some hx, beqI, wrapS (show j < 4611686018427387904 by omega), goTo_if, goTo_l, goTo_r]
    cases decide (y = x) <;> rfl
  · have hl : (L.take i).length = i := by simp; omega
    simp only [spec_CallsValid_l2, spec_CallsValid_l2K, hl, dec_nlt, cond_false]

theorem spec_CallsValid_ok (L : List Int) (h : L.length ≤ 1048577) : spec_CallsValid L = some (callsV L) := by
  unfold spec_CallsValid spec_CallsValidK callsV difV
  have := loop_list0 (nxt := spec_CallsValid_l0) L (fun i (_ : Unit) => (L, (i : Int), ())) (fun i x _ => bif rgt x 0 15 && noneI L i x then .inl () else .inr (.inr (false, ()))) (fun _ => .inl (L, ())) ()
    (fun i x s hx => ?_) (fun s => ?_) (st := (L, 0, ())) rfl
  · rw [this, goL_all (fun i x => rgt x 0 15 && noneI L i x)]
    cases (L.zipIdx.all fun q => rgt q.1 0 15 && noneI L q.2 q.1) with
    | false => simp [endK]
    | true =>
      simp only [cond_true, B7, endK, Bool.and_true]
      by_cases h1 : L.length ≤ 16
      · rw [decide_eq_true h1, decide_eq_true (show (L.length : Int) ≤ 16 by omega)]
      · rw [decide_eq_false h1, decide_eq_false (show ¬ (L.length : Int) ≤ 16 by omega)]
  · have hl := get_lt hx
    simp only [spec_CallsValid_l0, spec_CallsValid_l0K, dec_lt hx, cond_true, nnK_nat, getK_some hx, l1In_ok, B7, calls_inner L i x hx h, goTo_if, goTo_l, goTo_r, wrapS (show i < 4611686018427387904 by omega)]
    have e : (decide (0 ≤ x) && decide (x ≤ 15)) = rgt x 0 15 := rfl
    rw [e]
    cases rgt x 0 15 with
    | false => rfl
    | true =>
      have hw := wrapS (show i < 4611686018427387904 by omega)
      cases noneI L i x with
      | false => rfl
      | true =>
        simp only [Bool.not_true, cond_false, cond_true, B7, endK, Bool.and_self, goTo_l, hw]
  · simp only [spec_CallsValid_l0, spec_CallsValid_l0K, dec_nlt, cond_false]

theorem push_ok (L : List Int) (c : Int) (h : L.length ≤ 100) : ∃ b L', spec_PushCall L c = some (b, L') ∧ L'.length ≤ L.length + 1 := by
  unfold spec_PushCall spec_PushCallK
  simp only [spec_CallsValid_ok L (by omega), B7, l1In_ok]
  cases callsV L with
  | false => exact ⟨false, [], rfl, by simp⟩
  | true =>
    simp only [Bool.not_true, Bool.not_false, cond_true]
    cases (decide (0 ≤ c) && decide (c ≤ 15)) with
    | false => exact ⟨false, [], rfl, by simp⟩
    | true =>
      simp only [Bool.not_true, cond_false]
      rw [chk_pos (by simp only [bigRow]; omega)]
      have := loop_list0 (nxt := spec_PushCall_l0) L (fun i (_ : Unit) => (L, c, (i : Int), L, ())) (fun _ y _ => bif !decide (y = c) then .inl () else .inr (.inr (false, L, ()))) (fun _ => .inl (c, L, ())) ()
        (fun i y s hy => ?_) (fun s => ?_) (st := (L, c, 0, L, ())) rfl
      · rw [this, goL_allc (fun y : Int => !decide (y = c))]
        cases (L.all fun y => !decide (y = c)) with
        | false => exact ⟨false, L, rfl, by omega⟩
        | true =>
          simp only [cond_true, B7, endK]
          rw [chk_pos (by simp only [bigRow]; omega)]
          exact ⟨true, _, rfl, by simp⟩
      · have hl := get_lt hy
        simp only [spec_PushCall_l0, spec_PushCall_l0K, dec_lt hy, cond_true, nnK_nat, getK_some hy, beqI, wrapS (show i < 4611686018427387904 by omega), goTo_if, goTo_l, goTo_r]
        cases decide (y = c) <;> rfl
      · simp only [spec_PushCall_l0, spec_PushCall_l0K, dec_nlt, cond_false]

theorem calls_loop (n : Int) : ∀ (f : Nat) (b : Dl20Rd) (L : List Int) (m : Int), rdOk b m → m + (f : Int) ≤ 1000 → L.length + f ≤ 50 →
    ∃ b' L', loopF spec_l20Calls_l0 (n, (f : Int), b, L, ()) = some (n, b', L', ()) ∧ rdOk b' (m + (f : Int)) ∧ L'.length ≤ L.length + f
  | 0, b, L, m, hb, hm, hl => by
    refine ⟨b, L, loopF_inr ?_, by simpa using hb, Nat.le_refl _⟩
    have : decide (((0 : Nat) : Int) > 0) = false := rfl
    simp only [spec_l20Calls_l0, spec_l20Calls_l0K, this, cond_false]
  | f + 1, b, L, m, hb, hm, hl => by
    obtain ⟨c, b1, e1, _, _, k3⟩ := pickE 16 b hb (by omega) (by omega)
    obtain ⟨o, L1, e2, h2⟩ := push_ok L c (by omega)
    obtain ⟨b', L', i1, i2, i3⟩ := calls_loop n f b1 L1 (m + 1) k3 (by omega) (by omega)
    refine ⟨b', L', ?_, i2.mono (by omega), by omega⟩
    rw [← i1]
    refine loopF_inl ?_
    have hd : decide (((f + 1 : Nat) : Int) > 0) = true := decide_eq_true (by omega)
    have w2 : IntKind.wrap .i64 (((f + 1 : Nat) : Int) - 1) = (f : Int) := by rw [wrap64 (by omega) (by omega)]; omega
    simp only [spec_l20Calls_l0, spec_l20Calls_l0K, hd, cond_true, e1, e2, B7, w2]

theorem drawCalls_ok {code : List Int} (hc : ∀ x ∈ code, 0 ≤ x ∧ x ≤ 255) : ∃ L, spec_DrawCallsValid code = some L ∧ L.length ≤ 100 := by
  obtain ⟨b, e0, hb⟩ := openE code hc
  obtain ⟨f, b1, e1, k1, k2, k3⟩ := pickE 6 b hb (by omega) (by omega)
  obtain ⟨n, rfl⟩ : ∃ n : Nat, f = (n : Int) := ⟨f.toNat, by omega⟩
  obtain ⟨b2, L, e2, h2, hL⟩ := calls_loop 2 n b1 [] 1 k3 (by omega) (by simp; omega)
  obtain ⟨o, b3, e3, h3⟩ := oddE 2 b2 h2 (by omega) (by omega)
  unfold spec_DrawCallsValid spec_DrawCallsValidK spec_l20Calls spec_l20CallsK
  simp only [List.length_nil] at hL
  simp only [e0, e1, e2, e3, B7]
  cases o with
  | false => exact ⟨L, rfl, by omega⟩
  | true =>
    obtain ⟨d, b4, e4, d1, d2, _⟩ := pickE 3 b3 h3 (by omega) (by omega)
    simp only [cond_true, e4, B7]
    obtain ⟨x, _, hx⟩ := getE [(-1 : Int), 16, 4] d1 (by simpa using d2) (fun v14 => chk ((L.length + 2) ≤ bigRow) <| some (b4, L ++ [v14, (4 : Int)]))
    rw [hx, chk_pos (by simp only [bigRow]; omega)]
    exact ⟨_, rfl, by simp; omega⟩

/-! ### threads run in the order in which they come -/

def lineQ (p : Nat) (l : List Int) : Rows := newQ.set p l

theorem line_facts {p : Nat} (hp : p < 8) {l : List Int} (hr : ∀ x ∈ l, 0 ≤ x ∧ x ≤ 15) (hn : l.Nodup) : qV (lineQ p l) = true ∧ (lineQ p l).flatten.Perm l ∧ rowQ (lineQ p l) p = l ∧ sumL (lineQ p l) = l.length := by
  have hpl : p < newQ.length := hp
  have hperm : (lineQ p l).flatten.Perm l := by
    have := set_perm hpl l
    rw [newQ_row, List.nil_append] at this
    have e : newQ.flatten = [] := rfl
    rw [e, List.append_nil] at this
    exact this
  refine ⟨?_, hperm, rowQ_set hpl l, hperm.length_eq⟩
  rw [qV_iff]
  exact ⟨by unfold lineQ; rw [List.length_set, newQ_len], fun x hx => hr x (hperm.mem_iff.1 hx), hperm.nodup_iff.2 hn⟩

theorem order_loop {p : Nat} (hp : p < 8) {L more : List Int} (hm : Int.tmod (more.length : Int) 8 = (p : Int)) (hl : L.length ≤ 16) (hr : ∀ x ∈ L, 0 ≤ x ∧ x ≤ 15) (hn : L.Nodup) : ∀ f k, k + f = L.length →
    loopF laws_FnQueueOrder_l0 (more, L, (k : Int), lineQ p (L.take k), ()) = some (.inl (L, lineQ p L, ()))
  | 0, k, hk => by
    obtain rfl : k = L.length := by omega
    refine loopF_inr ?_
    simp only [laws_FnQueueOrder_l0, laws_FnQueueOrder_l0K, dec_nlt, cond_false, List.take_length]
  | f + 1, k, hk => by
    have hkl : k < L.length := by omega
    have hg : L[k]? = some L[k] := List.getElem?_eq_getElem hkl
    have hrt : ∀ x ∈ L.take k, 0 ≤ x ∧ x ≤ 15 := fun x hx => hr x (List.mem_of_mem_take hx)
    have hnt : (L.take k).Nodup := (List.take_sublist k L).nodup hn
    obtain ⟨v1, v2, v3, v4⟩ := line_facts hp hrt hnt
    have hno : ∀ r ∈ lineQ p (L.take k), L[k] ∉ r := fun r h1 h2 => by
      have := v2.mem_iff.1 (List.mem_flatten.2 ⟨r, h1, h2⟩)
      obtain ⟨i, hi, e⟩ := List.mem_take_iff_getElem.1 this
      have := nodup_inj hn (by omega) hkl e
      omega
    have hx := hr _ (List.getElem_mem hkl)
    have hadd : addQ (lineQ p (L.take k)) L[k] (p : Int) = (true, lineQ p (L.take (k + 1))) := by
      unfold addQ addOk
      have g1 : rgt L[k] 0 15 = true := by simp only [rgt, Bool.and_eq_true, decide_eq_true_eq]; exact hx
      have g2 : rgt (p : Int) 0 7 = true := by simp only [rgt, Bool.and_eq_true, decide_eq_true_eq]; omega
      rw [v1, g1, g2, prio_no hno]
      simp only [Bool.and_self, cond_true, Int.toNat_natCast]
      rw [if_neg (by omega)]
      unfold addR
      rw [v3]
      unfold lineQ
      rw [List.set_set, List.take_add_one, hg]
      rfl
    have hlen : (lineQ p (L.take k)).length = 8 := (qV_iff.1 v1).1
    rw [← order_loop hp hm hl hr hn f (k + 1) (by omega)]
    refine loopF_inl ?_
    have htl : (L.take k).length ≤ 16 := by simp; omega
    simp only [laws_FnQueueOrder_l0, laws_FnQueueOrder_l0K, dec_lt hg, cond_true, nnK_nat, getK_some hg, hm, impl_ReadyAdd_ok (lineQ p (L.take k)) _ _ (by omega), hadd, B7, Bool.not_true, cond_false, wrapS (show k < 4611686018427387904 by omega)]

theorem FnQueueOrder_law (code more : List Int) (h : WfD (.cons (.sl (.int .u8)) (.cons (.sl (.int .u8)) .nil)) (code, more, ())) : laws_FnQueueOrder code more = some true := by
  have hc : ∀ x ∈ code, 0 ≤ x ∧ x ≤ 255 := fun x hx => h.1.2 x hx
  unfold laws_FnQueueOrder laws_FnQueueOrderK
  by_cases hl : ((code.length : Int) > 1048576)
  · simp [hl]
  · by_cases hl2 : ((more.length : Int) > 1048576)
    · simp [hl, hl2]
    · obtain ⟨L, hd, hL⟩ := drawCalls_ok hc
      simp only [hl, hl2, decide_false, Bool.not_false, cond_true, cond_false, hd, B7, impl_CallsValid_ok L (by omega), spec_CallsValid_ok L (by omega), beq_self_eq_true, Bool.not_true]
      cases hv : callsV L with
      | false => simp [alive_ok]
      | true =>
        simp only [Bool.not_true, Bool.not_false, cond_true]
        by_cases hz : L.length = 0
        · rw [hz]; simp [alive_ok]
        · have hz' : ((L.length : Int) == 0) = false := by simpa using hz
          rw [hz']
          unfold callsV at hv
          simp only [Bool.and_eq_true, decide_eq_true_eq, dif_iff] at hv
          obtain ⟨hv1, hv2, hv3⟩ := hv
          have p0 : ∃ p : Nat, p < 8 ∧ Int.tmod (more.length : Int) 8 = (p : Int) := by
            refine ⟨(Int.tmod (more.length : Int) 8).toNat, ?_, ?_⟩ <;> (rw [Int.tmod_eq_emod_of_nonneg (by omega)]; omega)
          obtain ⟨p, hp, hm⟩ := p0
          have hloop := order_loop hp hm hv1 hv2 hv3 L.length 0 (by omega)
          have e0 : lineQ p (L.take 0) = newQ := by
            unfold lineQ
            rw [List.take_zero]
            have := set_rowQ (q := newQ) (j := p) hp
            rwa [newQ_row] at this
          have e1 : ((0 : Nat) : Int) = 0 := rfl
          rw [e0, e1] at hloop
          have en : impl_NewQueues = some newQ := rfl
          obtain ⟨v1, v2, v3, v4⟩ := line_facts hp hv2 hv3
          have h8 := (qV_iff.1 v1).1
          have htop : isTop (lineQ p L) p := ⟨hp, by rw [v3]; omega, fun i a b => by unfold lineQ; rw [rowQ_set_ne (by omega), newQ_row]⟩
          have hw : IntKind.wrap .i64 (2 * (L.length : Int)) = ((L.length + L.length : Nat) : Int) := by rw [wrap64 (by omega) (by omega)]; omega
          have hruns : runsQ (lineQ p L) ((L.length + L.length : Nat) : Int) = L ++ L := by
            have hro : runOk (lineQ p L) ((L.length + L.length : Nat) : Int) = true := by
              unfold runOk
              have : rgt ((L.length + L.length : Nat) : Int) 0 200 = true := by simp only [rgt, Bool.and_eq_true, decide_eq_true_eq]; omega
              rw [v1, this]; rfl
            unfold runsQ
            rw [hro, cond_true, Int.toNat_natCast, runQ_top h8 htop, v3, cyc_add, Nat.zero_add, cyc_full]
            have := cyc_round L L.length 0
            rw [Nat.zero_add] at this
            rw [this, cyc_full]
          have hsz : (lineQ p L).length + sumL (lineQ p L) ≤ 1048577 := by omega
          simp only [cond_false, en, B7, hloop, endK, hw, impl_RunTurns_ok _ _ hsz, spec_RunTurns_ok _ _ hsz, hruns]
          rw [chk_pos (by simp only [bigRow]; omega), chk_pos (by simp only [bigRow]; omega)]
          simp only [sameInts_ok (L ++ L) (L ++ L) (by simp; omega), decide_true, B7, cond_true]

end Go.Ev
