/-
  Rows of waiters; endpoints.
-/
import Derived.Test.YtabemkafgnhddaaDefs
import Derived.Test.YtabemkafgnhddaaEv4
namespace Go.Ev
set_option linter.unusedVariables false
set_option linter.unusedSimpArgs false
set_option maxRecDepth 100000
set_option synthInstance.maxSize 2000
set_option synthInstance.maxHeartbeats 400000
/-- in a range -/
theorem in_ok (n lo hi : Int) : impl_in n lo hi = some (decide (lo ≤ n) && decide (n ≤ hi)) := by
  unfold impl_in impl_inK
  by_cases h : n ≥ lo
  · have h' : lo ≤ n := h
    simp [h, h']
  · have h' : ¬ lo ≤ n := h
    simp [h, h']

theorem l1In_ok (n lo hi : Int) : spec_l1In n lo hi = some (decide (lo ≤ n) && decide (n ≤ hi)) := by
  unfold spec_l1In spec_l1InK
  by_cases h : n ≥ lo
  · have h' : lo ≤ n := h
    simp [h, h']
  · have h' : ¬ lo ≤ n := h
    simp [h, h']


/-- in a range -/
def rgt (a lo hi : Int) : Bool := decide (lo ≤ a) && decide (a ≤ hi)


/-- the first element that is wanted -/
theorem goL_find {α τ : Type} (p : α → Bool) (G : Nat → τ) (N : τ) : ∀ (r : List α) (i : Nat), goL (fun i x (_ : Unit) => bif p x then .inr (G i) else .inl ()) (fun _ => N) r i () = match r.findIdx? p with | some j => G (i + j) | none => N
  | [], _ => rfl
  | x :: r, i => by
    simp only [goL, List.findIdx?_cons]
    cases h : p x with
    | true => simp
    | false =>
      simp only [cond_false, Bool.false_eq_true, if_false]
      rw [goL_find p G N r (i + 1)]
      cases r.findIdx? p with
      | none => rfl
      | some j => simp only [Option.map_some]; congr 1; omega

theorem take_over {α : Type} (xs ys : List α) {n : Nat} (h : n ≤ xs.length) : (over xs n ys).take n = xs.take n := by
  unfold over
  rw [List.append_assoc, List.take_append_of_le_length (by simp; omega), List.take_take, Nat.min_self]

theorem take_over' {α : Type} (xs ys : List α) {n : Nat} (h : n ≤ xs.length) : (over xs n ys).take (n + ys.length) = xs.take n ++ ys := by
  unfold over
  rw [List.take_append_of_le_length (by simp; omega), List.take_of_length_le (by simp; omega)]

theorem over_len {α : Type} (xs ys : List α) (n : Nat) (h : n + ys.length ≤ xs.length) : (over xs n ys).length = xs.length := by
  simp [over]; omega

theorem toWaiter_ok (a : DWaiter) : laws_toWaiter a = some a := rfl

theorem eqWaiter_ok (a b : DWaiter) : laws_eqWaiter a b = some (decide (a = b)) := by
  obtain ⟨a0, a1, a2, a3, ⟨⟩⟩ := a
  obtain ⟨b0, b1, b2, b3, ⟨⟩⟩ := b
  unfold laws_eqWaiter laws_eqWaiterK
  by_cases h0 : a0 = b0 <;> by_cases h1 : a1 = b1 <;> by_cases h2 : a2 = b2 <;> by_cases h3 : a3 = b3 <;> simp [h0, h1, h2, h3, bneI]

theorem toWaiterS_ok (xs : List DWaiter) (h : xs.length ≤ 1048577) : laws_toWaiterS xs = some xs := by
  have hl : loopF laws_toWaiterS_l0 (xs, 0, List.replicate xs.length (0, 0, 0, 0, ()), ()) = some (xs.map id, ()) := by
    refine loop_map xs id (fun i s => (xs, (i : Int), s, ())) (fun s => (s, ())) _ (by simp) (fun i x s hs hx => ?_) (fun s hs => ?_) rfl
    · have hl := get_lt hx
      simp only [laws_toWaiterS_l0, laws_toWaiterS_l0K, dec_lt hx, cond_true, nnK_nat, getK_some hx, toWaiter_ok, B7]
      rw [chk_pos (by omega), getK_lt (by omega), wrapS (by omega)]
      rfl
    · simp only [laws_toWaiterS_l0, laws_toWaiterS_l0K, dec_nlt, cond_false]
  unfold laws_toWaiterS laws_toWaiterSK
  rw [chk_pos (by simp [bigRow]; omega), hl]
  simp

theorem eqWaiterS_ok (xs ys : List DWaiter) (h : xs.length ≤ 1048577) : laws_eqWaiterS xs ys = some (decide (xs = ys)) := by
  unfold laws_eqWaiterS laws_eqWaiterSK
  by_cases hl : xs.length = ys.length
  · have e : ((xs.length : Int) != (ys.length : Int)) = false := by simp [hl]
    have hq : loopF laws_eqWaiterS_l0 (xs, ys, 0, ()) = some (if xs = ys then .inl () else .inr (false, ())) := by
      refine loop_eq2 xs ys (fun i => (xs, ys, (i : Int), ())) _ _ hl (fun i x y hx hy => ?_) ?_ rfl
      · have hl := get_lt hx
        simp only [laws_eqWaiterS_l0, laws_eqWaiterS_l0K, dec_lt hx, cond_true, nnK_nat, getK_some hx, getK_some hy, eqWaiter_ok, B7, wrapS (show i < 4611686018427387904 by omega)]
        by_cases e : x = y
        · simp [e]
        · have : decide (x = y) = false := decide_eq_false e
          simp [e, this]
      · simp only [laws_eqWaiterS_l0, laws_eqWaiterS_l0K, dec_nlt, cond_false]
    rw [e, cond_false, hq]
    by_cases h : xs = ys <;> simp [h, endK]
  · have e : ((xs.length : Int) != (ys.length : Int)) = true := by simp; omega
    rw [e, cond_true]
    have : ¬ xs = ys := fun e => hl (by rw [e])
    simp [this]

def EWaiter (k : Int) : DWaiter := (k, k + 1, k + 1 + 1, k + 1 + 1 + 1, ())

theorem markWaiterS_ok (xs : List DWaiter) (k : Int) (hk : 0 ≤ k) (hK : k + 4 * (xs.length : Int) ≤ 1000000000000) : laws_markWaiterS k xs = some (k + 4 * (xs.length : Int), marks EWaiter 4 xs.length k) := by
  have : loopF laws_markWaiterS_l0 (k, 0, xs, ()) = some (k + (4 : Nat) * xs.length, marks EWaiter 4 xs.length k, ()) := by
    refine loop_mark EWaiter 4 (fun i k s => (k, (i : Int), s, ())) (fun k s => (k, s, ())) xs k 1000000000000 hk hK (fun i k s hk hkK hs hi => ?_) (fun k s hs => ?_) rfl
    · have hi' : i < s.length := by omega
      have hd : decide ((i : Int) < (s.length : Int)) = true := by simp; omega
      have w1 : IntKind.wrap .i64 (k + 1) = k + 1 := wrap64 (by omega) (by omega)
      have w2 : IntKind.wrap .i64 (k + 2) = k + 2 := wrap64 (by omega) (by omega)
      have w3 : IntKind.wrap .i64 (k + 3) = k + 3 := wrap64 (by omega) (by omega)
      have w4 : IntKind.wrap .i64 (k + 4) = k + 4 := wrap64 (by omega) (by omega)
      have ws : IntKind.wrap .i64 ((i : Int) + 1) = (i : Int) + 1 := wrap64 (by omega) (by omega)
      simp [laws_markWaiterS_l0, laws_markWaiterS_l0K, hd, nnK_nat, chk, getK, hi', w1, w2, w3, w4, ws, EWaiter, Int.add_assoc]
    · have hd : decide ((xs.length : Int) < (s.length : Int)) = false := by simp; omega
      simp only [laws_markWaiterS_l0, laws_markWaiterS_l0K, hd, cond_false]
  unfold laws_markWaiterS laws_markWaiterSK
  rw [this]
  rfl

theorem heldWaiterS_ok (n : Nat) (k : Int) (hk : 0 ≤ k) (hK : k + 4 * (n : Int) ≤ 1000000000000) (hn : n ≤ 1048577) : laws_heldWaiterS (marks EWaiter 4 n k) k = some (k + 4 * (n : Int)) := by
  have : loopF laws_heldWaiterS_l0 (marks EWaiter 4 n k, k, 0, ()) = some (.inl (k + (4 : Nat) * n, ())) := by
    refine loop_held (nxt := laws_heldWaiterS_l0) EWaiter 4 n k (fun i k' => (marks EWaiter 4 n k, k', (i : Int), ())) (fun k => Sum.inl (k, ())) 1000000000000 hk hK (fun i k' hk hkK hx => ?_) (fun k => ?_) rfl
    · have hl := get_lt hx
      rw [marks_length] at hl
      have w1 : IntKind.wrap .i64 (k' + 1) = k' + 1 := wrap64 (by omega) (by omega)
      have w2 : IntKind.wrap .i64 (k' + 2) = k' + 2 := wrap64 (by omega) (by omega)
      have w3 : IntKind.wrap .i64 (k' + 3) = k' + 3 := wrap64 (by omega) (by omega)
      have w4 : IntKind.wrap .i64 (k' + 4) = k' + 4 := wrap64 (by omega) (by omega)
      have ws : IntKind.wrap .i64 ((i : Int) + 1) = (i : Int) + 1 := wrap64 (by omega) (by omega)
      simp [laws_heldWaiterS_l0, laws_heldWaiterS_l0K, get_lt hx, nnK_nat, getK_some hx, w1, w2, w3, w4, ws, EWaiter, bneI, Int.add_assoc]
    · simp [laws_heldWaiterS_l0, laws_heldWaiterS_l0K, marks_length]
  unfold laws_heldWaiterS laws_heldWaiterSK
  rw [this]
  rfl



def noneB (xs : List DWaiter) (i : Nat) (n : Int) : Bool := (xs.take i).all fun x => !decide (x.1 = n)
def wOk (e : DEndpoint) (i : Nat) (w : DWaiter) : Bool :=
  (rgt w.1 0 15 && (rgt w.2.1 0 7 && rgt w.2.2.1 0 999)) && ((decide (i = 0) || !decide ((e.2.1.getD (i - 1) (0, 0, 0, 0, ())).2.1 < w.2.1)) && ((e.1 || (decide (w.2.2.1 = 0) && decide (w.2.2.2.1 = 0))) && noneB e.2.1 i w.1))
def validE (e : DEndpoint) : Bool := e.2.1.zipIdx.all (fun p => wOk e p.2 p.1) && (decide (0 < e.2.1.length) || !e.1)

theorem impl_may_ok (w : DWaiter) : impl_Waiter_may w = some (rgt w.1 0 15 && (rgt w.2.1 0 7 && rgt w.2.2.1 0 999)) := by
  unfold impl_Waiter_may impl_Waiter_mayK impl_isThread impl_isThreadK impl_isPrio impl_isPrioK
  simp only [in_ok, B7, rgt]
  generalize (decide (0 ≤ w.1) && decide (w.1 ≤ 15)) = b1
  generalize (decide (0 ≤ w.2.1) && decide (w.2.1 ≤ 7)) = b2
  cases b1 <;> cases b2 <;> rfl

def ixOf (xs : List DWaiter) (n : Int) : Int := match xs.findIdx? (fun x => decide (x.1 = n)) with | some j => (j : Int) | none => -1

theorem at_ok (e : DEndpoint) (n : Int) (h : e.2.1.length ≤ 1048577) : impl_Endpoint_at e n = some (ixOf e.2.1 n) := by
  unfold impl_Endpoint_at impl_Endpoint_atK slices_IndexFunc_Waiter slices_IndexFunc_WaiterK ixOf
  have : loopF slices_IndexFunc_Waiter_l0 (e.2.1, n, (e.2.1.length : Int), 0, ()) = some _ := loop_list0 (nxt := slices_IndexFunc_Waiter_l0) e.2.1 (fun i (_ : Unit) => (e.2.1, n, (e.2.1.length : Int), (i : Int), ())) (fun i x _ => bif decide (x.1 = n) then .inr (.inr ((i : Int), ())) else .inl ()) (fun _ => .inl ()) ()
    (fun i x s hx => ?_) (fun s => ?_) rfl
  · rw [this, goL_find (fun x : DWaiter => decide (x.1 = n)) (fun i => (.inr ((i : Int), ()) : Unit ⊕ (Int × Unit))) (.inl ())]
    cases e.2.1.findIdx? (fun x => decide (x.1 = n)) <;> simp [endK]
  · have hl := get_lt hx
    simp only [slices_IndexFunc_Waiter_l0, slices_IndexFunc_Waiter_l0K, dec_lt hx, cond_true, nnK_nat, getK_some hx, impl_Endpoint_at_c1, impl_Endpoint_at_c1K, B7, wrapS (show i < 4611686018427387904 by omega), goTo_if, goTo_l, goTo_r, beqI]
    cases decide (x.1 = n) <;> rfl
  · simp only [slices_IndexFunc_Waiter_l0, slices_IndexFunc_Waiter_l0K, dec_nlt, cond_false]

theorem findIdx?_iff {xs : List DWaiter} {i : Nat} {x : DWaiter} (hx : xs[i]? = some x) : ixOf xs x.1 = (i : Int) ↔ noneB xs i x.1 = true := by
  unfold ixOf noneB
  have hl := get_lt hx
  have hxi : xs[i] = x := (List.getElem?_eq_some_iff.1 hx).2
  rw [List.all_eq_true]
  constructor
  · intro h y hy
    cases hf : xs.findIdx? (fun y => decide (y.1 = x.1)) with
    | none => rw [hf] at h; simp only at h; omega
    | some j =>
      rw [hf] at h
      simp only at h
      obtain rfl : j = i := by omega
      obtain ⟨_, _, h3⟩ := List.findIdx?_eq_some_iff_getElem.1 hf
      obtain ⟨m, hm, rfl⟩ := List.mem_take_iff_getElem.1 hy
      have := h3 m (by omega)
      simpa using this
  · intro h
    have : xs.findIdx? (fun y => decide (y.1 = x.1)) = some i := List.findIdx?_eq_some_iff_getElem.2 ⟨hl, by simp [hxi], fun j hj => by
      have := h (xs[j]'(by omega)) (List.mem_take_iff_getElem.2 ⟨j, by omega, rfl⟩)
      simpa using this⟩
    rw [this]

theorem getD_of {xs : List DWaiter} {i : Nat} (h : i < xs.length) : xs[i]? = some (xs.getD i (0, 0, 0, 0, ())) := by
  simp [List.getD, h]

theorem impl_EndpointValid_ok (e : DEndpoint) (h : e.2.1.length ≤ 1048577) : impl_EndpointValid e = some (validE e) := by
  unfold impl_EndpointValid impl_EndpointValidK validE
  have : loopF impl_EndpointValid_l0 (e, e.2.1, (e.2.1.length : Int), 0, ()) = some _ := loop_list0 (nxt := impl_EndpointValid_l0) e.2.1 (fun i (_ : Unit) => (e, e.2.1, (e.2.1.length : Int), (i : Int), ())) (fun i x _ => bif wOk e i x then .inl () else .inr (.inr (false, ()))) (fun _ => .inl (e, ())) ()
    (fun i x s hx => ?_) (fun s => ?_) rfl
  · show (loopF impl_EndpointValid_l0 (e, e.2.1, (e.2.1.length : Int), 0, ())).bind _ = _
    rw [this, goL_all (fun i x => wOk e i x)]
    cases (e.2.1.zipIdx.all fun q => wOk e q.2 q.1) with
    | false => simp [endK]
    | true =>
      simp only [cond_true, B7, endK, Bool.not_not, Bool.true_and]
      cases e.1 <;> simp
  · have hl := get_lt hx
    simp only [impl_EndpointValid_l0, impl_EndpointValid_l0K, dec_lt hx, cond_true, nnK_nat, getK_some hx, B7, wrapS (show i < 4611686018427387904 by omega), goTo_if, goTo_l, goTo_r, at_ok e _ h]
    have em : (x.1, x.2.1, x.2.2.1, x.2.2.2.1, ()) = x := rfl
    rw [em, impl_may_ok]
    simp only [B7, wOk, bneI]
    have hi := findIdx?_iff hx
    have hb : decide (ixOf e.2.1 x.1 = (i : Int)) = noneB e.2.1 i x.1 := by
      rw [Bool.eq_iff_iff, decide_eq_true_iff]; exact hi
    rw [hb]
    generalize (rgt x.1 0 15 && (rgt x.2.1 0 7 && rgt x.2.2.1 0 999)) = b1
    generalize noneB e.2.1 i x.1 = b2
    have key : ∀ (K1 K2 : Option ((DEndpoint × List DWaiter × Int × Int × Unit) ⊕ ((DEndpoint × Unit) ⊕ (Bool × Unit)))), (bif decide ((i : Int) > 0) then nnK (IntKind.wrap .i64 ((i : Int) - 1)) fun i10 => getK e.2.1 i10 fun v11 => bif (!decide (x.2.1 > v11.2.1)) then K1 else K2 else K1) =
        bif (decide (i = 0) || !decide ((e.2.1.getD (i - 1) (0, 0, 0, 0, ())).2.1 < x.2.1)) then K1 else K2 := fun K1 K2 => by
      cases i with
      | zero => rfl
      | succ i =>
        have e1 : decide (((i + 1 : Nat) : Int) > 0) = true := by simp
        have e2 : IntKind.wrap .i64 (((i + 1 : Nat) : Int) - 1) = (i : Int) := by rw [wrap64 (by omega) (by omega)]; omega
        rw [e1, e2]
        simp only [cond_true, nnK_nat, getK_some (getD_of (show i < e.2.1.length by omega)), Nat.add_sub_cancel]
        have e3 : decide (i + 1 = 0) = false := by simp
        rw [e3, Bool.false_or]
    rw [key]
    generalize (decide (i = 0) || !decide ((e.2.1.getD (i - 1) (0, 0, 0, 0, ())).2.1 < x.2.1)) = b3
    generalize decide (x.2.2.1 = 0) = b4
    generalize decide (x.2.2.2.1 = 0) = b5
    generalize e.1 = b6
    cases b1 <;> cases b2 <;> cases b3 <;> cases b4 <;> cases b5 <;> cases b6 <;> rfl
  · simp only [impl_EndpointValid_l0, impl_EndpointValid_l0K, dec_nlt, cond_false]

theorem inner_ok (e : DEndpoint) (i : Nat) (x : DWaiter) (hi : i ≤ e.2.1.length) (h : e.2.1.length ≤ 1048577) : loopF spec_EndpointValid_l2 (e, (i : Int), 0, x, ()) = some (bif noneB e.2.1 i x.1 then .inl (e, (i : Int), ()) else .inr (false, ())) := by
  have hlen : (e.2.1.take i).length = i := by simp; omega
  have := loop_list0 (nxt := spec_EndpointValid_l2) (e.2.1.take i) (fun j (_ : Unit) => (e, (i : Int), (j : Int), x, ())) (fun _ y _ => bif !decide (y.1 = x.1) then .inl () else .inr (.inr (false, ()))) (fun _ => .inl (e, (i : Int), ())) ()
    (fun j y s hy => ?_) (fun s => ?_) (st := (e, (i : Int), 0, x, ())) rfl
  · rw [this, goL_all (fun _ (y : DWaiter) => !decide (y.1 = x.1))]
    have : ((e.2.1.take i).zipIdx.all fun q => !decide (q.1.1 = x.1)) = noneB e.2.1 i x.1 := by
      unfold noneB
      rw [Bool.eq_iff_iff, all_zip0 (p := fun _ (y : DWaiter) => !decide (y.1 = x.1)), List.all_eq_true]
      exact ⟨fun h x hx => by obtain ⟨i, hi⟩ := List.getElem?_of_mem hx; exact h i x hi, fun h i x hx => h x (List.mem_of_getElem? hx)⟩
    rw [this]
  · have hj := get_lt hy
    rw [hlen] at hj
    have hy' : e.2.1[j]? = some y := by rw [List.getElem?_take, if_pos hj] at hy; exact hy
    have hd : decide ((j : Int) < (i : Int)) = true := by simp; omega
    simp only [spec_EndpointValid_l2, spec_EndpointValid_l2K, hd, cond_true, nnK_nat, getK_some hy', wrapS (show j < 4611686018427387904 by omega), goTo_if, goTo_l, goTo_r, beqI]
    cases decide (y.1 = x.1) <;> rfl
  · rw [hlen]
    simp only [spec_EndpointValid_l2, spec_EndpointValid_l2K, dec_nlt, cond_false]

theorem spec_EndpointValid_ok (e : DEndpoint) (h : e.2.1.length ≤ 1048577) : spec_EndpointValid e = some (validE e) := by
  unfold spec_EndpointValid spec_EndpointValidK validE
  have : loopF spec_EndpointValid_l0 (e, 0, ()) = some _ := loop_list0 (nxt := spec_EndpointValid_l0) e.2.1 (fun i (_ : Unit) => (e, (i : Int), ())) (fun i x _ => bif wOk e i x then .inl () else .inr (.inr (false, ()))) (fun _ => .inl (e, ())) ()
    (fun i x s hx => ?_) (fun s => ?_) rfl
  · show (loopF spec_EndpointValid_l0 (e, 0, ())).bind _ = _
    rw [this, goL_all (fun i x => wOk e i x)]
    cases (e.2.1.zipIdx.all fun q => wOk e q.2 q.1) with
    | false => simp [endK]
    | true =>
      simp only [cond_true, B7, endK, Bool.true_and]
      by_cases h0 : 0 < e.2.1.length
      · have : ((e.2.1.length : Int) > 0) := by omega
        simp [h0, this]
      · have : ¬ ((e.2.1.length : Int) > 0) := by omega
        simp [h0, this]
  · have hl := get_lt hx
    have em : (x.1, x.2.1, x.2.2.1, x.2.2.2.1, ()) = x := rfl
    simp only [spec_EndpointValid_l0, spec_EndpointValid_l0K, dec_lt hx, cond_true, nnK_nat, getK_some hx, B7, goTo_if, goTo_l, goTo_r, em, inner_ok e i x (by omega) h, l1In_ok]
    simp only [wOk, bneI, rgt]
    generalize noneB e.2.1 i x.1 = b2
    have key : ∀ (K1 K2 : Option ((DEndpoint × Int × Unit) ⊕ ((DEndpoint × Unit) ⊕ (Bool × Unit)))), (bif decide ((i : Int) > 0) then nnK (IntKind.wrap .i64 ((i : Int) - 1)) fun i10 => getK e.2.1 i10 fun v11 => bif (!decide (v11.2.1 < x.2.1)) then K1 else K2 else K1) =
        bif (decide (i = 0) || !decide ((e.2.1.getD (i - 1) (0, 0, 0, 0, ())).2.1 < x.2.1)) then K1 else K2 := fun K1 K2 => by
      cases i with
      | zero => rfl
      | succ i =>
        have e1 : decide (((i + 1 : Nat) : Int) > 0) = true := by simp
        have e2 : IntKind.wrap .i64 (((i + 1 : Nat) : Int) - 1) = (i : Int) := by rw [wrap64 (by omega) (by omega)]; omega
        rw [e1, e2]
        simp only [cond_true, nnK_nat, getK_some (getD_of (show i < e.2.1.length by omega)), Nat.add_sub_cancel]
        have e3 : decide (i + 1 = 0) = false := by simp
        rw [e3, Bool.false_or]
    rw [key]
    generalize (decide (i = 0) || !decide ((e.2.1.getD (i - 1) (0, 0, 0, 0, ())).2.1 < x.2.1)) = b3
    generalize decide (x.2.2.1 = 0) = b4
    generalize decide (x.2.2.2.1 = 0) = b5
    generalize (decide (0 ≤ x.1) && decide (x.1 ≤ 15)) = c1
    generalize (decide (0 ≤ x.2.1) && decide (x.2.1 ≤ 7)) = c2
    generalize (decide (0 ≤ x.2.2.1) && decide (x.2.2.1 ≤ 999)) = c3
    generalize hb6 : e.1 = b6
    cases c1 <;> (try rfl) <;> cases c2 <;> (try rfl) <;> cases c3 <;> (try rfl) <;> cases b3 <;> (try rfl) <;> cases b4 <;> cases b5 <;> cases b6 <;> (try rfl) <;> cases b2 <;> simp [endK, wrapS (show i < 4611686018427387904 by omega)]
  · simp only [spec_EndpointValid_l0, spec_EndpointValid_l0K, dec_nlt, cond_false]

theorem szEndpoint_ok (e : DEndpoint) (h : e.2.1.length ≤ 9223372036854775807) : laws_szEndpoint e 1048576 = some (if e.2.1.length ≤ 1048576 then 1048576 - (e.2.1.length : Int) else -1) := by
  unfold laws_szEndpoint laws_szEndpointK laws_szWaiterS laws_szWaiterSK
  rw [wrap64 (n := 1048576 - (e.2.1.length : Int)) (by omega) (by omega)]
  by_cases h : e.2.1.length ≤ 1048576
  · have : ¬ (1048576 - (e.2.1.length : Int) < 0) := by omega
    simp [h, this]
  · have : (1048576 - (e.2.1.length : Int) < 0) := by omega
    simp [h, this]

theorem toEndpoint_ok (e : DEndpoint) (h : e.2.1.length ≤ 1048577) : laws_toEndpoint e = some (e.1, e.2.1) := by
  unfold laws_toEndpoint laws_toEndpointK
  rw [toWaiterS_ok _ h]
  rfl

theorem eqEndpoint_ok (a b : DEndpoint) (h : a.2.1.length ≤ 1048577) : laws_eqEndpoint a b = some (decide (a = b)) := by
  obtain ⟨a0, a1, ⟨⟩⟩ := a
  obtain ⟨b0, b1, ⟨⟩⟩ := b
  unfold laws_eqEndpoint laws_eqEndpointK
  rw [eqWaiterS_ok _ _ h]
  by_cases h0 : a0 = b0 <;> by_cases h1 : a1 = b1 <;> simp [h0, h1, beqB]

theorem FnExactEndpointValid_law (e : DEndpoint) (h : WfD (.cons tEndpoint .nil) (e, ())) : laws_FnExactEndpointValid e = some true := by
  have hl : e.2.1.length ≤ 9223372036854775807 := by have := h.1.2.1.1; simp only [maxLen] at this; omega
  have em : (e.1, e.2.1, ()) = e := rfl
  unfold laws_FnExactEndpointValid laws_FnExactEndpointValidK
  rw [em, szEndpoint_ok e hl]
  by_cases hs : e.2.1.length ≤ 1048576
  · have h0 : ¬ (1048576 - (e.2.1.length : Int) < 0) := by omega
    simp [hs, h0, toEndpoint_ok e (by omega), impl_EndpointValid_ok e (by omega), spec_EndpointValid_ok e (by omega), eqEndpoint_ok e e (by omega)]
  · simp [hs]

end Go.Ev
