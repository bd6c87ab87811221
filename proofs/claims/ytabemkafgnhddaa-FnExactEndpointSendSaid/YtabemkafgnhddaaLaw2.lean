/-
  Cancelling.
-/
import Derived.Test.YtabemkafgnhddaaLaw1
namespace Go.Ev
set_option linter.unusedVariables false
set_option linter.unusedSimpArgs false
set_option maxRecDepth 100000
set_option synthInstance.maxSize 2000
set_option synthInstance.maxHeartbeats 400000

/-! ### cancelling -/

def cancE (e : DEndpoint) (n : Int) : Bool × Bool × List DWaiter :=
  bif validE e then (e.1 && decide (0 < (e.2.1.filter fun x => !decide (x.1 = n)).length), decide ((e.2.1.filter fun x => !decide (x.1 = n)).length < e.2.1.length), e.2.1.filter fun x => !decide (x.1 = n)) else (false, false, [])

theorem foldl_filter {α : Type} (p : α → Bool) : ∀ (r s : List α), r.foldl (fun s x => bif p x then s ++ [x] else s) s = s ++ r.filter p
  | [], s => by simp
  | x :: r, s => by
    rw [List.foldl_cons, foldl_filter p r, List.filter_cons]
    cases p x <;> simp

theorem spec_EndpointCancel_ok (e : DEndpoint) (n : Int) (h : e.2.1.length ≤ 1048577) : spec_EndpointCancel e n = some (cancE e n) := by
  unfold spec_EndpointCancel spec_EndpointCancelK cancE
  have em : (e.1, e.2.1, ()) = e := rfl
  rw [em, spec_EndpointValid_ok e h]
  cases hv : validE e with
  | false => rfl
  | true =>
    have := loop_list1 (nxt := spec_EndpointCancel_l0) e.2.1 (fun i s => (n, e, (i : Int), false, false, [], s, ())) (fun _ x s => .inl (bif !decide (x.1 = n) then s ++ [x] else s)) (fun s => (e, false, false, [], s, ())) (fun i s => s.length ≤ i) []
      (fun i x s hs hx => ?_) (fun i x s s' hs hx e => ?_) (fun s _ => ?_) (by simp) (st := (n, e, 0, false, false, [], [], ())) rfl
    · simp only [B7, Bool.not_true, cond_false, cond_true]
      rw [this, goL_fold (fun s (x : DWaiter) => bif !decide (x.1 = n) then s ++ [x] else s), foldl_filter (fun x : DWaiter => !decide (x.1 = n))]
      simp only [B7, List.nil_append]
      cases e.1 <;> simp
    · have hl := get_lt hx
      simp only [spec_EndpointCancel_l0, spec_EndpointCancel_l0K, dec_lt hx, cond_true, nnK_nat, getK_some hx, wrapS (show i < 4611686018427387904 by omega), goTo_l, bneI]
      cases decide (x.1 = n) with
      | false =>
        simp only [Bool.not_false, cond_true]
        rw [chk_pos (by simp only [bigRow]; omega)]
      | true => rfl
    · cases e
      cases decide (x.1 = n) <;> simp <;> omega
    · simp only [spec_EndpointCancel_l0, spec_EndpointCancel_l0K, dec_nlt, cond_false]

theorem Clone_Waiter_ok (xs : List DWaiter) (h : xs.length ≤ 1048577) : slices_Clone_Waiter xs = some xs := by
  unfold slices_Clone_Waiter slices_Clone_WaiterK
  rw [chk_pos (by simp only [bigRow]; omega)]

theorem Clip_Waiter_ok (b : List DWaiter) : slices_Clip_Waiter b = some b := by
  unfold slices_Clip_Waiter slices_Clip_WaiterK
  rw [chk_pos (by omega), chk_pos (by omega)]

theorem clone_Waiter_ok (xs : List DWaiter) (h : xs.length ≤ 1048577) : impl_clone_Waiter xs = some xs := by
  unfold impl_clone_Waiter impl_clone_WaiterK
  simp [Clone_Waiter_ok xs h, Clip_Waiter_ok]

theorem Delete_Waiter_ok (xs : List DWaiter) (k : Nat) (hk : k < xs.length) : ∃ r, slices_Delete_Waiter (k : Int) ((k + 1 : Nat) : Int) xs = some r ∧ (r.2.drop 0).take r.1 = xs.take k ++ xs.drop (k + 1) := by
  have hy : ((xs.drop (k + 1)).take (xs.length - (k + 1))) = xs.drop (k + 1) := List.take_of_length_le (by simp)
  unfold slices_Delete_Waiter slices_Delete_WaiterK
  have e : ((k : Int) == ((k + 1 : Nat) : Int)) = false := by simp; omega
  simp only [nnK_nat, e, cond_false, hy, Nat.zero_add]
  have hl : (xs.drop (k + 1)).length = xs.length - (k + 1) := by simp
  have ho : (over xs k (xs.drop (k + 1))).length = xs.length := over_len _ _ _ (by rw [hl]; omega)
  rw [chk_pos (by omega), chk_pos (by omega), chk_pos (by omega), chk_pos (by rw [hl]; omega), chk_pos (by rw [hl, ho]; omega)]
  refine ⟨_, rfl, ?_⟩
  simp only [List.drop_zero]
  rw [take_over _ _ (by rw [ho, hl]; omega), take_over' _ _ (by omega)]

theorem filter_out {xs : List DWaiter} {k : Nat} {x : DWaiter} (hx : xs[k]? = some x) (h1 : ∀ j y, j ≠ k → xs[j]? = some y → y.1 ≠ x.1) : (xs.filter fun y => !decide (y.1 = x.1)) = xs.take k ++ xs.drop (k + 1) := by
  have hl := get_lt hx
  have hxk : xs[k] = x := (List.getElem?_eq_some_iff.1 hx).2
  have e : xs = xs.take k ++ x :: xs.drop (k + 1) := by
    rw [← hxk, ← List.drop_eq_getElem_cons hl, List.take_append_drop]
  have ha : (xs.take k).filter (fun y => !decide (y.1 = x.1)) = xs.take k := List.filter_eq_self.2 fun y hy => by
    obtain ⟨m, hm, rfl⟩ := List.mem_take_iff_getElem.1 hy
    have := h1 m xs[m] (by omega) (List.getElem?_eq_getElem (by omega))
    simpa using this
  have hb : (xs.drop (k + 1)).filter (fun y => !decide (y.1 = x.1)) = xs.drop (k + 1) := List.filter_eq_self.2 fun y hy => by
    obtain ⟨m, hm⟩ := List.getElem?_of_mem hy
    rw [List.getElem?_drop] at hm
    have := h1 (k + 1 + m) y (by omega) hm
    simpa using this
  conv => lhs; rw [e]
  rw [List.filter_append, ha, List.filter_cons, hb]
  simp

theorem valid_distinct {e : DEndpoint} (hv : validE e = true) {i j : Nat} {x y : DWaiter} (hx : e.2.1[i]? = some x) (hy : e.2.1[j]? = some y) (hne : j ≠ i) : y.1 ≠ x.1 := by
  have key : ∀ {i j : Nat} {x y : DWaiter}, e.2.1[i]? = some x → e.2.1[j]? = some y → j < i → y.1 ≠ x.1 := by
    intro i j x y hx hy hji
    simp only [validE, Bool.and_eq_true] at hv
    have h1 := all_zip0.1 hv.1 i x hx
    simp only [wOk, Bool.and_eq_true, noneB, List.all_eq_true] at h1
    have h2 := h1.2.2.2 y (List.mem_take_iff_getElem.2 ⟨j, by have := get_lt hx; omega, (List.getElem?_eq_some_iff.1 hy).2⟩)
    simpa using h2
  rcases Nat.lt_or_gt_of_ne hne with h | h
  · exact key hx hy h
  · exact fun q => key hy hx h q.symm

theorem impl_EndpointCancel_ok (e : DEndpoint) (n : Int) (h : e.2.1.length ≤ 1048577) : impl_EndpointCancel e n = some (cancE e n) := by
  unfold impl_EndpointCancel impl_EndpointCancelK cancE
  have em : (e.1, e.2.1, ()) = e := rfl
  rw [em, impl_EndpointValid_ok e h]
  cases hv : validE e with
  | false => rfl
  | true =>
    simp only [B7, Bool.not_true, cond_false, cond_true, at_ok e n h]
    unfold ixOf
    cases hf : e.2.1.findIdx? (fun x => decide (x.1 = n)) with
    | none =>
      have hfil : (e.2.1.filter fun x => !decide (x.1 = n)) = e.2.1 := List.filter_eq_self.2 fun y hy => by
        have := List.findIdx?_eq_none_iff.1 hf y hy
        simpa using this
      simp only [hfil]
      have hpos : e.1 = true → 0 < e.2.1.length := fun he => by
        simp only [validE, Bool.and_eq_true, he] at hv
        simpa using hv.2
      simp only [show decide ((-1 : Int) < 0) = true from rfl, cond_true, clone_Waiter_ok _ h, B7]
      cases he : e.1 with
      | false => simp
      | true => simp [hpos he]
    | some k =>
      obtain ⟨hk, hp, _⟩ := List.findIdx?_eq_some_iff_getElem.1 hf
      have hx : e.2.1[k]? = some e.2.1[k] := List.getElem?_eq_getElem hk
      have hn : (e.2.1[k]).1 = n := by simpa using hp
      have hfil := filter_out hx (fun j y hj hy => valid_distinct hv hx hy hj)
      rw [hn] at hfil
      have hd : ¬ ((k : Int) < 0) := by omega
      simp only [hd, decide_false, cond_false]
      unfold impl_Endpoint_without impl_Endpoint_withoutK
      obtain ⟨r, hr1, hr2⟩ := Delete_Waiter_ok e.2.1 k hk
      rw [Clone_Waiter_ok _ h]
      simp only [B7, wrapS (show k < 4611686018427387904 by omega)]
      rw [hr1]
      simp only [B7]
      rw [hr2, clone_Waiter_ok _ (by simp; omega), ← hfil]
      simp only [B7]
      have hlt : (e.2.1.filter fun x => !decide (x.1 = n)).length < e.2.1.length := by rw [hfil]; simp; omega
      cases e.1 <;> simp [hlt]

theorem cancE_length (e : DEndpoint) (n : Int) : (cancE e n).2.2.length ≤ e.2.1.length := by
  unfold cancE
  cases validE e with
  | false => simp
  | true => exact List.length_filter_le _ _

theorem markEndpoint_ok (a : Bool) (xs : List DWaiter) (h : xs.length ≤ 1048577) : laws_markEndpoint a 1 xs = some (1 + 4 * (xs.length : Int), marks EWaiter 4 xs.length 1) := by
  unfold laws_markEndpoint laws_markEndpointK
  rw [markWaiterS_ok xs 1 (by omega) (by omega)]
  rfl

theorem heldEndpoint_ok (a : Bool) (n : Nat) (h : n ≤ 1048577) : laws_heldEndpoint (a, marks EWaiter 4 n 1, ()) 1 = some (1 + 4 * (n : Int)) := by
  unfold laws_heldEndpoint laws_heldEndpointK
  rw [heldWaiterS_ok n 1 (by omega) (by omega) h]
  have : ¬ ((1 : Int) + 4 * (n : Int) < 0) := by omega
  simp [this]

theorem FnExactEndpointCancel_law (e : DEndpoint) (n : Int) (h : WfD (.cons tEndpoint (.cons I .nil)) (e, n, ())) : laws_FnExactEndpointCancel e n = some true := by
  have hl : e.2.1.length ≤ 9223372036854775807 := by have := h.1.2.1.1; simp only [maxLen] at this; omega
  have em : (e.1, e.2.1, ()) = e := rfl
  unfold laws_FnExactEndpointCancel laws_FnExactEndpointCancelK
  rw [em, szEndpoint_ok e hl]
  by_cases hs : e.2.1.length ≤ 1048576
  · have h0 : ¬ (1048576 - (e.2.1.length : Int) < 0) := by omega
    have hc := cancE_length e n
    have k1 : ¬ ((1 : Int) + 4 * ((cancE e n).2.2.length : Int) < 0) := by omega
    have k2 : ¬ ((1 : Int) + 4 * (e.2.1.length : Int) < 0) := by omega
    simp [hs, h0, toEndpoint_ok e (by omega), impl_EndpointCancel_ok e n (by omega), spec_EndpointCancel_ok e n (by omega), eqEndpoint_ok e e (by omega), eqEndpoint_ok ((cancE e n).1, (cancE e n).2.2, ()) ((cancE e n).1, (cancE e n).2.2, ()) (show (cancE e n).2.2.length ≤ 1048577 by omega),
      markEndpoint_ok e.1 e.2.1 (by omega), markEndpoint_ok (cancE e n).1 (cancE e n).2.2 (by omega), heldEndpoint_ok (cancE e n).1 (cancE e n).2.2.length (by omega), k1, k2]
  · simp [hs]

end Go.Ev
