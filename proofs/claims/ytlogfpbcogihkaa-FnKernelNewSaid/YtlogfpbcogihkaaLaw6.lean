/-
  New kernels.
-/
import Derived.Test.YtlogfpbcogihkaaLaw3
namespace Go.Ev
set_option linter.unusedVariables false
set_option linter.unusedSimpArgs false
set_option maxRecDepth 100000
set_option synthInstance.maxSize 2000
set_option synthInstance.maxHeartbeats 400000

/-! ### new kernels -/

def newK (b n : Int) : Int × Int × Int × Int × List DEntry × List Int :=
  bif rgt b 0 16 && rgt n 0 40 then (0, b, 0, 0, [], List.replicate n.toNat (-1)) else (0, 0, 0, 0, [], [])

theorem fold_const (c : Int) : ∀ (r s : List Int), r.foldl (fun s _ => s ++ [c]) s = s ++ List.replicate r.length c
  | [], s => by simp
  | x :: r, s => by
    rw [List.foldl_cons, fold_const c r]
    simp [List.replicate_succ, List.append_assoc]

theorem spec_NewKernel_ok (b n : Int) : spec_NewKernel b n = some (newK b n) := by
  unfold spec_NewKernel spec_NewKernelK newK
  rw [l1In_ok, l1In_ok]
  show (bif (!(!rgt b 0 16)) then (bif (!rgt n 0 40) then _ else _) else _) = _
  cases hb : rgt b 0 16 with
  | false => rfl
  | true =>
    cases hn : rgt n 0 40 with
    | false => rfl
    | true =>
      simp only [rgt, Bool.and_eq_true, decide_eq_true_eq] at hn
      obtain ⟨m, rfl⟩ : ∃ m : Nat, n = (m : Int) := ⟨n.toNat, by omega⟩
      have hl : (List.replicate m (0 : Int)).length = m := by simp
      have := loop_list1 (nxt := spec_NewKernel_l0) (List.replicate m (0 : Int)) (fun i s => ((m : Int), (i : Int), 0, 0, 0, 0, 0, b, 0, 0, [], [], [], s, ())) (fun _ x s => .inl (s ++ [(-1 : Int)])) (fun s => (0, 0, 0, 0, 0, b, 0, 0, [], [], [], s, ())) (fun i s => s.length = i) []
        (fun i x s hs hx => ?_) (fun i x s s' hs hx e => ?_) (fun s _ => ?_) rfl (st := ((m : Int), 0, 0, 0, 0, 0, 0, b, 0, 0, [], [], [], [], ())) rfl
      · show (loopF spec_NewKernel_l0 ((m : Int), 0, 0, 0, 0, 0, 0, b, 0, 0, [], [], [], [], ())).bind _ = _
        rw [this, goL_fold (fun s (_ : Int) => s ++ [(-1 : Int)]), fold_const]
        simp
      · have hi := get_lt hx
        rw [hl] at hi
        have hd : decide ((i : Int) < (m : Int)) = true := by simp; omega
        simp only [spec_NewKernel_l0, spec_NewKernel_l0K, hd, cond_true, wrapS (show i < 4611686018427387904 by omega), goTo_l]
        rw [chk_pos (by simp only [bigRow]; omega)]
      · cases e; simp [hs]
      · rw [hl]
        simp only [spec_NewKernel_l0, spec_NewKernel_l0K, dec_nlt, cond_false]

theorem mul_ok : ∀ m : Fin 41, math_bits_Mul (IntKind.wrap .u64 (([(-1 : Int)].length : Nat) : Int)) (IntKind.wrap .u64 ((m.val : Nat) : Int)) = some (0, ((m.val : Nat) : Int)) := by decide +kernel

theorem repeat_loop (P : Nat) (hP : P ≤ 40) : ∀ (f n : Nat) (b : List Int), P - n ≤ f → 1 ≤ n → n ≤ P → b.length = P → b.take n = List.replicate n (-1) → loopF slices_Repeat_int_l0 ((n : Int), b, ()) = some (List.replicate P (-1), ()) := by
  intro f
  induction f with
  | zero =>
    intro n b hf h1 h2 hb ht
    obtain rfl : n = P := by omega
    apply loopF_inr
    have hd : decide ((n : Int) < (b.length : Int)) = false := by rw [hb]; simp
    have : b = List.replicate n (-1) := by rw [← ht, List.take_of_length_le (by omega)]
    simp only [slices_Repeat_int_l0, slices_Repeat_int_l0K, hd, cond_false]
    rw [← this]
  | succ f ih =>
    intro n b hf h1 h2 hb ht
    by_cases hlt : n < P
    · have hd : decide ((n : Int) < (b.length : Int)) = true := by rw [hb]; simp; omega
      have hy : ((List.replicate n (-1 : Int)).take (P - n)) = List.replicate (min (P - n) n) (-1) := by rw [List.take_replicate]
      have hs : slices_Repeat_int_l0 ((n : Int), b, ()) = some (.inl (((n + min n (P - n) : Nat) : Int), over b n (List.replicate (min (P - n) n) (-1)), ())) := by
        simp only [slices_Repeat_int_l0, slices_Repeat_int_l0K, hd, cond_true, nnK_nat, List.drop_zero, ht, List.length_replicate, hb, hy]
        have e : ((n : Int) + ((min n (P - n) : Nat) : Int)) = ((n + min n (P - n) : Nat) : Int) := by omega
        rw [chk_pos h2, chk_pos h2, e, wrap64 (by omega) (by omega), show decide ((n : Int) < (P : Int)) = true from decide_eq_true (by omega)]
        rfl
      rw [loopF_inl hs]
      refine ih _ _ (by omega) (by omega) (by omega) (by rw [over_len _ _ _ (by simp [hb]; omega), hb]) ?_
      have := take_over' b (List.replicate (min (P - n) n) (-1)) (n := n) (by omega)
      rw [List.length_replicate, ht, List.replicate_append_replicate] at this
      rw [Nat.min_comm n (P - n)]
      exact this
    · exact ih n b (by omega) h1 h2 hb ht

theorem Repeat_ok (m : Nat) (h : m ≤ 40) : slices_Repeat_int [(-1 : Int)] (m : Int) = some (List.replicate m (-1)) := by
  unfold slices_Repeat_int slices_Repeat_intK
  have hn : decide ((m : Int) < 0) = false := by simp
  rw [hn, mul_ok ⟨m, by omega⟩]
  have h1 : decide ((0 : Int) > 0) = false := rfl
  have h2 : decide ((m : Int) > 9223372036854775807) = false := decide_eq_false (by omega)
  simp only [cond_false, B7, h1, Bool.not_false, cond_true, h2]
  rw [wrap64 (by omega) (by omega), nnK_nat, chk_pos (by simp only [bigRow]; omega)]
  cases m with
  | zero =>
    have : loopF slices_Repeat_int_l0 (((min [(-1 : Int)].length (List.replicate 0 (0 : Int)).length : Nat) : Int), over (List.replicate 0 (0 : Int)) 0 ([(-1 : Int)].take (List.replicate 0 (0 : Int)).length), ()) = some ([], ()) := loopF_inr rfl
    rw [this]
    rfl
  | succ m =>
    have e1 : ((min [(-1 : Int)].length (List.replicate (m + 1) (0 : Int)).length : Nat) : Int) = ((1 : Nat) : Int) := by simp
    have e2 : over (List.replicate (m + 1) (0 : Int)) 0 ([(-1 : Int)].take (List.replicate (m + 1) (0 : Int)).length) = -1 :: List.replicate m 0 := by
      simp [over, List.replicate_succ]
    rw [e1, e2, repeat_loop (m + 1) h (m + 1) 1 _ (by omega) (by omega) (by omega) (by simp) (by simp)]
    rfl

theorem impl_NewKernel_ok (b n : Int) : impl_NewKernel b n = some (newK b n) := by
  unfold impl_NewKernel impl_NewKernelK newK
  rw [in_ok, in_ok]
  show (bif (!(!rgt b 0 16)) then (bif (!rgt n 0 40) then _ else _) else _) = _
  cases hb : rgt b 0 16 with
  | false => rfl
  | true =>
    cases hn : rgt n 0 40 with
    | false => rfl
    | true =>
      simp only [rgt, Bool.and_eq_true, decide_eq_true_eq] at hn
      obtain ⟨m, rfl⟩ : ∃ m : Nat, n = (m : Int) := ⟨n.toNat, by omega⟩
      simp only [Bool.not_true, Bool.not_false, cond_true, cond_false, Repeat_ok m (by omega), B7, Bool.and_self]
      rfl

theorem newK_len (b n : Int) : (newK b n).2.2.2.2.1.length = 0 ∧ (newK b n).2.2.2.2.2.length ≤ 40 := by
  unfold newK
  cases hb : (rgt b 0 16 && rgt n 0 40) with
  | false => simp
  | true =>
    simp only [rgt, Bool.and_eq_true, decide_eq_true_eq] at hb
    simp
    omega

theorem FnExactNewKernel_law (b n : Int) (h : WfD (.cons I (.cons I .nil)) (b, n, ())) : laws_FnExactNewKernel b n = some true := by
  unfold laws_FnExactNewKernel laws_FnExactNewKernelK
  obtain ⟨g1, g2⟩ := newK_len b n
  have q2 : ¬ (1 + 6 * ((newK b n).2.2.2.2.1.length : Int) + 1 * ((newK b n).2.2.2.2.2.length : Int) < 0) := by omega
  have e := eqKernel_ok (((newK b n).1, (newK b n).2.1, (newK b n).2.2.1, ()), (newK b n).2.2.2.2.1, (newK b n).2.2.2.2.2, (newK b n).2.2.2.1, ()) (show (newK b n).2.2.2.2.1.length ≤ 1048577 by omega) (show (newK b n).2.2.2.2.2.length ≤ 1048577 by omega)
  have m := markKernel_ok (newK b n).1 (newK b n).2.1 (newK b n).2.2.1 (newK b n).2.2.2.1 (newK b n).2.2.2.2.1 (newK b n).2.2.2.2.2 (by omega) (by omega)
  have hh := heldKernel_ok ((newK b n).1, (newK b n).2.1, (newK b n).2.2.1, ()) (newK b n).2.2.2.1 (newK b n).2.2.2.2.1.length (newK b n).2.2.2.2.2.length (by omega) (by omega)
  simp only [spec_NewKernel_ok, impl_NewKernel_ok, B7, e, m, hh, Bool.not_true, cond_false, q2, decide_false, bne_self_eq_false]

end Go.Ev
